/- Programs of the M-world for Go functions, each with the proof that the Go text does what it says. Printed by lxgen.py. -/
import Derived.Test.YtfgcobigollfjaaDoorLxT
set_option linter.unusedVariables false
set_option linter.unusedSimpArgs false
set_option linter.unusedSectionVars false
namespace Go.Proofs.YtfgcobigollfjaaDoor.Lx
open Go Go.Proofs
variable [Loops]
/-! ### weir/route.New: function 9 -/
noncomputable def route_New.B : Code := (Tryd.f9.body).getD .skip
noncomputable def route_New.cx : Fx := ⟨Tryd.prog, 9, Tryd.f9, none⟩
noncomputable def route_New.out (r_ : (Option Addr)) : Value := .pointer r_
noncomputable def route_New.F0 (r_ : (Option Addr)) : Reach := .ret (route_New.out r_)
noncomputable def route_New  : M (Option Addr) :=
  mkMap >>= fun b1 =>
  newv 81 c_route_Table (⟨(some b1)⟩ : route_Table) >>= fun b2 =>
  pure (some (pt b2 0))
theorem route_New_ok  : Ref Tryd.prog 9 [] (route_New) route_New.out := by
  refine Ref.of (cd := route_New.B) Tryd.func9 ?_
  show SJ route_New.cx [.code route_New.B] [] [] (route_New) route_New.F0
  unfold route_New
  refine SJ.sr 1 ?_
  refine OJ.go 1 [(0, .pointer none)] ?_
  refine OJ.nil ?_
  refine SJ.sr 4 ?_
  refine OJ.mkMap (d := 1) (t := 79) (owed := []) (fun b1 => ?_)
  refine OW.nil ?_
  refine OJ.build (d := 2) (T := 81) (parts := [(0, .tmp 1)]) (ps := [(0, cM.val (some b1))]) (cd := c_route_Table) (z0 := z_route_Table) (⟨(some b1)⟩ : route_Table) Ty81 rfl (Filled.cons (cd := cM) (q := (some b1)) (o := 0) (by kernel_rfl) (Up_route_Table_routes z_route_Table (some b1)) Filled.nil) ?_
  refine OJ.newOf (d := 3) (op := (.box 81 (.tmp 2))) (cd := c_route_Table) (u := (⟨(some b1)⟩ : route_Table)) (owed := []) (box_run (by kernel_rfl)) (fun b2 => ?_)
  refine OW.nil ?_
  refine OJ.go 1 [(0, .pointer (some (pt b2 0)))] ?_
  refine OJ.nil ?_
  exact SJ.ret rfl (Res.run (ys := [.pointer (some (pt b2 0))]) (.tmp (by kernel_rfl) .nil) rfl)

/-! ### weir/addr.size: function 50 -/
noncomputable def addr_size.B : Code := (Tryd.f50.body).getD .skip
noncomputable def addr_size.cx : Fx := ⟨Tryd.prog, 50, Tryd.f50, none⟩
noncomputable def addr_size.out (r_ : Int) : Value := .int .i64 r_
noncomputable def addr_size.F0 (r_ : Int) : Reach := .ret (addr_size.out r_)
noncomputable def addr_size (a0 : api_IP) : M Int :=
  newv 28 c_api_IP a0 >>= fun b1 =>
  ld (cI .i64) (pt b1 0) >>= fun x2 =>
  if x2 = 6 then
    pure 128
  else
    ld (cI .i64) (pt b1 0) >>= fun x3 =>
    (if x3 ≠ 4 then
        pure true
      else
        cut 1 ⟨some (Addr.add (pt b1 0) 1), 16, 16⟩ (some 4) none none >>= fun r4 =>
        (chk (12 ≤ r4.len) >>= fun _ => nilck r4.a) >>= fun p5 =>
        ld ((cI .u8).arr 12) p5 >>= fun x6 =>
        pure (!eqv x6 (⟨[0, 0, 0, 0, 0, 0, 0, 0, 0, 0, 0, 0], rfl⟩ : (Vec Int 12)))) >>= fun y7 =>
    if y7 = true then
      pure 0
    else
      pure 32
theorem addr_size_ok (a0 : api_IP) : Ref Tryd.prog 50 [c_api_IP.val a0] (addr_size a0) addr_size.out := by
  refine Ref.of (cd := addr_size.B) Tryd.func50 ?_
  show SJ addr_size.cx [.code addr_size.B] [(0, c_api_IP.val a0)] [] (addr_size a0) addr_size.F0
  unfold addr_size
  refine SJ.sr 2 ?_
  refine OJ.newOf (d := 1) (op := (.box 28 (.tmp 0))) (cd := c_api_IP) (u := a0) (owed := []) (box_run (by kernel_rfl)) (fun b1 => ?_)
  refine OW.nil ?_
  refine OJ.go 1 [(2, .int .i64 0)] ?_
  refine OJ.nil ?_
  refine SJ.seq ?_
  refine SJ.sr 3 ?_
  refine OJ.go 1 [(3, .pointer (some (pt b1 0)))] ?_
  refine OJ.ld (d := 4) (y := .tmp 3) (pend2 := fun x2 => []) Ty3 (fun _ => rfl) (fun x2 => ?_)
  refine OJ.go 1 [(5, .bool (x2 == 6))] ?_
  refine OJ.nil ?_
  refine SJ.cond (t := (.tmp 5)) (b := (x2 == 6)) beq_iff_eq (fun hc9 => ?_) (fun hc9 => ?_)
  · refine SJ.sr 1 ?_
    refine OJ.go 1 [(2, .int .i64 128)] ?_
    refine OJ.nil ?_
    exact SJ.ret rfl (Res.run (ys := [.int .i64 128]) (.tmp (by kernel_rfl) .nil) rfl)
  · refine SJ.skip ?_
    refine SJ.seq ?_
    refine SJ.sr 11 ?_
    refine OJ.go 1 [(6, .pointer (some (pt b1 0)))] ?_
    refine OJ.ld (d := 7) (y := .tmp 6) (pend2 := fun x3 => []) Ty3 (fun _ => rfl) (fun x3 => ?_)
    refine OJ.go 2 [(9, .bool (x3 != 4)), (8, .bool (x3 != 4))] ?_
    refine OJ.join (b := (x3 != 4)) [4, 5, 6, 7, 8, 9, 10] [] [16] (fun y7 => [(16, .bool y7)]) [] [] (t := 9) bne_iff_ne (fun hp_ => ?_) (fun hp_ => ?_) (fun _ _ _ _ _ _ h_ => h_) (fun y7 => ?_)
    · refine OJ.go 7 [(16, .bool true), (15, undef), (14, undef), (13, undef), (12, undef), (11, undef), (10, undef)] ?_
      exact OJ.nil ⟨(Cov.mem Cov.nil), rfl, _, rfl, by kernel_rfl⟩
    · refine OJ.go 1 [(10, .pointer (some (Addr.add (pt b1 0) 1)))] ?_
      refine OJ.cutA (d := 11) (t := 26) (E := 5) (y := .tmp 10) (lo := (some (.const (.int .i64 4)))) (hi := none) (mx := none) (lo' := some (.i64, 4)) (hi' := none) (mx' := none) (fun h => by cases h) (fun r4 => ?_)
      refine OJ.toArr (d := 12) (t := 115) (E := 5) (y := .tmp 11) (s := r4) (fun p5 => ?_)
      refine OJ.ld (d := 13) (y := .tmp 12) (pend2 := fun x6 => []) Ty115 (fun _ => rfl) (fun x6 => ?_)
      refine OJ.build (d := 14) (T := 115) (parts := []) (ps := []) (cd := ((cI .u8).arr 12)) (z0 := (Vec.rep 12 0)) (⟨[0, 0, 0, 0, 0, 0, 0, 0, 0, 0, 0, 0], rfl⟩ : (Vec Int 12)) Ty115 rfl Filled.nil ?_
      refine OJ.neq (d := 15) (T := 115) (yT := 115) (y := .tmp 13) (z := .tmp 14) (cd := ((cI .u8).arr 12)) (p := x6) (q := (⟨[0, 0, 0, 0, 0, 0, 0, 0, 0, 0, 0, 0], rfl⟩ : (Vec Int 12))) rfl Eq115 ?_
      refine OJ.go 1 [(16, .bool (!eqv x6 (⟨[0, 0, 0, 0, 0, 0, 0, 0, 0, 0, 0, 0], rfl⟩ : (Vec Int 12))))] ?_
      exact OJ.nil ⟨(Cov.mem Cov.nil), rfl, _, rfl, by kernel_rfl⟩
    · refine OJ.nil ?_
      refine SJ.cond (t := (.tmp 16)) (b := y7) Iff.rfl (fun hc8 => ?_) (fun hc8 => ?_)
      · refine SJ.sr 1 ?_
        refine OJ.go 1 [(2, .int .i64 0)] ?_
        refine OJ.nil ?_
        exact SJ.ret rfl (Res.run (ys := [.int .i64 0]) (.tmp (by kernel_rfl) .nil) rfl)
      · refine SJ.skip ?_
        refine SJ.sr 1 ?_
        refine OJ.go 1 [(2, .int .i64 32)] ?_
        refine OJ.nil ?_
        exact SJ.ret rfl (Res.run (ys := [.int .i64 32]) (.tmp (by kernel_rfl) .nil) rfl)

/-! ### weir/addr.Valid: function 32 -/
noncomputable def addr_Valid.B : Code := (Tryd.f32.body).getD .skip
noncomputable def addr_Valid.cx : Fx := ⟨Tryd.prog, 32, Tryd.f32, none⟩
noncomputable def addr_Valid.out (r_ : Bool) : Value := .bool r_
noncomputable def addr_Valid.F0 (r_ : Bool) : Reach := .ret (addr_Valid.out r_)
noncomputable def addr_Valid (a0 : api_IP) : M Bool :=
  slot 28 >>= fun b1 =>
  addr_size a0 >>= fun r2 =>
  pure (decide (r2 > 0))
theorem addr_Valid_ok (a0 : api_IP) : Ref Tryd.prog 32 [c_api_IP.val a0] (addr_Valid a0) addr_Valid.out := by
  refine Ref.of (cd := addr_Valid.B) Tryd.func32 ?_
  show SJ addr_Valid.cx [.code addr_Valid.B] [(0, c_api_IP.val a0)] [] (addr_Valid a0) addr_Valid.F0
  unfold addr_Valid
  refine SJ.sr 2 ?_
  refine OJ.slotOf (d := 1) (op := (.box 28 (.tmp 0))) (cd := c_api_IP) (u := a0) (owed := []) (box_run (by kernel_rfl)) (fun b1 => ?_)
  refine OW.nil ?_
  refine OJ.go 1 [(2, .bool false)] ?_
  refine OJ.nil ?_
  refine SJ.sr 4 ?_
  refine OJ.kld (d := 3) (y := .tmp 1) (cd := c_api_IP) (j := 0) (b := b1) (o := 0) a0 (pend2 := []) Ty28 rfl (At.whole _) rfl ?_
  refine OJ.call (d := 4) (g := 50) (ats := #[28]) (args := [.tmp 3]) (owed := []) F50 (addr_size_ok a0) (fun r2 => ?_)
  refine OW.nil ?_
  refine OJ.go 2 [(2, .bool (decide (r2 > 0))), (5, .bool (decide (r2 > 0)))] ?_
  refine OJ.nil ?_
  exact SJ.ret rfl (Res.run (ys := [.bool (decide (r2 > 0))]) (.tmp (by kernel_rfl) .nil) rfl)

/-! ### weir/route.bits: function 48 -/
noncomputable def route_bits.B : Code := (Tryd.f48.body).getD .skip
noncomputable def route_bits.cx : Fx := ⟨Tryd.prog, 48, Tryd.f48, none⟩
noncomputable def route_bits.out (r_ : Int) : Value := .int .i64 r_
noncomputable def route_bits.F0 (r_ : Int) : Reach := .ret (route_bits.out r_)
noncomputable def route_bits (a0 : Int) : M Int :=
  if a0 = 4 then
    pure 32
  else
    pure 128
theorem route_bits_ok (a0 : Int) : Ref Tryd.prog 48 [.int .i64 a0] (route_bits a0) route_bits.out := by
  refine Ref.of (cd := route_bits.B) Tryd.func48 ?_
  show SJ route_bits.cx [.code route_bits.B] [(0, .int .i64 a0)] [] (route_bits a0) route_bits.F0
  unfold route_bits
  refine SJ.sr 1 ?_
  refine OJ.go 1 [(2, .int .i64 0)] ?_
  refine OJ.nil ?_
  refine SJ.seq ?_
  refine SJ.sr 2 ?_
  refine OJ.go 2 [(4, .bool (a0 == 4)), (3, .int .i64 a0)] ?_
  refine OJ.nil ?_
  refine SJ.cond (t := (.tmp 4)) (b := (a0 == 4)) beq_iff_eq (fun hc1 => ?_) (fun hc1 => ?_)
  · refine SJ.sr 1 ?_
    refine OJ.go 1 [(2, .int .i64 32)] ?_
    refine OJ.nil ?_
    exact SJ.ret rfl (Res.run (ys := [.int .i64 32]) (.tmp (by kernel_rfl) .nil) rfl)
  · refine SJ.skip ?_
    refine SJ.sr 1 ?_
    refine OJ.go 1 [(2, .int .i64 128)] ?_
    refine OJ.nil ?_
    exact SJ.ret rfl (Res.run (ys := [.int .i64 128]) (.tmp (by kernel_rfl) .nil) rfl)

/-! ### weir/addr.masked: function 40 -/
noncomputable def addr_masked.B : Code := (Tryd.f40.body).getD .skip
noncomputable def addr_masked.cx : Fx := ⟨Tryd.prog, 40, Tryd.f40, none⟩
noncomputable def addr_masked.out (r_ : (Vec Int 16)) : Value := ((cI .u8).arr 16).val r_
noncomputable def addr_masked.F0 (r_ : (Vec Int 16)) : Reach := .ret (addr_masked.out r_)
noncomputable def addr_masked.F1 (a0 : (Vec Int 16)) (a1 : Int) (b1 : Nat) (b2 : Nat) (b3 : Nat) : (LS (Int × (Vec Int 16)) (Vec Int 16)) → Reach := loopF [.inLoop (c1 (c1 (c2 (c1 (c2 (c2 addr_masked.B)))))), .inBlock 0, .code (c2 (c2 (c2 addr_masked.B)))] (fun s_ : (Int × (Vec Int 16)) => [(1, .int .i64 a1), (2, .pointer (some (pt b1 0))), (4, .pointer (some (pt b2 0))), (5, .pointer (some (pt b3 0))), (8, .int .i64 s_.1)]) (fun s_ : (Int × (Vec Int 16)) => [(b3, ((cI .u8).arr 16).enc s_.2), (b2, ((cI .u8).arr 16).enc (Vec.rep 16 0)), (b1, ((cI .u8).arr 16).enc a0)]) addr_masked.F0
noncomputable def addr_masked.L1 (a0 : (Vec Int 16)) (a1 : Int) (s4 : Int) (s5 : (Vec Int 16)) : M (LS (Int × (Vec Int 16)) (Vec Int 16)) :=
  if s4 < 16 then
    chk ((0 : Int) ≤ s4 ∧ s4 < (16 : Nat)) >>= fun _ =>
    chk (0 ≤ (IntKind.wrap .u64 (if (if 0 < (IntKind.wrap .i64 (a1 - (IntKind.wrap .i64 (8 * s4)))) then (IntKind.wrap .i64 (a1 - (IntKind.wrap .i64 (8 * s4)))) else 0) < 8 then (if 0 < (IntKind.wrap .i64 (a1 - (IntKind.wrap .i64 (8 * s4)))) then (IntKind.wrap .i64 (a1 - (IntKind.wrap .i64 (8 * s4)))) else 0) else 8))) >>= fun _ =>
    chk ((0 : Int) ≤ s4 ∧ s4 < (16 : Nat)) >>= fun _ =>
    pure (LS.next (IntKind.wrap .i64 (s4 + 1), (Vec.s s5 s4 (band .u8 (Vec.g a0 s4 0) (IntKind.wrap .u8 (Int.fdiv 65280 (2 ^ min (Int.toNat (IntKind.wrap .u64 (if (if 0 < (IntKind.wrap .i64 (a1 - (IntKind.wrap .i64 (8 * s4)))) then (IntKind.wrap .i64 (a1 - (IntKind.wrap .i64 (8 * s4)))) else 0) < 8 then (if 0 < (IntKind.wrap .i64 (a1 - (IntKind.wrap .i64 (8 * s4)))) then (IntKind.wrap .i64 (a1 - (IntKind.wrap .i64 (8 * s4)))) else 0) else 8))) 64)))))))
  else
    pure (LS.done s5)
theorem addr_masked.L1_ok (a0 : (Vec Int 16)) (a1 : Int) (b1 : Nat) (b2 : Nat) (b3 : Nat) (s4 : Int) (s5 : (Vec Int 16)) :
    SJ addr_masked.cx [.code (c1 (c1 (c2 (c1 (c2 (c2 addr_masked.B)))))), .inLoop (c1 (c1 (c2 (c1 (c2 (c2 addr_masked.B)))))), .inBlock 0, .code (c2 (c2 (c2 addr_masked.B)))] [(1, .int .i64 a1), (2, .pointer (some (pt b1 0))), (4, .pointer (some (pt b2 0))), (5, .pointer (some (pt b3 0))), (8, .int .i64 s4)] [(b3, ((cI .u8).arr 16).enc s5), (b2, ((cI .u8).arr 16).enc (Vec.rep 16 0)), (b1, ((cI .u8).arr 16).enc a0)] (addr_masked.L1 a0 a1 s4 s5) (addr_masked.F1 a0 a1 b1 b2 b3) := by
  unfold addr_masked.L1
  refine SJ.sr 1 ?_
  refine OJ.go 1 [(9, .bool (decide (s4 < 16)))] ?_
  refine OJ.nil ?_
  refine SJ.seq ?_
  refine SJ.cond (t := (.tmp 9)) (b := decide (s4 < 16)) decide_eq_true_iff (fun hc17 => ?_) (fun hc17 => ?_)
  · refine SJ.skip ?_
    refine SJ.seq ?_
    refine SJ.block (id := 1) ?_
    refine SJ.sr 2 ?_
    refine OJ.go 2 [(6, .int .i64 s4), (10, .int .i64 s4)] ?_
    refine OJ.nil ?_
    refine SJ.sr 7 ?_
    refine OJ.go 4 [(14, .int .i64 (IntKind.wrap .i64 (a1 - (IntKind.wrap .i64 (8 * s4))))), (13, .int .i64 (IntKind.wrap .i64 (8 * s4))), (12, .int .i64 s4), (11, .int .i64 a1)] ?_
    refine OJ.max (d := 15) (t := 3) (u := 3) (so := .const (.int .i64 0)) (xo := .tmp 14) (k := .i64) (p := 0) (q := (IntKind.wrap .i64 (a1 - (IntKind.wrap .i64 (8 * s4))))) ?_
    refine OJ.min (d := 16) (t := 3) (u := 3) (so := .const (.int .i64 8)) (xo := .tmp 15) (k := .i64) (p := 8) (q := (if 0 < (IntKind.wrap .i64 (a1 - (IntKind.wrap .i64 (8 * s4)))) then (IntKind.wrap .i64 (a1 - (IntKind.wrap .i64 (8 * s4)))) else 0)) ?_
    refine OJ.go 1 [(7, .int .i64 (if (if 0 < (IntKind.wrap .i64 (a1 - (IntKind.wrap .i64 (8 * s4)))) then (IntKind.wrap .i64 (a1 - (IntKind.wrap .i64 (8 * s4)))) else 0) < 8 then (if 0 < (IntKind.wrap .i64 (a1 - (IntKind.wrap .i64 (8 * s4)))) then (IntKind.wrap .i64 (a1 - (IntKind.wrap .i64 (8 * s4)))) else 0) else 8))] ?_
    refine OJ.nil ?_
    refine SJ.rg 11 ?_
    refine OJ.go 2 [(18, .int .i64 s4), (17, .int .i64 s4)] ?_
    refine OJ.idxK (d := 19) (T := 26) (y := .tmp 2) (j := .tmp 18) (E := 5) (sz := 1) (b := b1) (o := 0) (k := .i64) (fun hb12 hb13 => ?_)
    refine OJ.kld (d := 20) (y := .tmp 19) (cd := (cI .u8)) (j := 2) (b := b1) (o := (0 + s4.toNat * 1)) (Vec.g a0 s4 0) (pend2 := []) Ty5 rfl (At.zero (At.arr (z := 0) hb12 hb13)) rfl ?_
    refine OJ.go 2 [(22, .int .u64 (IntKind.wrap .u64 (if (if 0 < (IntKind.wrap .i64 (a1 - (IntKind.wrap .i64 (8 * s4)))) then (IntKind.wrap .i64 (a1 - (IntKind.wrap .i64 (8 * s4)))) else 0) < 8 then (if 0 < (IntKind.wrap .i64 (a1 - (IntKind.wrap .i64 (8 * s4)))) then (IntKind.wrap .i64 (a1 - (IntKind.wrap .i64 (8 * s4)))) else 0) else 8))), (21, .int .i64 (if (if 0 < (IntKind.wrap .i64 (a1 - (IntKind.wrap .i64 (8 * s4)))) then (IntKind.wrap .i64 (a1 - (IntKind.wrap .i64 (8 * s4)))) else 0) < 8 then (if 0 < (IntKind.wrap .i64 (a1 - (IntKind.wrap .i64 (8 * s4)))) then (IntKind.wrap .i64 (a1 - (IntKind.wrap .i64 (8 * s4)))) else 0) else 8))] ?_
    refine OJ.shr (d := 23) (T := 3) (yT := 108) (y := .const (.int .i64 65280)) (z := .tmp 22) (k := .i64) (yk := .u64) (p := 65280) (q := (IntKind.wrap .u64 (if (if 0 < (IntKind.wrap .i64 (a1 - (IntKind.wrap .i64 (8 * s4)))) then (IntKind.wrap .i64 (a1 - (IntKind.wrap .i64 (8 * s4)))) else 0) < 8 then (if 0 < (IntKind.wrap .i64 (a1 - (IntKind.wrap .i64 (8 * s4)))) then (IntKind.wrap .i64 (a1 - (IntKind.wrap .i64 (8 * s4)))) else 0) else 8))) (fun hq16 => ?_)
    refine OJ.go 2 [(25, .int .u8 (band .u8 (Vec.g a0 s4 0) (IntKind.wrap .u8 (Int.fdiv 65280 (2 ^ min (Int.toNat (IntKind.wrap .u64 (if (if 0 < (IntKind.wrap .i64 (a1 - (IntKind.wrap .i64 (8 * s4)))) then (IntKind.wrap .i64 (a1 - (IntKind.wrap .i64 (8 * s4)))) else 0) < 8 then (if 0 < (IntKind.wrap .i64 (a1 - (IntKind.wrap .i64 (8 * s4)))) then (IntKind.wrap .i64 (a1 - (IntKind.wrap .i64 (8 * s4)))) else 0) else 8))) 64))))), (24, .int .u8 (IntKind.wrap .u8 (Int.fdiv 65280 (2 ^ min (Int.toNat (IntKind.wrap .u64 (if (if 0 < (IntKind.wrap .i64 (a1 - (IntKind.wrap .i64 (8 * s4)))) then (IntKind.wrap .i64 (a1 - (IntKind.wrap .i64 (8 * s4)))) else 0) < 8 then (if 0 < (IntKind.wrap .i64 (a1 - (IntKind.wrap .i64 (8 * s4)))) then (IntKind.wrap .i64 (a1 - (IntKind.wrap .i64 (8 * s4)))) else 0) else 8))) 64))))] ?_
    refine OJ.idxK (d := 26) (T := 26) (y := .tmp 5) (j := .tmp 17) (E := 5) (sz := 1) (b := b3) (o := 0) (k := .i64) (fun hb14 hb15 => ?_)
    refine OJ.kst (y := .tmp 26) (z := .tmp 25) (cd := (cI .u8)) (u := (band .u8 (Vec.g a0 s4 0) (IntKind.wrap .u8 (Int.fdiv 65280 (2 ^ min (Int.toNat (IntKind.wrap .u64 (if (if 0 < (IntKind.wrap .i64 (a1 - (IntKind.wrap .i64 (8 * s4)))) then (IntKind.wrap .i64 (a1 - (IntKind.wrap .i64 (8 * s4)))) else 0) < 8 then (if 0 < (IntKind.wrap .i64 (a1 - (IntKind.wrap .i64 (8 * s4)))) then (IntKind.wrap .i64 (a1 - (IntKind.wrap .i64 (8 * s4)))) else 0) else 8))) 64))))) (j := 0) (b := b3) (o := (0 + s4.toNat * 1)) (((cI .u8).arr 16).enc (Vec.s s5 s4 (band .u8 (Vec.g a0 s4 0) (IntKind.wrap .u8 (Int.fdiv 65280 (2 ^ min (Int.toNat (IntKind.wrap .u64 (if (if 0 < (IntKind.wrap .i64 (a1 - (IntKind.wrap .i64 (8 * s4)))) then (IntKind.wrap .i64 (a1 - (IntKind.wrap .i64 (8 * s4)))) else 0) < 8 then (if 0 < (IntKind.wrap .i64 (a1 - (IntKind.wrap .i64 (8 * s4)))) then (IntKind.wrap .i64 (a1 - (IntKind.wrap .i64 (8 * s4)))) else 0) else 8))) 64)))))) (owed := []) Ty5 rfl (Upd.zero (Upd.arr hb14 hb15)) rfl ?_
    refine OW.nil ?_
    refine OJ.nil ?_
    refine SJ.inBlock ?_
    refine SJ.rg 2 ?_
    refine OJ.go 2 [(8, .int .i64 (IntKind.wrap .i64 (s4 + 1))), (27, .int .i64 (IntKind.wrap .i64 (s4 + 1)))] ?_
    refine OJ.nil ?_
    exact SJ.at_ [1, 2, 4, 5, 8] rfl
  · refine SJ.exit (id := 0) (by rfl) ?_
    refine SJ.sr 2 ?_
    refine OJ.kld (d := 28) (y := .tmp 5) (cd := ((cI .u8).arr 16)) (j := 0) (b := b3) (o := 0) s5 (pend2 := []) Ty26 rfl (At.whole _) rfl ?_
    refine OJ.kst (y := .tmp 4) (z := .tmp 28) (cd := ((cI .u8).arr 16)) (u := s5) (j := 1) (b := b2) (o := 0) (((cI .u8).arr 16).enc s5) (owed := []) Ty26 rfl (Upd.whole ((Cod.len _ _).trans (Cod.len _ _).symm)) rfl ?_
    refine OW.nil ?_
    refine OJ.nil ?_
    exact SJ.ret rfl (Res.run (ys := [((cI .u8).arr 16).val s5]) (.cell (j := 1) (b := b2) (cd := ((cI .u8).arr 16)) (q := s5) (by kernel_rfl) rfl Ty26 (At.whole _) .nil) rfl)
noncomputable def addr_masked (a0 : (Vec Int 16)) (a1 : Int) : M (Vec Int 16) :=
  slot 26 >>= fun b1 =>
  slot 26 >>= fun b2 =>
  slot 26 >>= fun b3 =>
  loopM (fun s_ : (Int × (Vec Int 16)) => addr_masked.L1 a0 a1 s_.1 s_.2) (0, (Vec.rep 16 0))
theorem addr_masked_ok (a0 : (Vec Int 16)) (a1 : Int) : Ref Tryd.prog 40 [((cI .u8).arr 16).val a0, .int .i64 a1] (addr_masked a0 a1) addr_masked.out := by
  refine Ref.of (cd := addr_masked.B) Tryd.func40 ?_
  show SJ addr_masked.cx [.code addr_masked.B] [(0, ((cI .u8).arr 16).val a0), (1, .int .i64 a1)] [] (addr_masked a0 a1) addr_masked.F0
  unfold addr_masked
  refine SJ.sr 2 ?_
  refine OJ.slotOf (d := 2) (op := (.box 26 (.tmp 0))) (cd := ((cI .u8).arr 16)) (u := a0) (owed := []) (box_run (by kernel_rfl)) (fun b1 => ?_)
  refine OW.nil ?_
  refine OJ.slotOf (d := 4) (op := (.alloc 26)) (cd := ((cI .u8).arr 16)) (u := (Vec.rep 16 0)) (owed := []) (alloc_run Ty26) (fun b2 => ?_)
  refine OW.nil ?_
  refine OJ.nil ?_
  refine SJ.sr 1 ?_
  refine OJ.slotOf (d := 5) (op := (.alloc 26)) (cd := ((cI .u8).arr 16)) (u := (Vec.rep 16 0)) (owed := []) (alloc_run Ty26) (fun b3 => ?_)
  refine OW.nil ?_
  refine OJ.nil ?_
  refine SJ.seq ?_
  refine SJ.sr 1 ?_
  refine OJ.go 1 [(8, .int .i64 0)] ?_
  refine OJ.nil ?_
  refine SJ.block (id := 0) ?_
  exact SJ.loop (fun s_ : (Int × (Vec Int 16)) => [(1, .int .i64 a1), (2, .pointer (some (pt b1 0))), (4, .pointer (some (pt b2 0))), (5, .pointer (some (pt b3 0))), (8, .int .i64 s_.1)]) (fun s_ : (Int × (Vec Int 16)) => [(b3, ((cI .u8).arr 16).enc s_.2), (b2, ((cI .u8).arr 16).enc (Vec.rep 16 0)), (b1, ((cI .u8).arr 16).enc a0)]) [1, 2, 4, 5, 8] rfl (fun _ _ => rfl) (fun s_ => addr_masked.L1_ok a0 a1 b1 b2 b3 s_.1 s_.2)

/-! ### weir/addr.Mask: function 49 -/
noncomputable def addr_Mask.B : Code := (Tryd.f49.body).getD .skip
noncomputable def addr_Mask.cx : Fx := ⟨Tryd.prog, 49, Tryd.f49, none⟩
noncomputable def addr_Mask.out (r_ : (api_IP × Int)) : Value := .tuple #[c_api_IP.val r_.1, .int .i64 r_.2]
noncomputable def addr_Mask.F0 (r_ : (api_IP × Int)) : Reach := .ret (addr_Mask.out r_)
noncomputable def addr_Mask (a0 : api_IP) (a1 : Int) : M (api_IP × Int) :=
  slot 28 >>= fun b1 =>
  slot 28 >>= fun b2 =>
  addr_size a0 >>= fun r3 =>
  if r3 = 0 then
    pure (z_api_IP, 40)
  else
    (if a1 < 0 then
        pure true
      else
        pure (decide (a1 > r3))) >>= fun y6 =>
    if y6 = true then
      pure (z_api_IP, 45)
    else
      draw >>= fun _ =>
      addr_masked a0.A a1 >>= fun r7 =>
      pure ((⟨a0.V, r7⟩ : api_IP), 0)
theorem addr_Mask_ok (a0 : api_IP) (a1 : Int) : Ref Tryd.prog 49 [c_api_IP.val a0, .int .i64 a1] (addr_Mask a0 a1) addr_Mask.out := by
  refine Ref.of (cd := addr_Mask.B) Tryd.func49 ?_
  show SJ addr_Mask.cx [.code addr_Mask.B] [(0, c_api_IP.val a0), (1, .int .i64 a1)] [] (addr_Mask a0 a1) addr_Mask.F0
  unfold addr_Mask
  refine SJ.sr 3 ?_
  refine OJ.slotOf (d := 2) (op := (.box 28 (.tmp 0))) (cd := c_api_IP) (u := a0) (owed := []) (box_run (by kernel_rfl)) (fun b1 => ?_)
  refine OW.nil ?_
  refine OJ.slotOf (d := 4) (op := (.alloc 28)) (cd := c_api_IP) (u := z_api_IP) (owed := []) (alloc_run Ty28) (fun b2 => ?_)
  refine OW.nil ?_
  refine OJ.go 1 [(5, .int .i64 0)] ?_
  refine OJ.nil ?_
  refine SJ.seq ?_
  refine SJ.sr 3 ?_
  refine OJ.kld (d := 7) (y := .tmp 2) (cd := c_api_IP) (j := 1) (b := b1) (o := 0) a0 (pend2 := []) Ty28 rfl (At.whole _) rfl ?_
  refine OJ.call (d := 8) (g := 50) (ats := #[28]) (args := [.tmp 7]) (owed := []) F50 (addr_size_ok a0) (fun r3 => ?_)
  refine OW.nil ?_
  refine OJ.go 1 [(6, .int .i64 r3)] ?_
  refine OJ.nil ?_
  refine SJ.block (id := 0) ?_
  refine SJ.sr 3 ?_
  refine OJ.go 3 [(9, .bool (r3 == 0)), (11, .bool (r3 == 0)), (10, .int .i64 r3)] ?_
  refine OJ.nil ?_
  refine SJ.cond (t := (.tmp 9)) (b := (r3 == 0)) beq_iff_eq (fun hc9 => ?_) (fun hc9 => ?_)
  · refine SJ.sr 3 ?_
    refine OJ.build (d := 12) (T := 28) (parts := []) (ps := []) (cd := c_api_IP) (z0 := z_api_IP) z_api_IP Ty28 rfl Filled.nil ?_
    refine OJ.kst (y := .tmp 4) (z := .tmp 12) (cd := c_api_IP) (u := z_api_IP) (j := 0) (b := b2) (o := 0) (c_api_IP.enc z_api_IP) (owed := []) Ty28 rfl (Upd.whole ((Cod.len _ _).trans (Cod.len _ _).symm)) rfl ?_
    refine OW.nil ?_
    refine OJ.go 1 [(5, .int .i64 40)] ?_
    refine OJ.nil ?_
    exact SJ.ret rfl (Res.run (ys := [c_api_IP.val z_api_IP, .int .i64 40]) (.cell (j := 0) (b := b2) (cd := c_api_IP) (q := z_api_IP) (by kernel_rfl) rfl Ty28 (At.whole _) (.tmp (by kernel_rfl) .nil)) rfl)
  · refine SJ.sr 8 ?_
    refine OJ.go 3 [(16, .bool (decide (a1 < 0))), (15, .bool (decide (a1 < 0))), (14, .int .i64 a1)] ?_
    refine OJ.join (b := decide (a1 < 0)) [3, 4, 5, 6] [7] [1, 2, 4, 20] (fun y6 => [(1, .int .i64 a1), (2, .pointer (some (pt b1 0))), (4, .pointer (some (pt b2 0))), (20, .bool y6)]) [] [] (t := 16) decide_eq_true_iff (fun hp_ => ?_) (fun hp_ => ?_) (fun _ _ _ _ _ _ h_ => h_) (fun y6 => ?_)
    · refine OJ.go 4 [(20, .bool true), (19, undef), (18, undef), (17, undef)] ?_
      exact OJ.nil ⟨(Cov.mem Cov.nil), rfl, _, rfl, by kernel_rfl⟩
    · refine OJ.go 4 [(20, .bool (decide (a1 > r3))), (19, .bool (decide (a1 > r3))), (18, .int .i64 r3), (17, .int .i64 a1)] ?_
      exact OJ.nil ⟨(Cov.mem Cov.nil), rfl, _, rfl, by kernel_rfl⟩
    · refine OJ.go 1 [(13, .bool y6)] ?_
      refine OJ.nil ?_
      refine SJ.cond (t := (.tmp 13)) (b := y6) Iff.rfl (fun hc8 => ?_) (fun hc8 => ?_)
      · refine SJ.sr 3 ?_
        refine OJ.build (d := 21) (T := 28) (parts := []) (ps := []) (cd := c_api_IP) (z0 := z_api_IP) z_api_IP Ty28 rfl Filled.nil ?_
        refine OJ.kst (y := .tmp 4) (z := .tmp 21) (cd := c_api_IP) (u := z_api_IP) (j := 0) (b := b2) (o := 0) (c_api_IP.enc z_api_IP) (owed := []) Ty28 rfl (Upd.whole ((Cod.len _ _).trans (Cod.len _ _).symm)) rfl ?_
        refine OW.nil ?_
        refine OJ.go 1 [(5, .int .i64 45)] ?_
        refine OJ.nil ?_
        exact SJ.ret rfl (Res.run (ys := [c_api_IP.val z_api_IP, .int .i64 45]) (.cell (j := 0) (b := b2) (cd := c_api_IP) (q := z_api_IP) (by kernel_rfl) rfl Ty28 (At.whole _) (.tmp (by kernel_rfl) .nil)) rfl)
      · refine SJ.skip ?_
        refine SJ.inBlock ?_
        refine SJ.seq ?_
        refine SJ.draw (id := 6) (kd := [0, 1, 0, 1, 0, 2, 0, 2, 0]) (bef := [0, 1, 0, 4, 0, 28, 63, 127, 255]) (ord := [0, 1, 2, 3, 4, 5, 6, 7, 8]) mixed ?_
        refine OJ.go 1 [(22, .pointer (some (pt b1 0)))] ?_
        refine OJ.kld (d := 23) (y := .tmp 22) (cd := (cI .i64)) (j := 1) (b := b1) (o := 0) a0.V (pend2 := [⟨1, 3, (pt b1 0), (cI .i64).val a0.V⟩]) Ty3 rfl (At_api_IP_V a0) rfl ?_
        refine OJ.go 1 [(24, .pointer (some (pt b1 1)))] ?_
        refine OJ.kld (d := 25) (y := .tmp 24) (cd := ((cI .u8).arr 16)) (j := 1) (b := b1) (o := 1) a0.A (pend2 := [⟨3, 26, (pt b1 1), ((cI .u8).arr 16).val a0.A⟩, ⟨1, 3, (pt b1 0), (cI .i64).val a0.V⟩]) Ty26 rfl (At_api_IP_A a0) rfl ?_
        refine OJ.go 1 [(26, .int .i64 a1)] ?_
        refine OJ.call (d := 27) (g := 40) (ats := #[26, 3]) (args := [.tmp 25, .tmp 26]) (owed := [⟨1, 3, (pt b1 0), (cI .i64).val a0.V⟩]) F40 (addr_masked_ok a0.A a1) (fun r7 => ?_)
        refine OW.known (j := 1) (q := a0.V) Ty3 rfl (At_api_IP_V a0) ?_
        refine OW.nil ?_
        refine OJ.build (d := 28) (T := 28) (parts := [(0, .tmp 23), (1, .tmp 27)]) (ps := [(0, (cI .i64).val a0.V), (1, ((cI .u8).arr 16).val r7)]) (cd := c_api_IP) (z0 := z_api_IP) (⟨a0.V, r7⟩ : api_IP) Ty28 rfl (Filled.cons (cd := (cI .i64)) (q := a0.V) (o := 0) (by kernel_rfl) (Up_api_IP_V z_api_IP a0.V) (Filled.cons (cd := ((cI .u8).arr 16)) (q := r7) (o := 1) (by kernel_rfl) (Up_api_IP_A (⟨a0.V, z_api_IP.A⟩ : api_IP) r7) Filled.nil)) ?_
        refine OJ.kst (y := .tmp 4) (z := .tmp 28) (cd := c_api_IP) (u := (⟨a0.V, r7⟩ : api_IP)) (j := 0) (b := b2) (o := 0) (c_api_IP.enc (⟨a0.V, r7⟩ : api_IP)) (owed := []) Ty28 rfl (Upd.whole ((Cod.len _ _).trans (Cod.len _ _).symm)) rfl ?_
        refine OW.nil ?_
        refine OJ.go 1 [(5, .int .i64 0)] ?_
        refine OJ.nil ?_
        exact SJ.ret rfl (Res.run (ys := [c_api_IP.val (⟨a0.V, r7⟩ : api_IP), .int .i64 0]) (.cell (j := 0) (b := b2) (cd := c_api_IP) (q := (⟨a0.V, r7⟩ : api_IP)) (by kernel_rfl) rfl Ty28 (At.whole _) (.tmp (by kernel_rfl) .nil)) rfl)

/-! ### weir/route.isPrefix: function 30 -/
noncomputable def route_isPrefix.B : Code := (Tryd.f30.body).getD .skip
noncomputable def route_isPrefix.cx : Fx := ⟨Tryd.prog, 30, Tryd.f30, none⟩
noncomputable def route_isPrefix.out (r_ : Bool) : Value := .bool r_
noncomputable def route_isPrefix.F0 (r_ : Bool) : Reach := .ret (route_isPrefix.out r_)
noncomputable def route_isPrefix (a0 : api_Prefix) : M Bool :=
  slot 30 >>= fun b1 =>
  draw >>= fun _ =>
  addr_Valid a0.IP >>= fun r2 =>
  (if ¬ (r2 = true) then
      pure true
    else
      pure (decide (a0.Len < 0))) >>= fun y3 =>
  (if y3 = true then
      pure true
    else
      route_bits a0.IP.V >>= fun r4 =>
      pure (decide (a0.Len > r4))) >>= fun y5 =>
  if y5 = true then
    pure false
  else
    addr_Mask a0.IP a0.Len >>= fun r6 =>
    slot 28 >>= fun b7 =>
    (if r6.2 = 0 then
        pure (eqv r6.1 a0.IP)
      else
        pure false) >>= fun y8 =>
    pure y8
theorem route_isPrefix_ok (a0 : api_Prefix) : Ref Tryd.prog 30 [c_api_Prefix.val a0] (route_isPrefix a0) route_isPrefix.out := by
  refine Ref.of (cd := route_isPrefix.B) Tryd.func30 ?_
  show SJ route_isPrefix.cx [.code route_isPrefix.B] [(0, c_api_Prefix.val a0)] [] (route_isPrefix a0) route_isPrefix.F0
  unfold route_isPrefix
  refine SJ.sr 2 ?_
  refine OJ.slotOf (d := 1) (op := (.box 30 (.tmp 0))) (cd := c_api_Prefix) (u := a0) (owed := []) (box_run (by kernel_rfl)) (fun b1 => ?_)
  refine OW.nil ?_
  refine OJ.go 1 [(2, .bool false)] ?_
  refine OJ.nil ?_
  refine SJ.seq ?_
  refine SJ.seq ?_
  refine SJ.draw (id := 1) (kd := [0, 1, 2, 0, 0, 0, 1, 0, 0, 0, 0, 1, 0, 0, 1, 2, 0, 0]) (bef := [0, 1, 3, 7, 15, 31, 63, 127, 255, 511, 1023, 2047, 1023, 5119, 13311, 29695, 65535, 131071]) (ord := [0, 1, 2, 3, 4, 5, 6, 7, 8, 9, 10, 11, 12, 13, 14, 15, 16, 17]) mixed ?_
  refine OJ.go 1 [(5, .pointer (some (pt b1 0)))] ?_
  refine OJ.kld (d := 6) (y := .tmp 5) (cd := c_api_IP) (j := 0) (b := b1) (o := 0) a0.IP (pend2 := [⟨1, 28, (pt b1 0), c_api_IP.val a0.IP⟩]) Ty28 rfl (At_api_Prefix_IP a0) rfl ?_
  refine OJ.call (d := 7) (g := 32) (ats := #[28]) (args := [.tmp 6]) (owed := []) F32 (addr_Valid_ok a0.IP) (fun r2 => ?_)
  refine OW.nil ?_
  refine OJ.go 2 [(9, .bool (!r2)), (8, .bool (!r2))] ?_
  refine OJ.join (b := (!r2)) [5, 6, 7, 8] [9, 10, 11, 12, 13, 14, 15, 16, 17] [1, 13] (fun y3 => [(1, .pointer (some (pt b1 0))), (13, .bool y3)]) [⟨6, 3, (pt b1 17), (cI .i64).val a0.Len⟩, ⟨1, 28, (pt b1 0), c_api_IP.val a0.IP⟩] [] (t := 9) (bnot_iff Iff.rfl) (fun hp_ => ?_) (fun hp_ => ?_) (fun _ _ _ _ _ _ h_ => h_) (fun y3 => ?_)
  · refine OJ.go 4 [(13, .bool true), (12, undef), (11, undef), (10, undef)] ?_
    exact OJ.nil ⟨(Cov.mem (Cov.keep (List.mem_of_getElem? (i := 1) rfl) Cov.nil)), rfl, _, rfl, by kernel_rfl⟩
  · refine OJ.go 1 [(10, .pointer (some (pt b1 17)))] ?_
    refine OJ.kld (d := 11) (y := .tmp 10) (cd := (cI .i64)) (j := 0) (b := b1) (o := 17) a0.Len (pend2 := [⟨6, 3, (pt b1 17), (cI .i64).val a0.Len⟩, ⟨1, 28, (pt b1 0), c_api_IP.val a0.IP⟩]) Ty3 rfl (At_api_Prefix_Len a0) rfl ?_
    refine OJ.go 2 [(13, .bool (decide (a0.Len < 0))), (12, .bool (decide (a0.Len < 0)))] ?_
    exact OJ.nil ⟨(Cov.mem (Cov.keep (List.mem_of_getElem? (i := 0) rfl) (Cov.keep (List.mem_of_getElem? (i := 1) rfl) Cov.nil))), rfl, _, rfl, by kernel_rfl⟩
  · refine OJ.go 1 [(14, .bool y3)] ?_
    refine OJ.join (b := y3) [10, 11, 12, 13, 14, 15, 16, 17] [] [1, 22] (fun y5 => [(1, .pointer (some (pt b1 0))), (22, .bool y5)]) [⟨14, 3, (pt b1 0), (cI .i64).val a0.IP.V⟩, ⟨11, 3, (pt b1 17), (cI .i64).val a0.Len⟩, ⟨6, 3, (pt b1 17), (cI .i64).val a0.Len⟩, ⟨1, 28, (pt b1 0), c_api_IP.val a0.IP⟩] [] (t := 14) Iff.rfl (fun hp_ => ?_) (fun hp_ => ?_) (fun _ _ _ _ _ _ h_ => h_) (fun y5 => ?_)
    · refine OJ.go 8 [(22, .bool true), (21, undef), (20, undef), (19, undef), (18, undef), (17, undef), (16, undef), (15, undef)] ?_
      exact OJ.nil ⟨(Cov.mem (Cov.keep (List.mem_of_getElem? (i := 2) rfl) (Cov.keep (List.mem_of_getElem? (i := 3) rfl) Cov.nil))), rfl, _, rfl, by kernel_rfl⟩
    · refine OJ.go 1 [(15, .pointer (some (pt b1 17)))] ?_
      refine OJ.kld (d := 16) (y := .tmp 15) (cd := (cI .i64)) (j := 0) (b := b1) (o := 17) a0.Len (pend2 := [⟨11, 3, (pt b1 17), (cI .i64).val a0.Len⟩, ⟨6, 3, (pt b1 17), (cI .i64).val a0.Len⟩, ⟨1, 28, (pt b1 0), c_api_IP.val a0.IP⟩]) Ty3 rfl (At_api_Prefix_Len a0) rfl ?_
      refine OJ.go 2 [(18, .pointer (some (pt b1 0))), (17, .pointer (some (pt b1 0)))] ?_
      refine OJ.kld (d := 19) (y := .tmp 18) (cd := (cI .i64)) (j := 0) (b := b1) (o := 0) a0.IP.V (pend2 := [⟨14, 3, (pt b1 0), (cI .i64).val a0.IP.V⟩, ⟨11, 3, (pt b1 17), (cI .i64).val a0.Len⟩, ⟨6, 3, (pt b1 17), (cI .i64).val a0.Len⟩, ⟨1, 28, (pt b1 0), c_api_IP.val a0.IP⟩]) Ty3 rfl (At.trans (At_api_Prefix_IP a0) (At_api_IP_V a0.IP)) rfl ?_
      refine OJ.call (d := 20) (g := 48) (ats := #[3]) (args := [.tmp 19]) (owed := [⟨11, 3, (pt b1 17), (cI .i64).val a0.Len⟩]) F48 (route_bits_ok a0.IP.V) (fun r4 => ?_)
      refine OW.known (j := 0) (q := a0.Len) Ty3 rfl (At_api_Prefix_Len a0) ?_
      refine OW.nil ?_
      refine OJ.go 2 [(22, .bool (decide (a0.Len > r4))), (21, .bool (decide (a0.Len > r4)))] ?_
      exact OJ.nil ⟨(Cov.mem (Cov.keep (List.mem_of_getElem? (i := 0) rfl) (Cov.keep (List.mem_of_getElem? (i := 1) rfl) (Cov.keep (List.mem_of_getElem? (i := 2) rfl) (Cov.keep (List.mem_of_getElem? (i := 3) rfl) Cov.nil))))), rfl, _, rfl, by kernel_rfl⟩
    · refine OJ.nil ?_
      refine SJ.cond (t := (.tmp 22)) (b := y5) Iff.rfl (fun hc9 => ?_) (fun hc9 => ?_)
      · refine SJ.sr 1 ?_
        refine OJ.go 1 [(2, .bool false)] ?_
        refine OJ.nil ?_
        exact SJ.ret rfl (Res.run (ys := [.bool false]) (.tmp (by kernel_rfl) .nil) rfl)
      · refine SJ.skip ?_
        refine SJ.sr 11 ?_
        refine OJ.go 1 [(24, .pointer (some (pt b1 0)))] ?_
        refine OJ.kld (d := 25) (y := .tmp 24) (cd := c_api_IP) (j := 0) (b := b1) (o := 0) a0.IP (pend2 := []) Ty28 rfl (At_api_Prefix_IP a0) rfl ?_
        refine OJ.go 1 [(26, .pointer (some (pt b1 17)))] ?_
        refine OJ.kld (d := 27) (y := .tmp 26) (cd := (cI .i64)) (j := 0) (b := b1) (o := 17) a0.Len (pend2 := []) Ty3 rfl (At_api_Prefix_Len a0) rfl ?_
        refine OJ.call (d := 28) (g := 49) (ats := #[28, 3]) (args := [.tmp 25, .tmp 27]) (owed := []) F49 (addr_Mask_ok a0.IP a0.Len) (fun r6 => ?_)
        refine OW.nil ?_
        refine OJ.go 3 [(30, .int .i64 r6.2), (29, c_api_IP.val r6.1), (23, .tuple #[c_api_IP.val r6.1, .int .i64 r6.2])] ?_
        refine OJ.slotOf (d := 3) (op := (.alloc 28)) (cd := c_api_IP) (u := z_api_IP) (owed := []) (alloc_run Ty28) (fun b7 => ?_)
        refine OW.nil ?_
        refine OJ.kst (y := .tmp 3) (z := .tmp 29) (cd := c_api_IP) (u := r6.1) (j := 0) (b := b7) (o := 0) (c_api_IP.enc r6.1) (owed := []) Ty28 rfl (Upd.whole ((Cod.len _ _).trans (Cod.len _ _).symm)) rfl ?_
        refine OW.nil ?_
        refine OJ.go 1 [(4, .int .i64 r6.2)] ?_
        refine OJ.nil ?_
        refine SJ.sr 9 ?_
        refine OJ.go 3 [(33, .bool (r6.2 == 0)), (32, .bool (r6.2 == 0)), (31, .int .i64 r6.2)] ?_
        refine OJ.join (b := (r6.2 == 0)) [3, 4, 5, 6, 7] [8] [38] (fun y8 => [(38, .bool y8)]) [] [] (t := 33) beq_iff_eq (fun hp_ => ?_) (fun hp_ => ?_) (fun _ _ _ _ _ _ h_ => h_) (fun y8 => ?_)
        · refine OJ.kld (d := 34) (y := .tmp 3) (cd := c_api_IP) (j := 0) (b := b7) (o := 0) r6.1 (pend2 := []) Ty28 rfl (At.whole _) rfl ?_
          refine OJ.go 1 [(35, .pointer (some (pt b1 0)))] ?_
          refine OJ.kld (d := 36) (y := .tmp 35) (cd := c_api_IP) (j := 1) (b := b1) (o := 0) a0.IP (pend2 := []) Ty28 rfl (At_api_Prefix_IP a0) rfl ?_
          refine OJ.eql (d := 37) (T := 28) (yT := 28) (y := .tmp 34) (z := .tmp 36) (cd := c_api_IP) (p := r6.1) (q := a0.IP) rfl Eq28 ?_
          refine OJ.go 1 [(38, .bool (eqv r6.1 a0.IP))] ?_
          exact OJ.nil ⟨(Cov.mem Cov.nil), rfl, _, rfl, by kernel_rfl⟩
        · refine OJ.go 5 [(38, .bool false), (37, undef), (36, undef), (35, undef), (34, undef)] ?_
          exact OJ.nil ⟨(Cov.mem Cov.nil), rfl, _, rfl, by kernel_rfl⟩
        · refine OJ.go 1 [(2, .bool y8)] ?_
          refine OJ.nil ?_
          exact SJ.ret rfl (Res.run (ys := [.bool y8]) (.tmp (by kernel_rfl) .nil) rfl)

/-! ### weir/addr.Class: function 31 -/
noncomputable def addr_Class.B : Code := (Tryd.f31.body).getD .skip
noncomputable def addr_Class.cx : Fx := ⟨Tryd.prog, 31, Tryd.f31, none⟩
noncomputable def addr_Class.out (r_ : Int) : Value := .int .i64 r_
noncomputable def addr_Class.F0 (r_ : Int) : Reach := .ret (addr_Class.out r_)
noncomputable def addr_Class.F1 (a0 : api_IP) (b1 : Nat) (x3 : (Vec addr_net 12)) : (LS Int Int) → Reach := loopF [.inLoop (c1 (c1 (c2 (c1 (c2 (c2 addr_Class.B)))))), .inBlock 0, .code (c2 (c2 (c2 addr_Class.B)))] (fun s_ : Int => [(1, .pointer (some (pt b1 0))), (8, (c_addr_net.arr 12).val x3), (9, .int .i64 s_)]) (fun s_ : Int => [(b1, c_api_IP.enc a0)]) addr_Class.F0
noncomputable def addr_Class.L1 (a0 : api_IP) (x3 : (Vec addr_net 12)) (s4 : Int) : M (LS Int Int) :=
  if s4 < 12 then
    chk ((0 : Int) ≤ s4 ∧ s4 < (12 : Nat)) >>= fun _ =>
    slot 104 >>= fun b14 =>
    draw >>= fun _ =>
    (if ((Vec.g x3 s4 z_addr_net).v) = a0.V then
        addr_masked a0.A ((Vec.g x3 s4 z_addr_net).bits) >>= fun r15 =>
        pure (eqv r15 ((Vec.g x3 s4 z_addr_net).a))
      else
        pure false) >>= fun y16 =>
    if y16 = true then
      pure (LS.done ((Vec.g x3 s4 z_addr_net).class_))
    else
      pure (LS.next (IntKind.wrap .i64 (s4 + 1)))
  else
    pure (LS.done 7)
theorem addr_Class.L1_ok (a0 : api_IP) (b1 : Nat) (x3 : (Vec addr_net 12)) (s4 : Int) :
    SJ addr_Class.cx [.code (c1 (c1 (c2 (c1 (c2 (c2 addr_Class.B)))))), .inLoop (c1 (c1 (c2 (c1 (c2 (c2 addr_Class.B)))))), .inBlock 0, .code (c2 (c2 (c2 addr_Class.B)))] [(1, .pointer (some (pt b1 0))), (8, (c_addr_net.arr 12).val x3), (9, .int .i64 s4)] [(b1, c_api_IP.enc a0)] (addr_Class.L1 a0 x3 s4) (addr_Class.F1 a0 b1 x3) := by
  unfold addr_Class.L1
  refine SJ.sr 1 ?_
  refine OJ.go 1 [(10, .bool (decide (s4 < 12)))] ?_
  refine OJ.nil ?_
  refine SJ.seq ?_
  refine SJ.cond (t := (.tmp 10)) (b := decide (s4 < 12)) decide_eq_true_iff (fun hc18 => ?_) (fun hc18 => ?_)
  · refine SJ.skip ?_
    refine SJ.seq ?_
    refine SJ.block (id := 1) ?_
    refine SJ.sr 3 ?_
    refine OJ.idxV (d := 11) (T := 105) (E := 104) (y := .tmp 8) (j := .tmp 9) (k := .i64) (v0 := x3) Ty104 (fun hb12 hb13 => ?_)
    refine OJ.slotOf (d := 4) (op := (.alloc 104)) (cd := c_addr_net) (u := z_addr_net) (owed := []) (alloc_run Ty104) (fun b14 => ?_)
    refine OW.nil ?_
    refine OJ.kst (y := .tmp 4) (z := .tmp 11) (cd := c_addr_net) (u := (Vec.g x3 s4 z_addr_net)) (j := 0) (b := b14) (o := 0) (c_addr_net.enc (Vec.g x3 s4 z_addr_net)) (owed := []) Ty104 rfl (Upd.whole ((Cod.len _ _).trans (Cod.len _ _).symm)) rfl ?_
    refine OW.nil ?_
    refine OJ.nil ?_
    refine SJ.seq ?_
    refine SJ.draw (id := 6) (kd := [0, 1, 0, 1, 0, 0, 0, 1, 0, 1, 2, 0, 1, 0, 0]) (bef := [0, 1, 0, 4, 15, 31, 63, 127, 63, 319, 1023, 63, 2111, 8191, 16383]) (ord := [0, 1, 2, 3, 4, 5, 6, 7, 8, 9, 11, 12, 10, 13, 14]) mixed ?_
    refine OJ.go 1 [(12, .pointer (some (pt b14 0)))] ?_
    refine OJ.kld (d := 13) (y := .tmp 12) (cd := (cI .i64)) (j := 0) (b := b14) (o := 0) ((Vec.g x3 s4 z_addr_net).v) (pend2 := [⟨1, 3, (pt b14 0), (cI .i64).val ((Vec.g x3 s4 z_addr_net).v)⟩]) Ty3 rfl (At_addr_net_v (Vec.g x3 s4 z_addr_net)) rfl ?_
    refine OJ.go 1 [(14, .pointer (some (pt b1 0)))] ?_
    refine OJ.kld (d := 15) (y := .tmp 14) (cd := (cI .i64)) (j := 1) (b := b1) (o := 0) a0.V (pend2 := [⟨3, 3, (pt b1 0), (cI .i64).val a0.V⟩, ⟨1, 3, (pt b14 0), (cI .i64).val ((Vec.g x3 s4 z_addr_net).v)⟩]) Ty3 rfl (At_api_IP_V a0) rfl ?_
    refine OJ.go 2 [(17, .bool (((Vec.g x3 s4 z_addr_net).v) == a0.V)), (16, .bool (((Vec.g x3 s4 z_addr_net).v) == a0.V))] ?_
    refine OJ.join (b := (((Vec.g x3 s4 z_addr_net).v) == a0.V)) [6, 7, 8, 9, 11, 12, 10, 13, 14] [] [1, 8, 9, 4, 26] (fun y16 => [(1, .pointer (some (pt b1 0))), (8, (c_addr_net.arr 12).val x3), (9, .int .i64 s4), (4, .pointer (some (pt b14 0))), (26, .bool y16)]) [⟨12, 26, (pt b14 1), ((cI .u8).arr 16).val ((Vec.g x3 s4 z_addr_net).a)⟩, ⟨9, 3, (pt b14 17), (cI .i64).val ((Vec.g x3 s4 z_addr_net).bits)⟩, ⟨7, 26, (pt b1 1), ((cI .u8).arr 16).val a0.A⟩, ⟨3, 3, (pt b1 0), (cI .i64).val a0.V⟩, ⟨1, 3, (pt b14 0), (cI .i64).val ((Vec.g x3 s4 z_addr_net).v)⟩] [] (t := 17) beq_iff_eq (fun hp_ => ?_) (fun hp_ => ?_) (fun _ _ _ _ _ _ h_ => h_) (fun y16 => ?_)
    · refine OJ.go 1 [(18, .pointer (some (pt b1 1)))] ?_
      refine OJ.kld (d := 19) (y := .tmp 18) (cd := ((cI .u8).arr 16)) (j := 1) (b := b1) (o := 1) a0.A (pend2 := [⟨7, 26, (pt b1 1), ((cI .u8).arr 16).val a0.A⟩, ⟨3, 3, (pt b1 0), (cI .i64).val a0.V⟩, ⟨1, 3, (pt b14 0), (cI .i64).val ((Vec.g x3 s4 z_addr_net).v)⟩]) Ty26 rfl (At_api_IP_A a0) rfl ?_
      refine OJ.go 1 [(20, .pointer (some (pt b14 17)))] ?_
      refine OJ.kld (d := 21) (y := .tmp 20) (cd := (cI .i64)) (j := 0) (b := b14) (o := 17) ((Vec.g x3 s4 z_addr_net).bits) (pend2 := [⟨9, 3, (pt b14 17), (cI .i64).val ((Vec.g x3 s4 z_addr_net).bits)⟩, ⟨7, 26, (pt b1 1), ((cI .u8).arr 16).val a0.A⟩, ⟨3, 3, (pt b1 0), (cI .i64).val a0.V⟩, ⟨1, 3, (pt b14 0), (cI .i64).val ((Vec.g x3 s4 z_addr_net).v)⟩]) Ty3 rfl (At_addr_net_bits (Vec.g x3 s4 z_addr_net)) rfl ?_
      refine OJ.go 1 [(23, .pointer (some (pt b14 1)))] ?_
      refine OJ.kld (d := 24) (y := .tmp 23) (cd := ((cI .u8).arr 16)) (j := 0) (b := b14) (o := 1) ((Vec.g x3 s4 z_addr_net).a) (pend2 := [⟨12, 26, (pt b14 1), ((cI .u8).arr 16).val ((Vec.g x3 s4 z_addr_net).a)⟩, ⟨9, 3, (pt b14 17), (cI .i64).val ((Vec.g x3 s4 z_addr_net).bits)⟩, ⟨7, 26, (pt b1 1), ((cI .u8).arr 16).val a0.A⟩, ⟨3, 3, (pt b1 0), (cI .i64).val a0.V⟩, ⟨1, 3, (pt b14 0), (cI .i64).val ((Vec.g x3 s4 z_addr_net).v)⟩]) Ty26 rfl (At_addr_net_a (Vec.g x3 s4 z_addr_net)) rfl ?_
      refine OJ.call (d := 22) (g := 40) (ats := #[26, 3]) (args := [.tmp 19, .tmp 21]) (owed := [⟨12, 26, (pt b14 1), ((cI .u8).arr 16).val ((Vec.g x3 s4 z_addr_net).a)⟩]) F40 (addr_masked_ok a0.A ((Vec.g x3 s4 z_addr_net).bits)) (fun r15 => ?_)
      refine OW.known (j := 0) (q := ((Vec.g x3 s4 z_addr_net).a)) Ty26 rfl (At_addr_net_a (Vec.g x3 s4 z_addr_net)) ?_
      refine OW.nil ?_
      refine OJ.eql (d := 25) (T := 26) (yT := 26) (y := .tmp 22) (z := .tmp 24) (cd := ((cI .u8).arr 16)) (p := r15) (q := ((Vec.g x3 s4 z_addr_net).a)) rfl Eq26 ?_
      refine OJ.go 1 [(26, .bool (eqv r15 ((Vec.g x3 s4 z_addr_net).a)))] ?_
      exact OJ.nil ⟨(Cov.mem (Cov.keep (List.mem_of_getElem? (i := 0) rfl) (Cov.keep (List.mem_of_getElem? (i := 1) rfl) (Cov.keep (List.mem_of_getElem? (i := 2) rfl) (Cov.keep (List.mem_of_getElem? (i := 3) rfl) (Cov.keep (List.mem_of_getElem? (i := 4) rfl) Cov.nil)))))), rfl, _, rfl, by kernel_rfl⟩
    · refine OJ.go 9 [(26, .bool false), (25, undef), (22, undef), (24, undef), (23, undef), (21, undef), (20, undef), (19, undef), (18, undef)] ?_
      exact OJ.nil ⟨(Cov.mem (Cov.keep (List.mem_of_getElem? (i := 3) rfl) (Cov.keep (List.mem_of_getElem? (i := 4) rfl) Cov.nil))), rfl, _, rfl, by kernel_rfl⟩
    · refine OJ.nil ?_
      refine SJ.cond (t := (.tmp 26)) (b := y16) Iff.rfl (fun hc17 => ?_) (fun hc17 => ?_)
      · refine SJ.sr 3 ?_
        refine OJ.go 1 [(27, .pointer (some (pt b14 18)))] ?_
        refine OJ.kld (d := 28) (y := .tmp 27) (cd := (cI .i64)) (j := 0) (b := b14) (o := 18) ((Vec.g x3 s4 z_addr_net).class_) (pend2 := []) Ty3 rfl (At_addr_net_class_ (Vec.g x3 s4 z_addr_net)) rfl ?_
        refine OJ.go 1 [(2, .int .i64 ((Vec.g x3 s4 z_addr_net).class_))] ?_
        refine OJ.nil ?_
        exact SJ.ret rfl (Res.run (ys := [.int .i64 ((Vec.g x3 s4 z_addr_net).class_)]) (.tmp (by kernel_rfl) .nil) rfl)
      · refine SJ.skip ?_
        refine SJ.inBlock ?_
        refine SJ.rg 2 ?_
        refine OJ.go 2 [(9, .int .i64 (IntKind.wrap .i64 (s4 + 1))), (29, .int .i64 (IntKind.wrap .i64 (s4 + 1)))] ?_
        refine OJ.nil ?_
        refine SJ.forget (List.Sublist.cons _ (List.Sublist.cons_cons _ List.Sublist.slnil)) ?_
        exact SJ.at_ [1, 8, 9] rfl
  · refine SJ.exit (id := 0) (by rfl) ?_
    refine SJ.sr 1 ?_
    refine OJ.go 1 [(2, .int .i64 7)] ?_
    refine OJ.nil ?_
    exact SJ.ret rfl (Res.run (ys := [.int .i64 7]) (.tmp (by kernel_rfl) .nil) rfl)
noncomputable def addr_Class (a0 : api_IP) : M Int :=
  slot 28 >>= fun b1 =>
  addr_Valid a0 >>= fun r2 =>
  if ¬ (r2 = true) then
    pure 0
  else
    ld (c_addr_net.arr 12) ⟨0, 0, none⟩ >>= fun x3 =>
    loopM (fun s_ : Int => addr_Class.L1 a0 x3 s_) 0
theorem addr_Class_ok (a0 : api_IP) : Ref Tryd.prog 31 [c_api_IP.val a0] (addr_Class a0) addr_Class.out := by
  refine Ref.of (cd := addr_Class.B) Tryd.func31 ?_
  show SJ addr_Class.cx [.code addr_Class.B] [(0, c_api_IP.val a0)] [] (addr_Class a0) addr_Class.F0
  unfold addr_Class
  refine SJ.sr 2 ?_
  refine OJ.slotOf (d := 1) (op := (.box 28 (.tmp 0))) (cd := c_api_IP) (u := a0) (owed := []) (box_run (by kernel_rfl)) (fun b1 => ?_)
  refine OW.nil ?_
  refine OJ.go 1 [(2, .int .i64 0)] ?_
  refine OJ.nil ?_
  refine SJ.seq ?_
  refine SJ.sr 3 ?_
  refine OJ.kld (d := 5) (y := .tmp 1) (cd := c_api_IP) (j := 0) (b := b1) (o := 0) a0 (pend2 := []) Ty28 rfl (At.whole _) rfl ?_
  refine OJ.call (d := 6) (g := 32) (ats := #[28]) (args := [.tmp 5]) (owed := []) F32 (addr_Valid_ok a0) (fun r2 => ?_)
  refine OW.nil ?_
  refine OJ.go 1 [(7, .bool (!r2))] ?_
  refine OJ.nil ?_
  refine SJ.cond (t := (.tmp 7)) (b := (!r2)) (bnot_iff Iff.rfl) (fun hc19 => ?_) (fun hc19 => ?_)
  · refine SJ.sr 1 ?_
    refine OJ.go 1 [(2, .int .i64 0)] ?_
    refine OJ.nil ?_
    exact SJ.ret rfl (Res.run (ys := [.int .i64 0]) (.tmp (by kernel_rfl) .nil) rfl)
  · refine SJ.skip ?_
    refine SJ.seq ?_
    refine SJ.sr 2 ?_
    refine OJ.ld (d := 8) (y := .global 0) (pend2 := fun x3 => []) Ty105 (fun _ => rfl) (fun x3 => ?_)
    refine OJ.go 1 [(9, .int .i64 0)] ?_
    refine OJ.nil ?_
    refine SJ.block (id := 0) ?_
    exact SJ.loop (fun s_ : Int => [(1, .pointer (some (pt b1 0))), (8, (c_addr_net.arr 12).val x3), (9, .int .i64 s_)]) (fun s_ : Int => [(b1, c_api_IP.enc a0)]) [1, 8, 9] rfl (fun _ _ => rfl) (fun s_ => addr_Class.L1_ok a0 b1 x3 s_)

/-! ### (*weir/route.Table).Add: function 10 -/
noncomputable def route_Table_Add.B : Code := (Tryd.f10.body).getD .skip
noncomputable def route_Table_Add.cx : Fx := ⟨Tryd.prog, 10, Tryd.f10, none⟩
noncomputable def route_Table_Add.out (r_ : Int) : Value := .int .i64 r_
noncomputable def route_Table_Add.F0 (r_ : Int) : Reach := .ret (route_Table_Add.out r_)
noncomputable def route_Table_Add.K1 (a0 : (Option Addr)) (a1 : api_Route) (j20 : Bool) : M Int :=
  if j20 = true then
    pure 143
  else
    nilck a0 >>= fun p21 =>
    ld cM p21 >>= fun x22 =>
    mlen x22 >>= fun r23 =>
    if r23 = 256 then
      pure 144
    else
      draw >>= fun _ =>
      nilck a0 >>= fun p24 =>
      ld cM p24 >>= fun x25 =>
      mset c_api_Prefix c_api_Route x25 a1.Prefix a1 >>= fun _ =>
      pure 0
theorem route_Table_Add.K1_ok (a0 : (Option Addr)) (a1 : api_Route) (b1 : Nat) (j20 : Bool) :
    SJ route_Table_Add.cx [.code (c2 (c1 (c2 (c2 (c2 (c2 route_Table_Add.B)))))), .code (c2 (c2 (c2 (c2 (c2 route_Table_Add.B)))))] [(0, .pointer a0), (3, .pointer (some (pt b1 0))), (7, .bool j20)] [(b1, c_api_Route.enc a1)] (route_Table_Add.K1 a0 a1 j20) route_Table_Add.F0 := by
  unfold route_Table_Add.K1
  refine SJ.sr 1 ?_
  refine OJ.go 1 [(59, .bool j20)] ?_
  refine OJ.nil ?_
  refine SJ.cond (t := (.tmp 59)) (b := j20) Iff.rfl (fun hc27 => ?_) (fun hc27 => ?_)
  · refine SJ.sr 1 ?_
    refine OJ.go 1 [(4, .int .i64 143)] ?_
    refine OJ.nil ?_
    exact SJ.ret rfl (Res.run (ys := [.int .i64 143]) (.tmp (by kernel_rfl) .nil) rfl)
  · refine SJ.skip ?_
    refine SJ.seq ?_
    refine SJ.sr 6 ?_
    refine OJ.go 1 [(60, .pointer a0)] ?_
    refine OJ.nilck (d := 61) (y := .tmp 60) (fun p21 => ?_)
    refine OJ.go 1 [(62, .pointer (some p21))] ?_
    refine OJ.ld (d := 63) (y := .tmp 62) (pend2 := fun x22 => []) Ty79 (fun _ => rfl) (fun x22 => ?_)
    refine OJ.mlen (d := 64) (T := 79) (kT := 30) (vT := 32) (x := .tmp 63) (owed := []) (fun r23 => ?_)
    refine OW.nil ?_
    refine OJ.go 1 [(65, .bool (r23 == 256))] ?_
    refine OJ.nil ?_
    refine SJ.cond (t := (.tmp 65)) (b := (r23 == 256)) beq_iff_eq (fun hc26 => ?_) (fun hc26 => ?_)
    · refine SJ.sr 1 ?_
      refine OJ.go 1 [(4, .int .i64 144)] ?_
      refine OJ.nil ?_
      exact SJ.ret rfl (Res.run (ys := [.int .i64 144]) (.tmp (by kernel_rfl) .nil) rfl)
    · refine SJ.skip ?_
      refine SJ.seq ?_
      refine SJ.draw (id := 14) (kd := [0, 0, 0, 1, 0, 1, 1, 2]) (bef := [0, 1, 3, 7, 0, 16, 0, 127]) (ord := [0, 1, 2, 3, 4, 5, 6, 7]) mixed ?_
      refine OJ.go 1 [(66, .pointer a0)] ?_
      refine OJ.nilck (d := 67) (y := .tmp 66) (fun p24 => ?_)
      refine OJ.go 1 [(68, .pointer (some p24))] ?_
      refine OJ.ld (d := 69) (y := .tmp 68) (pend2 := fun x25 => [⟨3, 79, p24, cM.val x25⟩]) Ty79 (fun _ => rfl) (fun x25 => ?_)
      refine OJ.go 1 [(70, .pointer (some (pt b1 0)))] ?_
      refine OJ.kld (d := 71) (y := .tmp 70) (cd := c_api_Prefix) (j := 0) (b := b1) (o := 0) a1.Prefix (pend2 := [⟨5, 30, (pt b1 0), c_api_Prefix.val a1.Prefix⟩, ⟨3, 79, p24, cM.val x25⟩]) Ty30 rfl (At_api_Route_Prefix a1) rfl ?_
      refine OJ.kld (d := 72) (y := .tmp 3) (cd := c_api_Route) (j := 0) (b := b1) (o := 0) a1 (pend2 := [⟨6, 32, (pt b1 0), c_api_Route.val a1⟩, ⟨5, 30, (pt b1 0), c_api_Prefix.val a1.Prefix⟩, ⟨3, 79, p24, cM.val x25⟩]) Ty32 rfl (At.whole _) rfl ?_
      refine OJ.mset (x := .tmp 69) (y := .tmp 71) (q := .tmp 72) (owed := []) Kt79 ?_
      refine OW.nil ?_
      refine OJ.nil ?_
      refine SJ.sr 1 ?_
      refine OJ.go 1 [(4, .int .i64 0)] ?_
      refine OJ.nil ?_
      exact SJ.ret rfl (Res.run (ys := [.int .i64 0]) (.tmp (by kernel_rfl) .nil) rfl)
noncomputable def route_Table_Add.K2 (a0 : (Option Addr)) (a1 : api_Route) : M Int :=
  draws 10 9 (opsOf (c1 (c1 (c2 (c2 (c2 (c2 route_Table_Add.B))))))) >>= fun o10 =>
  if bfr o10 6 10 = true then
    nilck a0 >>= fun p29 =>
    ld cM p29 >>= fun x30 =>
    mget c_api_Prefix c_api_Route z_api_Route x30 a1.Prefix >>= fun r31 =>
    slot 32 >>= fun b32 =>
    same cM p29 x30 >>= fun _ =>
    route_Table_Add.K1 a0 a1 r31.2
  else
    nilck a0 >>= fun p33 =>
    ld cM p33 >>= fun x34 =>
    slot 32 >>= fun b35 =>
    same cM p33 x34 >>= fun _ =>
    mget c_api_Prefix c_api_Route z_api_Route x34 a1.Prefix >>= fun r36 =>
    route_Table_Add.K1 a0 a1 r36.2
theorem route_Table_Add.K2_ok (a0 : (Option Addr)) (a1 : api_Route) (b1 : Nat) :
    SJ route_Table_Add.cx [.code (c2 (c2 (c2 (c2 route_Table_Add.B))))] [(0, .pointer a0), (3, .pointer (some (pt b1 0)))] [(b1, c_api_Route.enc a1)] (route_Table_Add.K2 a0 a1) route_Table_Add.F0 := by
  unfold route_Table_Add.K2
  refine SJ.seq ?_
  refine SJ.seq ?_
  refine SJ.draws (id := 9) (kd := [0, 0, 0, 1, 0, 1, 2, 0, 0, 0, 2, 2, 0]) (bef := [0, 1, 3, 7, 0, 16, 63, 127, 255, 255, 0, 1535, 4095]) (ord := [0, 1, 2, 3, 4, 5, 6, 7, 8, 9, 10, 11, 12]) (E := [(6, 10)]) mixed (fun o10 hg_ => ?_)
  refine SJ.bfr hg_ (by decide) (fun ho28 => ?_) (fun ho28 => ?_)
  · refine SJ.leaf hg_ (kd := [0, 0, 0, 1, 0, 1, 2, 0, 0, 0, 2, 2, 0]) (bef := [0, 1, 3, 7, 0, 16, 63, 127, 255, 255, 0, 1535, 4095]) (ord := [0, 1, 2, 3, 4, 5, 6, 7, 8, 9, 10, 11, 12]) (E := [(6, 10)]) (allB.cons ho28 allB.nil) ?_
    refine OJ.go 1 [(50, .pointer a0)] ?_
    refine OJ.nilck (d := 51) (y := .tmp 50) (fun p29 => ?_)
    refine OJ.go 1 [(52, .pointer (some p29))] ?_
    refine OJ.ld (d := 53) (y := .tmp 52) (pend2 := fun x30 => [⟨3, 79, p29, cM.val x30⟩]) Ty79 (fun _ => rfl) (fun x30 => ?_)
    refine OJ.go 1 [(54, .pointer (some (pt b1 0)))] ?_
    refine OJ.kld (d := 55) (y := .tmp 54) (cd := c_api_Prefix) (j := 0) (b := b1) (o := 0) a1.Prefix (pend2 := [⟨5, 30, (pt b1 0), c_api_Prefix.val a1.Prefix⟩, ⟨3, 79, p29, cM.val x30⟩]) Ty30 rfl (At_api_Route_Prefix a1) rfl ?_
    refine OJ.get1 (d := 56) (x := .tmp 53) (y := .tmp 55) (owed := []) Kt79 (fun r31 => ?_)
    refine OW.nil ?_
    refine OJ.go 3 [(58, .bool r31.2), (57, c_api_Route.val r31.1), (49, .tuple #[c_api_Route.val r31.1, .bool r31.2])] ?_
    refine OJ.slotOf (d := 6) (op := (.alloc 32)) (cd := c_api_Route) (u := z_api_Route) (owed := [⟨5, 30, (pt b1 0), c_api_Prefix.val a1.Prefix⟩, ⟨3, 79, p29, cM.val x30⟩]) (alloc_run Ty32) (fun b32 => ?_)
    refine OW.known (j := 1) (q := a1.Prefix) Ty30 rfl (At_api_Route_Prefix a1) ?_
    refine OW.same Ty79 ?_
    refine OW.nil ?_
    refine OJ.kst (y := .tmp 6) (z := .tmp 57) (cd := c_api_Route) (u := r31.1) (j := 0) (b := b32) (o := 0) (c_api_Route.enc r31.1) (owed := []) Ty32 rfl (Upd.whole ((Cod.len _ _).trans (Cod.len _ _).symm)) rfl ?_
    refine OW.nil ?_
    refine OJ.go 1 [(7, .bool r31.2)] ?_
    refine OJ.nil ?_
    refine SJ.forget (List.Sublist.cons _ (List.Sublist.cons_cons _ List.Sublist.slnil)) ?_
    refine SJ.less [0, 3, 7] (m' := [(0, .pointer a0), (3, .pointer (some (pt b1 0))), (7, .bool r31.2)]) ?_
    exact route_Table_Add.K1_ok a0 a1 b1 r31.2
  · refine SJ.leaf hg_ (kd := [0, 0, 0, 1, 0, 1, 2, 0, 0, 0, 2, 2, 0]) (bef := [0, 1, 3, 7, 0, 16, 63, 127, 255, 255, 0, 1535, 4095]) (ord := [0, 1, 2, 3, 4, 5, 10, 6, 7, 8, 9, 11, 12]) (E := [(10, 6)]) (allB.cons ho28 allB.nil) ?_
    refine OJ.go 1 [(50, .pointer a0)] ?_
    refine OJ.nilck (d := 51) (y := .tmp 50) (fun p33 => ?_)
    refine OJ.go 1 [(52, .pointer (some p33))] ?_
    refine OJ.ld (d := 53) (y := .tmp 52) (pend2 := fun x34 => [⟨3, 79, p33, cM.val x34⟩]) Ty79 (fun _ => rfl) (fun x34 => ?_)
    refine OJ.go 1 [(54, .pointer (some (pt b1 0)))] ?_
    refine OJ.kld (d := 55) (y := .tmp 54) (cd := c_api_Prefix) (j := 0) (b := b1) (o := 0) a1.Prefix (pend2 := [⟨5, 30, (pt b1 0), c_api_Prefix.val a1.Prefix⟩, ⟨3, 79, p33, cM.val x34⟩]) Ty30 rfl (At_api_Route_Prefix a1) rfl ?_
    refine OJ.slotOf (d := 6) (op := (.alloc 32)) (cd := c_api_Route) (u := z_api_Route) (owed := [⟨5, 30, (pt b1 0), c_api_Prefix.val a1.Prefix⟩, ⟨3, 79, p33, cM.val x34⟩]) (alloc_run Ty32) (fun b35 => ?_)
    refine OW.known (j := 1) (q := a1.Prefix) Ty30 rfl (At_api_Route_Prefix a1) ?_
    refine OW.same Ty79 ?_
    refine OW.nil ?_
    refine OJ.get1 (d := 56) (x := .tmp 53) (y := .tmp 55) (owed := []) Kt79 (fun r36 => ?_)
    refine OW.nil ?_
    refine OJ.go 3 [(58, .bool r36.2), (57, c_api_Route.val r36.1), (49, .tuple #[c_api_Route.val r36.1, .bool r36.2])] ?_
    refine OJ.kst (y := .tmp 6) (z := .tmp 57) (cd := c_api_Route) (u := r36.1) (j := 0) (b := b35) (o := 0) (c_api_Route.enc r36.1) (owed := []) Ty32 rfl (Upd.whole ((Cod.len _ _).trans (Cod.len _ _).symm)) rfl ?_
    refine OW.nil ?_
    refine OJ.go 1 [(7, .bool r36.2)] ?_
    refine OJ.nil ?_
    refine SJ.forget (List.Sublist.cons _ (List.Sublist.cons_cons _ List.Sublist.slnil)) ?_
    refine SJ.less [0, 3, 7] (m' := [(0, .pointer a0), (3, .pointer (some (pt b1 0))), (7, .bool r36.2)]) ?_
    exact route_Table_Add.K1_ok a0 a1 b1 r36.2
noncomputable def route_Table_Add (a0 : (Option Addr)) (a1 : api_Route) : M Int :=
  slot 32 >>= fun b1 =>
  route_isPrefix a1.Prefix >>= fun r2 =>
  if ¬ (r2 = true) then
    pure 140
  else
    (if a1.Port < 0 then
        pure true
      else
        pure (decide (a1.Port ≥ 8))) >>= fun y3 =>
    if y3 = true then
      pure 141
    else
      if ¬ (a1.Via = z_api_IP) then
        addr_Class a1.Via >>= fun r37 =>
        addr_Valid a1.Via >>= fun r38 =>
        (if ¬ (r38 = true) then
            pure true
          else
            pure (a1.Via.V != a1.Prefix.IP.V)) >>= fun y39 =>
        (if y39 = true then
            pure true
          else
            (if r37 ≠ 7 then
                pure (r37 != 4)
              else
                pure false) >>= fun y40 =>
            pure y40) >>= fun y41 =>
        if y41 = true then
          pure 142
        else
          route_Table_Add.K2 a0 a1
      else
        route_Table_Add.K2 a0 a1
theorem route_Table_Add_ok (a0 : (Option Addr)) (a1 : api_Route) : Ref Tryd.prog 10 [.pointer a0, c_api_Route.val a1] (route_Table_Add a0 a1) route_Table_Add.out := by
  refine Ref.of (cd := route_Table_Add.B) Tryd.func10 ?_
  show SJ route_Table_Add.cx [.code route_Table_Add.B] [(0, .pointer a0), (1, c_api_Route.val a1)] [] (route_Table_Add a0 a1) route_Table_Add.F0
  unfold route_Table_Add
  refine SJ.sr 2 ?_
  refine OJ.slotOf (d := 3) (op := (.box 32 (.tmp 1))) (cd := c_api_Route) (u := a1) (owed := []) (box_run (by kernel_rfl)) (fun b1 => ?_)
  refine OW.nil ?_
  refine OJ.go 1 [(4, .int .i64 0)] ?_
  refine OJ.nil ?_
  refine SJ.seq ?_
  refine SJ.sr 4 ?_
  refine OJ.go 1 [(8, .pointer (some (pt b1 0)))] ?_
  refine OJ.kld (d := 9) (y := .tmp 8) (cd := c_api_Prefix) (j := 0) (b := b1) (o := 0) a1.Prefix (pend2 := []) Ty30 rfl (At_api_Route_Prefix a1) rfl ?_
  refine OJ.call (d := 10) (g := 30) (ats := #[30]) (args := [.tmp 9]) (owed := []) F30 (route_isPrefix_ok a1.Prefix) (fun r2 => ?_)
  refine OW.nil ?_
  refine OJ.go 1 [(11, .bool (!r2))] ?_
  refine OJ.nil ?_
  refine SJ.cond (t := (.tmp 11)) (b := (!r2)) (bnot_iff Iff.rfl) (fun hc45 => ?_) (fun hc45 => ?_)
  · refine SJ.sr 1 ?_
    refine OJ.go 1 [(4, .int .i64 140)] ?_
    refine OJ.nil ?_
    exact SJ.ret rfl (Res.run (ys := [.int .i64 140]) (.tmp (by kernel_rfl) .nil) rfl)
  · refine SJ.skip ?_
    refine SJ.seq ?_
    refine SJ.sr 8 ?_
    refine OJ.go 1 [(12, .pointer (some (pt b1 18)))] ?_
    refine OJ.kld (d := 13) (y := .tmp 12) (cd := (cI .i64)) (j := 0) (b := b1) (o := 18) a1.Port (pend2 := []) Ty3 rfl (At_api_Route_Port a1) rfl ?_
    refine OJ.go 2 [(15, .bool (decide (a1.Port < 0))), (14, .bool (decide (a1.Port < 0)))] ?_
    refine OJ.join (b := decide (a1.Port < 0)) [4, 5, 6, 7] [] [0, 3, 19] (fun y3 => [(0, .pointer a0), (3, .pointer (some (pt b1 0))), (19, .bool y3)]) [] [] (t := 15) decide_eq_true_iff (fun hp_ => ?_) (fun hp_ => ?_) (fun _ _ _ _ _ _ h_ => h_) (fun y3 => ?_)
    · refine OJ.go 4 [(19, .bool true), (18, undef), (17, undef), (16, undef)] ?_
      exact OJ.nil ⟨(Cov.mem Cov.nil), rfl, _, rfl, by kernel_rfl⟩
    · refine OJ.go 1 [(16, .pointer (some (pt b1 18)))] ?_
      refine OJ.kld (d := 17) (y := .tmp 16) (cd := (cI .i64)) (j := 0) (b := b1) (o := 18) a1.Port (pend2 := []) Ty3 rfl (At_api_Route_Port a1) rfl ?_
      refine OJ.go 2 [(19, .bool (decide (a1.Port ≥ 8))), (18, .bool (decide (a1.Port ≥ 8)))] ?_
      exact OJ.nil ⟨(Cov.mem Cov.nil), rfl, _, rfl, by kernel_rfl⟩
    · refine OJ.nil ?_
      refine SJ.cond (t := (.tmp 19)) (b := y3) Iff.rfl (fun hc44 => ?_) (fun hc44 => ?_)
      · refine SJ.sr 1 ?_
        refine OJ.go 1 [(4, .int .i64 141)] ?_
        refine OJ.nil ?_
        exact SJ.ret rfl (Res.run (ys := [.int .i64 141]) (.tmp (by kernel_rfl) .nil) rfl)
      · refine SJ.skip ?_
        refine SJ.seq ?_
        refine SJ.sr 4 ?_
        refine OJ.go 1 [(20, .pointer (some (pt b1 19)))] ?_
        refine OJ.kld (d := 21) (y := .tmp 20) (cd := c_api_IP) (j := 0) (b := b1) (o := 19) a1.Via (pend2 := []) Ty28 rfl (At_api_Route_Via a1) rfl ?_
        refine OJ.build (d := 22) (T := 28) (parts := []) (ps := []) (cd := c_api_IP) (z0 := z_api_IP) z_api_IP Ty28 rfl Filled.nil ?_
        refine OJ.neq (d := 23) (T := 28) (yT := 28) (y := .tmp 21) (z := .tmp 22) (cd := c_api_IP) (p := a1.Via) (q := z_api_IP) rfl Eq28 ?_
        refine OJ.nil ?_
        refine SJ.cond (t := (.tmp 23)) (b := (!eqv a1.Via z_api_IP)) (bnot_iff eqv_iff) (fun hc43 => ?_) (fun hc43 => ?_)
        · refine SJ.sr 4 ?_
          refine OJ.go 1 [(24, .pointer (some (pt b1 19)))] ?_
          refine OJ.kld (d := 25) (y := .tmp 24) (cd := c_api_IP) (j := 0) (b := b1) (o := 19) a1.Via (pend2 := []) Ty28 rfl (At_api_Route_Via a1) rfl ?_
          refine OJ.call (d := 26) (g := 31) (ats := #[28]) (args := [.tmp 25]) (owed := []) F31 (addr_Class_ok a1.Via) (fun r37 => ?_)
          refine OW.nil ?_
          refine OJ.go 1 [(5, .int .i64 r37)] ?_
          refine OJ.nil ?_
          refine SJ.sr 22 ?_
          refine OJ.go 1 [(27, .pointer (some (pt b1 19)))] ?_
          refine OJ.kld (d := 28) (y := .tmp 27) (cd := c_api_IP) (j := 0) (b := b1) (o := 19) a1.Via (pend2 := []) Ty28 rfl (At_api_Route_Via a1) rfl ?_
          refine OJ.call (d := 29) (g := 32) (ats := #[28]) (args := [.tmp 28]) (owed := []) F32 (addr_Valid_ok a1.Via) (fun r38 => ?_)
          refine OW.nil ?_
          refine OJ.go 2 [(31, .bool (!r38)), (30, .bool (!r38))] ?_
          refine OJ.join (b := (!r38)) [5, 6, 7, 8, 9, 10, 11, 12, 13] [14, 15, 16, 17, 18, 19, 20, 21] [0, 3, 5, 40] (fun y39 => [(0, .pointer a0), (3, .pointer (some (pt b1 0))), (5, .int .i64 r37), (40, .bool y39)]) [] [] (t := 31) (bnot_iff Iff.rfl) (fun hp_ => ?_) (fun hp_ => ?_) (fun _ _ _ _ _ _ h_ => h_) (fun y39 => ?_)
          · refine OJ.go 9 [(40, .bool true), (39, undef), (38, undef), (37, undef), (36, undef), (35, undef), (34, undef), (33, undef), (32, undef)] ?_
            exact OJ.nil ⟨(Cov.mem Cov.nil), rfl, _, rfl, by kernel_rfl⟩
          · refine OJ.go 2 [(33, .pointer (some (pt b1 19))), (32, .pointer (some (pt b1 19)))] ?_
            refine OJ.kld (d := 34) (y := .tmp 33) (cd := (cI .i64)) (j := 0) (b := b1) (o := 19) a1.Via.V (pend2 := []) Ty3 rfl (At.trans (At_api_Route_Via a1) (At_api_IP_V a1.Via)) rfl ?_
            refine OJ.go 3 [(37, .pointer (some (pt b1 0))), (36, .pointer (some (pt b1 0))), (35, .pointer (some (pt b1 0)))] ?_
            refine OJ.kld (d := 38) (y := .tmp 37) (cd := (cI .i64)) (j := 0) (b := b1) (o := 0) a1.Prefix.IP.V (pend2 := []) Ty3 rfl (At.trans (At.trans (At_api_Route_Prefix a1) (At_api_Prefix_IP a1.Prefix)) (At_api_IP_V a1.Prefix.IP)) rfl ?_
            refine OJ.go 2 [(40, .bool (a1.Via.V != a1.Prefix.IP.V)), (39, .bool (a1.Via.V != a1.Prefix.IP.V))] ?_
            exact OJ.nil ⟨(Cov.mem Cov.nil), rfl, _, rfl, by kernel_rfl⟩
          · refine OJ.go 1 [(41, .bool y39)] ?_
            refine OJ.join (b := y39) [15, 16, 17, 18, 19, 20, 21] [] [0, 3, 48] (fun y41 => [(0, .pointer a0), (3, .pointer (some (pt b1 0))), (48, .bool y41)]) [] [] (t := 41) Iff.rfl (fun hp_ => ?_) (fun hp_ => ?_) (fun _ _ _ _ _ _ h_ => h_) (fun y41 => ?_)
            · refine OJ.go 7 [(48, .bool true), (47, undef), (46, undef), (45, undef), (44, undef), (43, undef), (42, undef)] ?_
              exact OJ.nil ⟨(Cov.mem Cov.nil), rfl, _, rfl, by kernel_rfl⟩
            · refine OJ.go 3 [(44, .bool (r37 != 7)), (43, .bool (r37 != 7)), (42, .int .i64 r37)] ?_
              refine OJ.join (b := (r37 != 7)) [18, 19, 20] [21] [0, 3, 41, 47] (fun y40 => [(0, .pointer a0), (3, .pointer (some (pt b1 0))), (41, .bool false), (47, .bool y40)]) [] [] (t := 44) bne_iff_ne (fun hp_ => ?_) (fun hp_ => ?_) (fun _ _ _ _ _ hq_ h_ => ⟨fun e_ he_ => (hq_ e_ he_).elim (fun h => h_.1 e_ h) (fun h => nomatch h), h_.2⟩) (fun y40 => ?_)
              · refine OJ.go 3 [(47, .bool (r37 != 4)), (46, .bool (r37 != 4)), (45, .int .i64 r37)] ?_
                exact OJ.nil ⟨(Cov.mem Cov.nil), rfl, _, rfl, by kernel_rfl⟩
              · refine OJ.go 3 [(47, .bool false), (46, undef), (45, undef)] ?_
                exact OJ.nil ⟨(Cov.mem Cov.nil), rfl, _, rfl, by kernel_rfl⟩
              · refine OJ.go 1 [(48, .bool y40)] ?_
                exact OJ.nil ⟨(Cov.mem Cov.nil), rfl, _, rfl, by kernel_rfl⟩
            · refine OJ.nil ?_
              refine SJ.cond (t := (.tmp 48)) (b := y41) Iff.rfl (fun hc42 => ?_) (fun hc42 => ?_)
              · refine SJ.sr 1 ?_
                refine OJ.go 1 [(4, .int .i64 142)] ?_
                refine OJ.nil ?_
                exact SJ.ret rfl (Res.run (ys := [.int .i64 142]) (.tmp (by kernel_rfl) .nil) rfl)
              · refine SJ.skip ?_
                refine SJ.less [0, 3] (m' := [(0, .pointer a0), (3, .pointer (some (pt b1 0)))]) ?_
                exact route_Table_Add.K2_ok a0 a1 b1
        · refine SJ.skip ?_
          refine SJ.less [0, 3] (m' := [(0, .pointer a0), (3, .pointer (some (pt b1 0)))]) ?_
          exact route_Table_Add.K2_ok a0 a1 b1

/-! ### weir/weirlaw14.filled: function 15 -/
noncomputable def weirlaw14_filled.B : Code := (Tryd.f15.body).getD .skip
noncomputable def weirlaw14_filled.cx : Fx := ⟨Tryd.prog, 15, Tryd.f15, none⟩
noncomputable def weirlaw14_filled.out (r_ : ((Option Addr) × Sl)) : Value := .tuple #[.pointer r_.1, Sl.v r_.2]
noncomputable def weirlaw14_filled.F0 (r_ : ((Option Addr) × Sl)) : Reach := .ret (weirlaw14_filled.out r_)
noncomputable def weirlaw14_filled.F1 (a0 : Sl) (r1 : (Option Addr)) : (LS (Sl × Int) ((Option Addr) × Sl)) → Reach := loopF [.inLoop (c1 (c1 (c2 (c1 (c2 (c2 (c2 (c2 weirlaw14_filled.B)))))))), .inBlock 0, .code (c2 (c2 (c2 (c2 (c2 weirlaw14_filled.B)))))] (fun s_ : (Sl × Int) => [(0, Sl.v a0), (4, .pointer r1), (5, Sl.v s_.1), (6, .int .i64 s_.2)]) (fun s_ : (Sl × Int) => []) weirlaw14_filled.F0
noncomputable def weirlaw14_filled.L1 (a0 : Sl) (r1 : (Option Addr)) (s2 : Sl) (s3 : Int) : M (LS (Sl × Int) ((Option Addr) × Sl)) :=
  (if s3 < (a0.len : Int) then
      pure (decide (s3 < 600))
    else
      pure false) >>= fun y18 =>
  if y18 = true then
    idx a0.a a0.len s3 36 >>= fun p19 =>
    ld c_api_Route p19 >>= fun x20 =>
    route_Table_Add r1 x20 >>= fun r21 =>
    if r21 = 0 then
      idx a0.a a0.len s3 36 >>= fun p26 =>
      ld c_api_Route p26 >>= fun x27 =>
      slot 32 >>= fun b28 =>
      appl c_api_Route 32 64 z_api_Route s2 [x27] >>= fun r29 =>
      pure (LS.next (r29, IntKind.wrap .i64 (s3 + 1)))
    else
      pure (LS.next (s2, IntKind.wrap .i64 (s3 + 1)))
  else
    pure (LS.done (r1, s2))
theorem weirlaw14_filled.L1_ok (a0 : Sl) (r1 : (Option Addr)) (s2 : Sl) (s3 : Int) :
    SJ weirlaw14_filled.cx [.code (c1 (c1 (c2 (c1 (c2 (c2 (c2 (c2 weirlaw14_filled.B)))))))), .inLoop (c1 (c1 (c2 (c1 (c2 (c2 (c2 (c2 weirlaw14_filled.B)))))))), .inBlock 0, .code (c2 (c2 (c2 (c2 (c2 weirlaw14_filled.B)))))] [(0, Sl.v a0), (4, .pointer r1), (5, Sl.v s2), (6, .int .i64 s3)] [] (weirlaw14_filled.L1 a0 r1 s2 s3) (weirlaw14_filled.F1 a0 r1) := by
  unfold weirlaw14_filled.L1
  refine SJ.seq ?_
  refine SJ.sr 8 ?_
  refine OJ.go 5 [(14, .bool (decide (s3 < (a0.len : Int)))), (13, .bool (decide (s3 < (a0.len : Int)))), (12, .int .i64 (a0.len : Int)), (11, Sl.v a0), (10, .int .i64 s3)] ?_
  refine OJ.join (b := decide (s3 < (a0.len : Int))) [5, 6, 7] [] [0, 4, 5, 6, 17] (fun y18 => [(0, Sl.v a0), (4, .pointer r1), (5, Sl.v s2), (6, .int .i64 s3), (17, .bool y18)]) [] [] (t := 14) decide_eq_true_iff (fun hp_ => ?_) (fun hp_ => ?_) (fun _ _ _ _ _ _ h_ => h_) (fun y18 => ?_)
  · refine OJ.go 3 [(17, .bool (decide (s3 < 600))), (16, .bool (decide (s3 < 600))), (15, .int .i64 s3)] ?_
    exact OJ.nil ⟨(Cov.mem Cov.nil), rfl, _, rfl, by kernel_rfl⟩
  · refine OJ.go 3 [(17, .bool false), (16, undef), (15, undef)] ?_
    exact OJ.nil ⟨(Cov.mem Cov.nil), rfl, _, rfl, by kernel_rfl⟩
  · refine OJ.nil ?_
    refine SJ.cond (t := (.tmp 17)) (b := y18) Iff.rfl (fun hc31 => ?_) (fun hc31 => ?_)
    · refine SJ.skip ?_
      refine SJ.seq ?_
      refine SJ.block (id := 1) ?_
      refine SJ.sr 7 ?_
      refine OJ.go 3 [(22, .int .i64 s3), (21, Sl.v a0), (20, .pointer r1)] ?_
      refine OJ.idxS (d := 23) (T := 39) (y := .tmp 21) (j := .tmp 22) (E := 32) (cap := a0.cap) (k := .i64) (fun p19 => ?_)
      refine OJ.ld (d := 24) (y := .tmp 23) (pend2 := fun x20 => []) Ty32 (fun _ => rfl) (fun x20 => ?_)
      refine OJ.call (d := 25) (g := 10) (ats := #[22, 32]) (args := [.tmp 20, .tmp 24]) (owed := []) F10 (route_Table_Add_ok r1 x20) (fun r21 => ?_)
      refine OW.nil ?_
      refine OJ.go 1 [(26, .bool (r21 == 0))] ?_
      refine OJ.nil ?_
      refine SJ.cond (t := (.tmp 26)) (b := (r21 == 0)) beq_iff_eq (fun hc30 => ?_) (fun hc30 => ?_)
      · refine SJ.rg 8 ?_
        refine OJ.go 3 [(29, .int .i64 s3), (28, Sl.v a0), (27, Sl.v s2)] ?_
        refine OJ.idxS (d := 30) (T := 39) (y := .tmp 28) (j := .tmp 29) (E := 32) (cap := a0.cap) (k := .i64) (fun p26 => ?_)
        refine OJ.ld (d := 31) (y := .tmp 30) (pend2 := fun x27 => []) Ty32 (fun _ => rfl) (fun x27 => ?_)
        refine OJ.rowSlot (d := 32) (t := 39) (parts := [(0, .tmp 31)]) (ps := [(0, c_api_Route.val x27)]) (cd := c_api_Route) (⟨[x27], rfl⟩ : Vec api_Route 1) (owed := []) Ty32 (Filled.cons (cd := c_api_Route) (q := x27) (o := 0) rfl (Upd.arr (i := 0) (by decide) (by decide)) Filled.nil) (fun b28 => ?_)
        refine OW.nil ?_
        refine OJ.appl (d := 33) (t := 39) (u := 39) (so := .tmp 27) (xo := .tmp 32) (j := 0) (b := b28) (l := (c_api_Route.arr 1).enc (⟨[x27], rfl⟩ : Vec api_Route 1)) (n := 1) (k := 1) [x27] (owed := []) Ty32 (by rfl) (Cod.arr_enc _ _ _) (by rfl) (fun r29 => ?_)
        refine OW.nil ?_
        refine OJ.go 1 [(5, Sl.v r29)] ?_
        refine OJ.nil ?_
        refine SJ.inBlock ?_
        refine SJ.rg 3 ?_
        refine OJ.go 3 [(6, .int .i64 (IntKind.wrap .i64 (s3 + 1))), (19, .int .i64 (IntKind.wrap .i64 (s3 + 1))), (18, .int .i64 s3)] ?_
        refine OJ.nil ?_
        refine SJ.forget (List.Sublist.cons _ List.Sublist.slnil) ?_
        exact SJ.at_ [0, 4, 5, 6] rfl
      · refine SJ.skip ?_
        refine SJ.inBlock ?_
        refine SJ.rg 3 ?_
        refine OJ.go 3 [(6, .int .i64 (IntKind.wrap .i64 (s3 + 1))), (19, .int .i64 (IntKind.wrap .i64 (s3 + 1))), (18, .int .i64 s3)] ?_
        refine OJ.nil ?_
        exact SJ.at_ [0, 4, 5, 6] rfl
    · refine SJ.exit (id := 0) (by rfl) ?_
      refine SJ.sr 4 ?_
      refine OJ.go 4 [(3, Sl.v s2), (2, .pointer r1), (35, Sl.v s2), (34, .pointer r1)] ?_
      refine OJ.nil ?_
      exact SJ.ret rfl (Res.run (ys := [.pointer r1, Sl.v s2]) (.tmp (by kernel_rfl) (.tmp (by kernel_rfl) .nil)) rfl)
noncomputable def weirlaw14_filled (a0 : Sl) : M ((Option Addr) × Sl) :=
  route_New >>= fun r1 =>
  if r1 = none then
    pure (none, Sl.nil)
  else
    loopM (fun s_ : (Sl × Int) => weirlaw14_filled.L1 a0 r1 s_.1 s_.2) (Sl.nil, 0)
theorem weirlaw14_filled_ok (a0 : Sl) : Ref Tryd.prog 15 [Sl.v a0] (weirlaw14_filled a0) weirlaw14_filled.out := by
  refine Ref.of (cd := weirlaw14_filled.B) Tryd.func15 ?_
  show SJ weirlaw14_filled.cx [.code weirlaw14_filled.B] [(0, Sl.v a0)] [] (weirlaw14_filled a0) weirlaw14_filled.F0
  unfold weirlaw14_filled
  refine SJ.sr 2 ?_
  refine OJ.go 2 [(3, Sl.v Sl.nil), (2, .pointer none)] ?_
  refine OJ.nil ?_
  refine SJ.sr 2 ?_
  refine OJ.call (d := 7) (g := 9) (ats := #[]) (args := []) (owed := []) F9 (route_New_ok ) (fun r1 => ?_)
  refine OW.nil ?_
  refine OJ.go 1 [(4, .pointer r1)] ?_
  refine OJ.nil ?_
  refine SJ.seq ?_
  refine SJ.sr 2 ?_
  refine OJ.go 2 [(9, .bool (Option.isNone r1)), (8, .pointer r1)] ?_
  refine OJ.nil ?_
  refine SJ.cond (t := (.tmp 9)) (b := (Option.isNone r1)) Option.isNone_iff_eq_none (fun hc32 => ?_) (fun hc32 => ?_)
  · refine SJ.sr 2 ?_
    refine OJ.go 2 [(3, Sl.v Sl.nil), (2, .pointer none)] ?_
    refine OJ.nil ?_
    exact SJ.ret rfl (Res.run (ys := [.pointer none, Sl.v Sl.nil]) (.tmp (by kernel_rfl) (.tmp (by kernel_rfl) .nil)) rfl)
  · refine SJ.skip ?_
    refine SJ.sr 1 ?_
    refine OJ.go 1 [(5, Sl.v Sl.nil)] ?_
    refine OJ.nil ?_
    refine SJ.seq ?_
    refine SJ.sr 1 ?_
    refine OJ.go 1 [(6, .int .i64 0)] ?_
    refine OJ.nil ?_
    refine SJ.block (id := 0) ?_
    exact SJ.loop (fun s_ : (Sl × Int) => [(0, Sl.v a0), (4, .pointer r1), (5, Sl.v s_.1), (6, .int .i64 s_.2)]) (fun s_ : (Sl × Int) => []) [0, 4, 5, 6] rfl (fun _ _ => rfl) (fun s_ => weirlaw14_filled.L1_ok a0 r1 s_.1 s_.2)

/-! ### (*weir/route.Table).Len: function 12 -/
noncomputable def route_Table_Len.B : Code := (Tryd.f12.body).getD .skip
noncomputable def route_Table_Len.cx : Fx := ⟨Tryd.prog, 12, Tryd.f12, none⟩
noncomputable def route_Table_Len.out (r_ : Int) : Value := .int .i64 r_
noncomputable def route_Table_Len.F0 (r_ : Int) : Reach := .ret (route_Table_Len.out r_)
noncomputable def route_Table_Len (a0 : (Option Addr)) : M Int :=
  nilck a0 >>= fun p1 =>
  ld cM p1 >>= fun x2 =>
  mlen x2 >>= fun r3 =>
  pure r3
theorem route_Table_Len_ok (a0 : (Option Addr)) : Ref Tryd.prog 12 [.pointer a0] (route_Table_Len a0) route_Table_Len.out := by
  refine Ref.of (cd := route_Table_Len.B) Tryd.func12 ?_
  show SJ route_Table_Len.cx [.code route_Table_Len.B] [(0, .pointer a0)] [] (route_Table_Len a0) route_Table_Len.F0
  unfold route_Table_Len
  refine SJ.sr 1 ?_
  refine OJ.go 1 [(2, .int .i64 0)] ?_
  refine OJ.nil ?_
  refine SJ.sr 6 ?_
  refine OJ.go 1 [(3, .pointer a0)] ?_
  refine OJ.nilck (d := 4) (y := .tmp 3) (fun p1 => ?_)
  refine OJ.go 1 [(5, .pointer (some p1))] ?_
  refine OJ.ld (d := 6) (y := .tmp 5) (pend2 := fun x2 => []) Ty79 (fun _ => rfl) (fun x2 => ?_)
  refine OJ.mlen (d := 7) (T := 79) (kT := 30) (vT := 32) (x := .tmp 6) (owed := []) (fun r3 => ?_)
  refine OW.nil ?_
  refine OJ.go 1 [(2, .int .i64 r3)] ?_
  refine OJ.nil ?_
  exact SJ.ret rfl (Res.run (ys := [.int .i64 r3]) (.tmp (by kernel_rfl) .nil) rfl)

/-! ### weir/weirlaw14.route0: function 16 -/
noncomputable def weirlaw14_route0.B : Code := (Tryd.f16.body).getD .skip
noncomputable def weirlaw14_route0.cx : Fx := ⟨Tryd.prog, 16, Tryd.f16, none⟩
noncomputable def weirlaw14_route0.out (r_ : api_Route) : Value := c_api_Route.val r_
noncomputable def weirlaw14_route0.F0 (r_ : api_Route) : Reach := .ret (weirlaw14_route0.out r_)
noncomputable def weirlaw14_route0  : M api_Route :=
  slot 32 >>= fun b1 =>
  pure (⟨(⟨(⟨4, (⟨[10, 0, 0, 0, 0, 0, 0, 0, 0, 0, 0, 0, 0, 0, 0, 0], rfl⟩ : (Vec Int 16))⟩ : api_IP), 8⟩ : api_Prefix), 1, z_api_Route.Via⟩ : api_Route)
theorem weirlaw14_route0_ok  : Ref Tryd.prog 16 [] (weirlaw14_route0) weirlaw14_route0.out := by
  refine Ref.of (cd := weirlaw14_route0.B) Tryd.func16 ?_
  show SJ weirlaw14_route0.cx [.code weirlaw14_route0.B] [] [] (weirlaw14_route0) weirlaw14_route0.F0
  unfold weirlaw14_route0
  refine SJ.sr 1 ?_
  refine OJ.slotOf (d := 0) (op := (.alloc 32)) (cd := c_api_Route) (u := z_api_Route) (owed := []) (alloc_run Ty32) (fun b1 => ?_)
  refine OW.nil ?_
  refine OJ.nil ?_
  refine SJ.sr 5 ?_
  refine OJ.build (d := 1) (T := 26) (parts := [(0, .const (.int .u8 10))]) (ps := [(0, (cI .u8).val 10)]) (cd := ((cI .u8).arr 16)) (z0 := (Vec.rep 16 0)) (⟨[10, 0, 0, 0, 0, 0, 0, 0, 0, 0, 0, 0, 0, 0, 0, 0], rfl⟩ : (Vec Int 16)) Ty26 rfl (Filled.cons (cd := (cI .u8)) (q := 10) (o := 0) (by kernel_rfl) (Upd.arr (i := 0) (by decide) (by decide)) Filled.nil) ?_
  refine OJ.build (d := 2) (T := 28) (parts := [(0, .const (.int .i64 4)), (1, .tmp 1)]) (ps := [(0, (cI .i64).val 4), (1, ((cI .u8).arr 16).val (⟨[10, 0, 0, 0, 0, 0, 0, 0, 0, 0, 0, 0, 0, 0, 0, 0], rfl⟩ : (Vec Int 16)))]) (cd := c_api_IP) (z0 := z_api_IP) (⟨4, (⟨[10, 0, 0, 0, 0, 0, 0, 0, 0, 0, 0, 0, 0, 0, 0, 0], rfl⟩ : (Vec Int 16))⟩ : api_IP) Ty28 rfl (Filled.cons (cd := (cI .i64)) (q := 4) (o := 0) (by kernel_rfl) (Up_api_IP_V z_api_IP 4) (Filled.cons (cd := ((cI .u8).arr 16)) (q := (⟨[10, 0, 0, 0, 0, 0, 0, 0, 0, 0, 0, 0, 0, 0, 0, 0], rfl⟩ : (Vec Int 16))) (o := 1) (by kernel_rfl) (Up_api_IP_A (⟨4, z_api_IP.A⟩ : api_IP) (⟨[10, 0, 0, 0, 0, 0, 0, 0, 0, 0, 0, 0, 0, 0, 0, 0], rfl⟩ : (Vec Int 16))) Filled.nil)) ?_
  refine OJ.build (d := 3) (T := 30) (parts := [(0, .tmp 2), (1, .const (.int .i64 8))]) (ps := [(0, c_api_IP.val (⟨4, (⟨[10, 0, 0, 0, 0, 0, 0, 0, 0, 0, 0, 0, 0, 0, 0, 0], rfl⟩ : (Vec Int 16))⟩ : api_IP)), (1, (cI .i64).val 8)]) (cd := c_api_Prefix) (z0 := z_api_Prefix) (⟨(⟨4, (⟨[10, 0, 0, 0, 0, 0, 0, 0, 0, 0, 0, 0, 0, 0, 0, 0], rfl⟩ : (Vec Int 16))⟩ : api_IP), 8⟩ : api_Prefix) Ty30 rfl (Filled.cons (cd := c_api_IP) (q := (⟨4, (⟨[10, 0, 0, 0, 0, 0, 0, 0, 0, 0, 0, 0, 0, 0, 0, 0], rfl⟩ : (Vec Int 16))⟩ : api_IP)) (o := 0) (by kernel_rfl) (Up_api_Prefix_IP z_api_Prefix (⟨4, (⟨[10, 0, 0, 0, 0, 0, 0, 0, 0, 0, 0, 0, 0, 0, 0, 0], rfl⟩ : (Vec Int 16))⟩ : api_IP)) (Filled.cons (cd := (cI .i64)) (q := 8) (o := 17) (by kernel_rfl) (Up_api_Prefix_Len (⟨(⟨4, (⟨[10, 0, 0, 0, 0, 0, 0, 0, 0, 0, 0, 0, 0, 0, 0, 0], rfl⟩ : (Vec Int 16))⟩ : api_IP), z_api_Prefix.Len⟩ : api_Prefix) 8) Filled.nil)) ?_
  refine OJ.build (d := 4) (T := 32) (parts := [(0, .tmp 3), (1, .const (.int .i64 1))]) (ps := [(0, c_api_Prefix.val (⟨(⟨4, (⟨[10, 0, 0, 0, 0, 0, 0, 0, 0, 0, 0, 0, 0, 0, 0, 0], rfl⟩ : (Vec Int 16))⟩ : api_IP), 8⟩ : api_Prefix)), (1, (cI .i64).val 1)]) (cd := c_api_Route) (z0 := z_api_Route) (⟨(⟨(⟨4, (⟨[10, 0, 0, 0, 0, 0, 0, 0, 0, 0, 0, 0, 0, 0, 0, 0], rfl⟩ : (Vec Int 16))⟩ : api_IP), 8⟩ : api_Prefix), 1, z_api_Route.Via⟩ : api_Route) Ty32 rfl (Filled.cons (cd := c_api_Prefix) (q := (⟨(⟨4, (⟨[10, 0, 0, 0, 0, 0, 0, 0, 0, 0, 0, 0, 0, 0, 0, 0], rfl⟩ : (Vec Int 16))⟩ : api_IP), 8⟩ : api_Prefix)) (o := 0) (by kernel_rfl) (Up_api_Route_Prefix z_api_Route (⟨(⟨4, (⟨[10, 0, 0, 0, 0, 0, 0, 0, 0, 0, 0, 0, 0, 0, 0, 0], rfl⟩ : (Vec Int 16))⟩ : api_IP), 8⟩ : api_Prefix)) (Filled.cons (cd := (cI .i64)) (q := 1) (o := 18) (by kernel_rfl) (Up_api_Route_Port (⟨(⟨(⟨4, (⟨[10, 0, 0, 0, 0, 0, 0, 0, 0, 0, 0, 0, 0, 0, 0, 0], rfl⟩ : (Vec Int 16))⟩ : api_IP), 8⟩ : api_Prefix), z_api_Route.Port, z_api_Route.Via⟩ : api_Route) 1) Filled.nil)) ?_
  refine OJ.kst (y := .tmp 0) (z := .tmp 4) (cd := c_api_Route) (u := (⟨(⟨(⟨4, (⟨[10, 0, 0, 0, 0, 0, 0, 0, 0, 0, 0, 0, 0, 0, 0, 0], rfl⟩ : (Vec Int 16))⟩ : api_IP), 8⟩ : api_Prefix), 1, z_api_Route.Via⟩ : api_Route)) (j := 0) (b := b1) (o := 0) (c_api_Route.enc (⟨(⟨(⟨4, (⟨[10, 0, 0, 0, 0, 0, 0, 0, 0, 0, 0, 0, 0, 0, 0, 0], rfl⟩ : (Vec Int 16))⟩ : api_IP), 8⟩ : api_Prefix), 1, z_api_Route.Via⟩ : api_Route)) (owed := []) Ty32 rfl (Upd.whole ((Cod.len _ _).trans (Cod.len _ _).symm)) rfl ?_
  refine OW.nil ?_
  refine OJ.nil ?_
  exact SJ.ret rfl (Res.run (ys := [c_api_Route.val (⟨(⟨(⟨4, (⟨[10, 0, 0, 0, 0, 0, 0, 0, 0, 0, 0, 0, 0, 0, 0, 0], rfl⟩ : (Vec Int 16))⟩ : api_IP), 8⟩ : api_Prefix), 1, z_api_Route.Via⟩ : api_Route)]) (.cell (j := 0) (b := b1) (cd := c_api_Route) (q := (⟨(⟨(⟨4, (⟨[10, 0, 0, 0, 0, 0, 0, 0, 0, 0, 0, 0, 0, 0, 0, 0], rfl⟩ : (Vec Int 16))⟩ : api_IP), 8⟩ : api_Prefix), 1, z_api_Route.Via⟩ : api_Route)) (by kernel_rfl) rfl Ty32 (At.whole _) .nil) rfl)

/-! ### weir/route.prefixes$1: function 51 -/
noncomputable def route_prefixes_1.B : Code := (Tryd.f51.body).getD .skip
noncomputable def route_prefixes_1.cx : Fx := ⟨Tryd.prog, 51, Tryd.f51, none⟩
noncomputable def route_prefixes_1.out (r_ : Unit) : Value := .tuple #[]
noncomputable def route_prefixes_1.F0 (r_ : Unit) : Reach := .ret (route_prefixes_1.out r_)
noncomputable def route_prefixes_1.F1 (a0v : Any) (a1 : Addr) : (LS Int Unit) → Reach := loopF [.inLoop (c1 (c1 (c2 (c2 route_prefixes_1.B)))), .inBlock 0] (fun s_ : Int => [(0, a0v.v), (1, .pointer (some a1)), (3, .int .i64 s_)]) (fun s_ : Int => []) route_prefixes_1.F0
noncomputable def route_prefixes_1.L1 (a0 : api_Prefix → M Bool) (a1 : Addr) (s5 : Int) : M (LS Int Unit) :=
  if s5 ≥ 0 then
    ld c_api_IP a1 >>= fun x6 =>
    addr_Mask x6 s5 >>= fun r7 =>
    slot 28 >>= fun b8 =>
    (if r7.2 ≠ 0 then
        pure true
      else
        a0 (⟨r7.1, s5⟩ : api_Prefix) >>= fun r9 =>
        pure (!r9)) >>= fun y10 =>
    if y10 = true then
      pure (LS.done ())
    else
      pure (LS.next (IntKind.wrap .i64 (s5 - 1)))
  else
    pure (LS.done ())
theorem route_prefixes_1.L1_ok (a0v : Any) (a0 : api_Prefix → M Bool) (h_a0 : ∀ (x0_ : api_Prefix), RefV Tryd.prog a0v.v [c_api_Prefix.val x0_] (a0 x0_) (fun r_ : Bool => .bool r_)) (a1 : Addr) (s5 : Int) :
    SJ route_prefixes_1.cx [.code (c1 (c1 (c2 (c2 route_prefixes_1.B)))), .inLoop (c1 (c1 (c2 (c2 route_prefixes_1.B)))), .inBlock 0] [(0, a0v.v), (1, .pointer (some a1)), (3, .int .i64 s5)] [] (route_prefixes_1.L1 a0 a1 s5) (route_prefixes_1.F1 a0v a1) := by
  unfold route_prefixes_1.L1
  refine SJ.seq ?_
  refine SJ.sr 2 ?_
  refine OJ.go 2 [(13, .bool (decide (s5 ≥ 0))), (12, .int .i64 s5)] ?_
  refine OJ.nil ?_
  refine SJ.cond (t := (.tmp 13)) (b := decide (s5 ≥ 0)) decide_eq_true_iff (fun hc12 => ?_) (fun hc12 => ?_)
  · refine SJ.skip ?_
    refine SJ.seq ?_
    refine SJ.block (id := 1) ?_
    refine SJ.sr 9 ?_
    refine OJ.ld (d := 17) (y := .tmp 1) (pend2 := fun x6 => []) Ty28 (fun _ => rfl) (fun x6 => ?_)
    refine OJ.go 1 [(18, .int .i64 s5)] ?_
    refine OJ.call (d := 19) (g := 49) (ats := #[28, 3]) (args := [.tmp 17, .tmp 18]) (owed := []) F49 (addr_Mask_ok x6 s5) (fun r7 => ?_)
    refine OW.nil ?_
    refine OJ.go 3 [(21, .int .i64 r7.2), (20, c_api_IP.val r7.1), (16, .tuple #[c_api_IP.val r7.1, .int .i64 r7.2])] ?_
    refine OJ.slotOf (d := 4) (op := (.alloc 28)) (cd := c_api_IP) (u := z_api_IP) (owed := []) (alloc_run Ty28) (fun b8 => ?_)
    refine OW.nil ?_
    refine OJ.kst (y := .tmp 4) (z := .tmp 20) (cd := c_api_IP) (u := r7.1) (j := 0) (b := b8) (o := 0) (c_api_IP.enc r7.1) (owed := []) Ty28 rfl (Upd.whole ((Cod.len _ _).trans (Cod.len _ _).symm)) rfl ?_
    refine OW.nil ?_
    refine OJ.go 1 [(5, .int .i64 r7.2)] ?_
    refine OJ.nil ?_
    refine SJ.sr 10 ?_
    refine OJ.go 3 [(24, .bool (r7.2 != 0)), (23, .bool (r7.2 != 0)), (22, .int .i64 r7.2)] ?_
    refine OJ.join (b := (r7.2 != 0)) [3, 4, 5, 6, 7, 8, 9] [] [0, 1, 3, 31] (fun y10 => [(0, a0v.v), (1, .pointer (some a1)), (3, .int .i64 s5), (31, .bool y10)]) [] [] (t := 24) bne_iff_ne (fun hp_ => ?_) (fun hp_ => ?_) (fun _ _ _ _ _ _ h_ => h_) (fun y10 => ?_)
    · refine OJ.go 7 [(31, .bool true), (30, undef), (29, undef), (28, undef), (27, undef), (26, undef), (25, undef)] ?_
      exact OJ.nil ⟨(Cov.mem Cov.nil), rfl, _, rfl, by kernel_rfl⟩
    · refine OJ.go 1 [(25, a0v.v)] ?_
      refine OJ.kld (d := 26) (y := .tmp 4) (cd := c_api_IP) (j := 0) (b := b8) (o := 0) r7.1 (pend2 := []) Ty28 rfl (At.whole _) rfl ?_
      refine OJ.go 1 [(27, .int .i64 s5)] ?_
      refine OJ.build (d := 28) (T := 30) (parts := [(0, .tmp 26), (1, .tmp 27)]) (ps := [(0, c_api_IP.val r7.1), (1, (cI .i64).val s5)]) (cd := c_api_Prefix) (z0 := z_api_Prefix) (⟨r7.1, s5⟩ : api_Prefix) Ty30 rfl (Filled.cons (cd := c_api_IP) (q := r7.1) (o := 0) (by kernel_rfl) (Up_api_Prefix_IP z_api_Prefix r7.1) (Filled.cons (cd := (cI .i64)) (q := s5) (o := 17) (by kernel_rfl) (Up_api_Prefix_Len (⟨r7.1, z_api_Prefix.Len⟩ : api_Prefix) s5) Filled.nil)) ?_
      refine OJ.callV1 (d := 29) (ats := #[30]) (args := [.tmp 28]) (fo := .tmp 25) (vals := [c_api_Prefix.val (⟨r7.1, s5⟩ : api_Prefix)]) (owed := []) (h_a0 (⟨r7.1, s5⟩ : api_Prefix)) (fun r9 => ?_)
      refine OW.nil ?_
      refine OJ.go 2 [(31, .bool (!r9)), (30, .bool (!r9))] ?_
      exact OJ.nil ⟨(Cov.mem Cov.nil), rfl, _, rfl, by kernel_rfl⟩
    · refine OJ.nil ?_
      refine SJ.cond (t := (.tmp 31)) (b := y10) Iff.rfl (fun hc11 => ?_) (fun hc11 => ?_)
      · exact SJ.ret rfl (Res.run (ys := []) .nil rfl)
      · refine SJ.skip ?_
        refine SJ.inBlock ?_
        refine SJ.rg 3 ?_
        refine OJ.go 3 [(3, .int .i64 (IntKind.wrap .i64 (s5 - 1))), (15, .int .i64 (IntKind.wrap .i64 (s5 - 1))), (14, .int .i64 s5)] ?_
        refine OJ.nil ?_
        refine SJ.forget (List.Sublist.cons _ List.Sublist.slnil) ?_
        exact SJ.at_ [0, 1, 3] rfl
  · refine SJ.exit (id := 0) (by rfl) ?_
    exact SJ.end_ rfl (Res.run (ys := []) .nil rfl)
noncomputable def route_prefixes_1 (a0 : api_Prefix → M Bool) (a1 : Addr) : M Unit :=
  ld c_api_IP a1 >>= fun x1 =>
  addr_Valid x1 >>= fun r2 =>
  if ¬ (r2 = true) then
    pure ()
  else
    ld (cI .i64) a1 >>= fun x3 =>
    route_bits x3 >>= fun r4 =>
    loopM (fun s_ : Int => route_prefixes_1.L1 a0 a1 s_) r4
theorem route_prefixes_1_ok (a0v : Any) (a0 : api_Prefix → M Bool) (h_a0 : ∀ (x0_ : api_Prefix), RefV Tryd.prog a0v.v [c_api_Prefix.val x0_] (a0 x0_) (fun r_ : Bool => .bool r_)) (a1 : Addr) : Ref Tryd.prog 51 [a0v.v, .pointer (some a1)] (route_prefixes_1 a0 a1) route_prefixes_1.out := by
  refine Ref.of (cd := route_prefixes_1.B) Tryd.func51 ?_
  show SJ route_prefixes_1.cx [.code route_prefixes_1.B] [(0, a0v.v), (1, .pointer (some a1))] [] (route_prefixes_1 a0 a1) route_prefixes_1.F0
  unfold route_prefixes_1
  refine SJ.seq ?_
  refine SJ.sr 3 ?_
  refine OJ.ld (d := 6) (y := .tmp 1) (pend2 := fun x1 => []) Ty28 (fun _ => rfl) (fun x1 => ?_)
  refine OJ.call (d := 7) (g := 32) (ats := #[28]) (args := [.tmp 6]) (owed := []) F32 (addr_Valid_ok x1) (fun r2 => ?_)
  refine OW.nil ?_
  refine OJ.go 1 [(8, .bool (!r2))] ?_
  refine OJ.nil ?_
  refine SJ.cond (t := (.tmp 8)) (b := (!r2)) (bnot_iff Iff.rfl) (fun hc13 => ?_) (fun hc13 => ?_)
  · exact SJ.ret rfl (Res.run (ys := []) .nil rfl)
  · refine SJ.skip ?_
    refine SJ.sr 4 ?_
    refine OJ.go 1 [(9, .pointer (some a1))] ?_
    refine OJ.ld (d := 10) (y := .tmp 9) (pend2 := fun x3 => []) Ty3 (fun _ => rfl) (fun x3 => ?_)
    refine OJ.call (d := 11) (g := 48) (ats := #[3]) (args := [.tmp 10]) (owed := []) F48 (route_bits_ok x3) (fun r4 => ?_)
    refine OW.nil ?_
    refine OJ.go 1 [(3, .int .i64 r4)] ?_
    refine OJ.nil ?_
    refine SJ.block (id := 0) ?_
    exact SJ.loop (fun s_ : Int => [(0, a0v.v), (1, .pointer (some a1)), (3, .int .i64 s_)]) (fun s_ : Int => []) [0, 1, 3] rfl (fun _ _ => rfl) (fun s_ => route_prefixes_1.L1_ok a0v a0 h_a0 a1 s_)

/-! ### weir/route.prefixes: function 33 -/
noncomputable def route_prefixes.B : Code := (Tryd.f33.body).getD .skip
noncomputable def route_prefixes.cx : Fx := ⟨Tryd.prog, 33, Tryd.f33, none⟩
noncomputable def route_prefixes.out (r_ : Any) : Value := r_.v
noncomputable def route_prefixes.F0 (r_ : Any) : Reach := .ret (route_prefixes.out r_)
noncomputable def route_prefixes (a0 : api_IP) : M Any :=
  newv 28 c_api_IP a0 >>= fun b1 =>
  pure ⟨.func (.func 51) #[] #[.pointer (some (pt b1 0))], rfl⟩
theorem route_prefixes_ok (a0 : api_IP) : Ref Tryd.prog 33 [c_api_IP.val a0] (route_prefixes a0) route_prefixes.out := by
  refine Ref.of (cd := route_prefixes.B) Tryd.func33 ?_
  show SJ route_prefixes.cx [.code route_prefixes.B] [(0, c_api_IP.val a0)] [] (route_prefixes a0) route_prefixes.F0
  unfold route_prefixes
  refine SJ.sr 2 ?_
  refine OJ.newOf (d := 1) (op := (.box 28 (.tmp 0))) (cd := c_api_IP) (u := a0) (owed := []) (box_run (by kernel_rfl)) (fun b1 => ?_)
  refine OW.nil ?_
  refine OJ.go 1 [(2, (⟨.nilFunc, rfl⟩ : Any).v)] ?_
  refine OJ.nil ?_
  refine SJ.sr 2 ?_
  refine OJ.go 2 [(2, .func (.func 51) #[] #[.pointer (some (pt b1 0))]), (3, .func (.func 51) #[] #[.pointer (some (pt b1 0))])] ?_
  refine OJ.nil ?_
  exact SJ.ret rfl (Res.run (ys := [.func (.func 51) #[] #[.pointer (some (pt b1 0))]]) (.tmp (by kernel_rfl) .nil) rfl)

/-! ### (*weir/route.Table).Find: function 14 -/
noncomputable def route_Table_Find.B : Code := (Tryd.f14.body).getD .skip
noncomputable def route_Table_Find.cx : Fx := ⟨Tryd.prog, 14, Tryd.f14, none⟩
noncomputable def route_Table_Find.out (r_ : (api_Route × Bool)) : Value := .tuple #[c_api_Route.val r_.1, .bool r_.2]
noncomputable def route_Table_Find.F0 (r_ : (api_Route × Bool)) : Reach := .ret (route_Table_Find.out r_)
noncomputable def route_Table_Find.rx (l_ : Nat) : Fx := ⟨Tryd.prog, 14, Tryd.f14, some l_⟩
noncomputable def route_Table_Find.it (f_ : Any) (y_ : api_Prefix → M Bool) : M Unit :=
  (caught f_.v).elim fail (fun q_ => if q_.1 = 51 then route_prefixes_1 y_ q_.2 else fail)
theorem route_Table_Find.it_ok (f_ yv_ : Any) (y_ : api_Prefix → M Bool) (hy_ : ∀ x_, RefV Tryd.prog yv_.v [c_api_Prefix.val x_] (y_ x_) Value.bool) : RefI Tryd.prog f_.v [yv_.v] (route_Table_Find.it f_ y_) (fun _ => .tuple #[]) := by
  intro v r v' e
  unfold route_Table_Find.it at e
  cases hf_ : caught f_.v with
  | none => rw [hf_] at e; cases e
  | some q_ =>
    obtain ⟨g_, p0⟩ := q_
    rw [hf_] at e
    simp only [Option.elim] at e
    by_cases hg_ : g_ = 51
    · subst hg_
      rw [if_pos rfl] at e
      have h_ := RefI.of (first := []) (vals := [yv_.v]) (cap := [.pointer (some p0)]) F51 (route_prefixes_1_ok yv_ y_ hy_ p0) v r v' e
      rw [caught_eq hf_]
      exact h_
    rw [if_neg hg_] at e
    cases e
noncomputable def route_Table_Find.R1 (b1 : Nat) (b3 : Nat) (b4 : Nat) (l6 : Nat) (x7 : api_Prefix) : M (Option Code) :=
  slot 30 >>= fun b36 =>
  begM l6 >>= fun _ =>
  draws 14 3 (opsOf (c1 (c1 ((rfOf (c1 (c2 (c1 (c2 route_Table_Find.B))))).2.2.2)))) >>= fun o37 =>
  if bfr o37 5 9 = true then
    ld cP (pt b1 0) >>= fun x50 =>
    nilck x50 >>= fun p51 =>
    ld cM p51 >>= fun x52 =>
    mget c_api_Prefix c_api_Route z_api_Route x52 x7 >>= fun r53 =>
    slot 32 >>= fun b54 =>
    same cM p51 x52 >>= fun _ =>
    same cP (pt b1 0) x50 >>= fun _ =>
    if r53.2 = true then
      st c_api_Route (pt b3 0) r53.1 >>= fun _ =>
      st cB (pt b4 0) true >>= fun _ =>
      pure (some Code.ret)
    else
      pure none
  else
    ld cP (pt b1 0) >>= fun x56 =>
    nilck x56 >>= fun p57 =>
    ld cM p57 >>= fun x58 =>
    slot 32 >>= fun b59 =>
    same cM p57 x58 >>= fun _ =>
    same cP (pt b1 0) x56 >>= fun _ =>
    mget c_api_Prefix c_api_Route z_api_Route x58 x7 >>= fun r60 =>
    if r60.2 = true then
      st c_api_Route (pt b3 0) r60.1 >>= fun _ =>
      st cB (pt b4 0) true >>= fun _ =>
      pure (some Code.ret)
    else
      pure none
theorem route_Table_Find.R1_ok (b1 : Nat) (b3 : Nat) (b4 : Nat) (r5 : Any) (l6 : Nat) (rc_ : Loop) (ht_ : Loops.tab l6 = some rc_) (x7 : api_Prefix) :
    SJ (route_Table_Find.rx l6) [.code ((rfOf (c1 (c2 (c1 (c2 route_Table_Find.B))))).2.2.1), .beginRound, .code ((rfOf (c1 (c2 (c1 (c2 route_Table_Find.B))))).2.2.2)] [(11, c_api_Prefix.val x7), (2, .pointer (some (pt b1 0))), (4, .pointer (some (pt b3 0))), (5, .pointer (some (pt b4 0))), (10, r5.v)] [] (route_Table_Find.R1 b1 b3 b4 l6 x7) rdJ := by
  unfold route_Table_Find.R1
  refine SJ.rg 2 ?_
  refine OJ.slotOf (d := 6) (op := (.alloc 30)) (cd := c_api_Prefix) (u := z_api_Prefix) (owed := []) (alloc_run Ty30) (fun b36 => ?_)
  refine OW.nil ?_
  refine OJ.kst (y := .tmp 6) (z := .tmp 11) (cd := c_api_Prefix) (u := x7) (j := 0) (b := b36) (o := 0) (c_api_Prefix.enc x7) (owed := []) Ty30 rfl (Upd.whole ((Cod.len _ _).trans (Cod.len _ _).symm)) rfl ?_
  refine OW.nil ?_
  refine OJ.nil ?_
  refine SJ.begin rfl ht_ ?_
  refine SJ.block (id := 1) ?_
  refine SJ.seq ?_
  refine SJ.draws (id := 3) (kd := [1, 0, 0, 1, 1, 2, 0, 0, 0, 2, 2, 0]) (bef := [0, 1, 3, 7, 0, 31, 63, 127, 127, 0, 767, 2047]) (ord := [0, 1, 2, 3, 4, 5, 6, 7, 8, 9, 10, 11]) (E := [(5, 9)]) mixed (fun o37 hg_ => ?_)
  refine SJ.bfr hg_ (by decide) (fun ho49 => ?_) (fun ho49 => ?_)
  · refine SJ.leaf hg_ (kd := [1, 0, 0, 1, 1, 2, 0, 0, 0, 2, 2, 0]) (bef := [0, 1, 3, 7, 0, 31, 63, 127, 127, 0, 767, 2047]) (ord := [0, 1, 2, 3, 4, 5, 6, 7, 8, 9, 10, 11]) (E := [(5, 9)]) (allB.cons ho49 allB.nil) ?_
    refine OJ.ld (d := 13) (y := .tmp 2) (pend2 := fun x50 => [⟨0, 22, (pt b1 0), cP.val x50⟩]) Ty22 (fun _ => rfl) (fun x50 => ?_)
    refine OJ.nilck (d := 14) (y := .tmp 13) (fun p51 => ?_)
    refine OJ.go 1 [(15, .pointer (some p51))] ?_
    refine OJ.ld (d := 16) (y := .tmp 15) (pend2 := fun x52 => [⟨3, 79, p51, cM.val x52⟩, ⟨0, 22, (pt b1 0), cP.val x50⟩]) Ty79 (fun _ => rfl) (fun x52 => ?_)
    refine OJ.kld (d := 17) (y := .tmp 6) (cd := c_api_Prefix) (j := 0) (b := b36) (o := 0) x7 (pend2 := [⟨4, 30, (pt b36 0), c_api_Prefix.val x7⟩, ⟨3, 79, p51, cM.val x52⟩, ⟨0, 22, (pt b1 0), cP.val x50⟩]) Ty30 rfl (At.whole _) rfl ?_
    refine OJ.get1 (d := 18) (x := .tmp 16) (y := .tmp 17) (owed := []) Kt79 (fun r53 => ?_)
    refine OW.nil ?_
    refine OJ.go 3 [(20, .bool r53.2), (19, c_api_Route.val r53.1), (12, .tuple #[c_api_Route.val r53.1, .bool r53.2])] ?_
    refine OJ.slotOf (d := 7) (op := (.alloc 32)) (cd := c_api_Route) (u := z_api_Route) (owed := [⟨4, 30, (pt b36 0), c_api_Prefix.val x7⟩, ⟨3, 79, p51, cM.val x52⟩, ⟨0, 22, (pt b1 0), cP.val x50⟩]) (alloc_run Ty32) (fun b54 => ?_)
    refine OW.known (j := 1) (q := x7) Ty30 rfl (At.whole _) ?_
    refine OW.same Ty79 ?_
    refine OW.same Ty22 ?_
    refine OW.nil ?_
    refine OJ.kst (y := .tmp 7) (z := .tmp 19) (cd := c_api_Route) (u := r53.1) (j := 0) (b := b54) (o := 0) (c_api_Route.enc r53.1) (owed := []) Ty32 rfl (Upd.whole ((Cod.len _ _).trans (Cod.len _ _).symm)) rfl ?_
    refine OW.nil ?_
    refine OJ.go 1 [(8, .bool r53.2)] ?_
    refine OJ.nil ?_
    refine SJ.sr 1 ?_
    refine OJ.go 1 [(21, .bool r53.2)] ?_
    refine OJ.nil ?_
    refine SJ.cond (t := (.tmp 21)) (b := r53.2) Iff.rfl (fun hc55 => ?_) (fun hc55 => ?_)
    · refine SJ.sr 3 ?_
      refine OJ.kld (d := 22) (y := .tmp 7) (cd := c_api_Route) (j := 0) (b := b54) (o := 0) r53.1 (pend2 := []) Ty32 rfl (At.whole _) rfl ?_
      refine OJ.st (y := .tmp 4) (z := .tmp 22) (owed := []) Ty32 ?_
      refine OW.nil ?_
      refine OJ.st (y := .tmp 5) (z := .const (.bool true)) (owed := []) Ty4 ?_
      refine OW.nil ?_
      refine OJ.nil ?_
      exact SJ.retJ rfl
    · refine SJ.skip ?_
      refine SJ.inBlock ?_
      refine SJ.forget (List.Sublist.cons _ (List.Sublist.cons _ List.Sublist.slnil)) ?_
      exact SJ.at_ [] rfl
  · refine SJ.leaf hg_ (kd := [1, 0, 0, 1, 1, 2, 0, 0, 0, 2, 2, 0]) (bef := [0, 1, 3, 7, 0, 31, 63, 127, 127, 0, 767, 2047]) (ord := [0, 1, 2, 3, 4, 9, 5, 6, 7, 8, 10, 11]) (E := [(9, 5)]) (allB.cons ho49 allB.nil) ?_
    refine OJ.ld (d := 13) (y := .tmp 2) (pend2 := fun x56 => [⟨0, 22, (pt b1 0), cP.val x56⟩]) Ty22 (fun _ => rfl) (fun x56 => ?_)
    refine OJ.nilck (d := 14) (y := .tmp 13) (fun p57 => ?_)
    refine OJ.go 1 [(15, .pointer (some p57))] ?_
    refine OJ.ld (d := 16) (y := .tmp 15) (pend2 := fun x58 => [⟨3, 79, p57, cM.val x58⟩, ⟨0, 22, (pt b1 0), cP.val x56⟩]) Ty79 (fun _ => rfl) (fun x58 => ?_)
    refine OJ.kld (d := 17) (y := .tmp 6) (cd := c_api_Prefix) (j := 0) (b := b36) (o := 0) x7 (pend2 := [⟨4, 30, (pt b36 0), c_api_Prefix.val x7⟩, ⟨3, 79, p57, cM.val x58⟩, ⟨0, 22, (pt b1 0), cP.val x56⟩]) Ty30 rfl (At.whole _) rfl ?_
    refine OJ.slotOf (d := 7) (op := (.alloc 32)) (cd := c_api_Route) (u := z_api_Route) (owed := [⟨4, 30, (pt b36 0), c_api_Prefix.val x7⟩, ⟨3, 79, p57, cM.val x58⟩, ⟨0, 22, (pt b1 0), cP.val x56⟩]) (alloc_run Ty32) (fun b59 => ?_)
    refine OW.known (j := 1) (q := x7) Ty30 rfl (At.whole _) ?_
    refine OW.same Ty79 ?_
    refine OW.same Ty22 ?_
    refine OW.nil ?_
    refine OJ.get1 (d := 18) (x := .tmp 16) (y := .tmp 17) (owed := []) Kt79 (fun r60 => ?_)
    refine OW.nil ?_
    refine OJ.go 3 [(20, .bool r60.2), (19, c_api_Route.val r60.1), (12, .tuple #[c_api_Route.val r60.1, .bool r60.2])] ?_
    refine OJ.kst (y := .tmp 7) (z := .tmp 19) (cd := c_api_Route) (u := r60.1) (j := 0) (b := b59) (o := 0) (c_api_Route.enc r60.1) (owed := []) Ty32 rfl (Upd.whole ((Cod.len _ _).trans (Cod.len _ _).symm)) rfl ?_
    refine OW.nil ?_
    refine OJ.go 1 [(8, .bool r60.2)] ?_
    refine OJ.nil ?_
    refine SJ.sr 1 ?_
    refine OJ.go 1 [(21, .bool r60.2)] ?_
    refine OJ.nil ?_
    refine SJ.cond (t := (.tmp 21)) (b := r60.2) Iff.rfl (fun hc61 => ?_) (fun hc61 => ?_)
    · refine SJ.sr 3 ?_
      refine OJ.kld (d := 22) (y := .tmp 7) (cd := c_api_Route) (j := 0) (b := b59) (o := 0) r60.1 (pend2 := []) Ty32 rfl (At.whole _) rfl ?_
      refine OJ.st (y := .tmp 4) (z := .tmp 22) (owed := []) Ty32 ?_
      refine OW.nil ?_
      refine OJ.st (y := .tmp 5) (z := .const (.bool true)) (owed := []) Ty4 ?_
      refine OW.nil ?_
      refine OJ.nil ?_
      exact SJ.retJ rfl
    · refine SJ.skip ?_
      refine SJ.inBlock ?_
      refine SJ.forget (List.Sublist.cons _ (List.Sublist.cons _ List.Sublist.slnil)) ?_
      exact SJ.at_ [] rfl
noncomputable def route_Table_Find (a0 : (Option Addr)) (a1 : api_IP) : M (api_Route × Bool) :=
  newv 22 cP a0 >>= fun b1 =>
  slot 28 >>= fun b2 =>
  newv 32 c_api_Route z_api_Route >>= fun b3 =>
  newv 4 cB false >>= fun b4 =>
  route_prefixes a1 >>= fun r5 =>
  rangeM (route_Table_Find.it r5) (fun l_ x_ => route_Table_Find.R1 b1 b3 b4 l_ x_) (onJ
    (st c_api_Route (pt b3 0) z_api_Route >>= fun _ =>
     st cB (pt b4 0) false >>= fun _ =>
     ld c_api_Route (pt b3 0) >>= fun q62 =>
     ld cB (pt b4 0) >>= fun q63 =>
     pure (q62, q63))
    (ld c_api_Route (pt b3 0) >>= fun q64 =>
     ld cB (pt b4 0) >>= fun q65 =>
     pure (q64, q65))
    [])
theorem route_Table_Find_ok (a0 : (Option Addr)) (a1 : api_IP) : Ref Tryd.prog 14 [.pointer a0, c_api_IP.val a1] (route_Table_Find a0 a1) route_Table_Find.out := by
  refine Ref.of (cd := route_Table_Find.B) Tryd.func14 ?_
  show SJ route_Table_Find.cx [.code route_Table_Find.B] [(0, .pointer a0), (1, c_api_IP.val a1)] [] (route_Table_Find a0 a1) route_Table_Find.F0
  unfold route_Table_Find
  refine SJ.sr 4 ?_
  refine OJ.newOf (d := 2) (op := (.box 22 (.tmp 0))) (cd := cP) (u := a0) (owed := []) (box_run (by kernel_rfl)) (fun b1 => ?_)
  refine OW.nil ?_
  refine OJ.slotOf (d := 3) (op := (.box 28 (.tmp 1))) (cd := c_api_IP) (u := a1) (owed := []) (box_run (by kernel_rfl)) (fun b2 => ?_)
  refine OW.nil ?_
  refine OJ.newOf (d := 4) (op := (.alloc 32)) (cd := c_api_Route) (u := z_api_Route) (owed := []) (alloc_run Ty32) (fun b3 => ?_)
  refine OW.nil ?_
  refine OJ.newOf (d := 5) (op := (.alloc 4)) (cd := cB) (u := false) (owed := []) (alloc_run Ty4) (fun b4 => ?_)
  refine OW.nil ?_
  refine OJ.nil ?_
  refine SJ.seq ?_
  refine SJ.sr 2 ?_
  refine OJ.kld (d := 9) (y := .tmp 3) (cd := c_api_IP) (j := 0) (b := b2) (o := 0) a1 (pend2 := []) Ty28 rfl (At.whole _) rfl ?_
  refine OJ.call (d := 10) (g := 33) (ats := #[28]) (args := [.tmp 9]) (owed := []) F33 (route_prefixes_ok a1) (fun r5 => ?_)
  refine OW.nil ?_
  refine OJ.nil ?_
  refine SJ.block (id := 0) ?_
  refine SJ.less [2, 4, 5, 10] (m' := [(2, .pointer (some (pt b1 0))), (4, .pointer (some (pt b3 0))), (5, .pointer (some (pt b4 0))), (10, r5.v)]) ?_
  refine SJ.rangeF (fo := .tmp 10) (fv := r5.v) (ps := [11]) (fun x_ => [c_api_Prefix.val x_]) (fun _ => .tuple #[]) (fun L_ yv_ y_ hy_ => @route_Table_Find.it_ok L_ r5 yv_ y_ hy_) (fun L_ l_ rc_ ht_ x_ => @route_Table_Find.R1_ok L_ b1 b3 b4 r5 l_ rc_ ht_ x_) (SJ.onJ ?_ ?_ ?_)
  · refine SJ.inBlock ?_
    refine SJ.sr 3 ?_
    refine OJ.build (d := 23) (T := 32) (parts := []) (ps := []) (cd := c_api_Route) (z0 := z_api_Route) z_api_Route Ty32 rfl Filled.nil ?_
    refine OJ.st (y := .tmp 4) (z := .tmp 23) (owed := []) Ty32 ?_
    refine OW.nil ?_
    refine OJ.st (y := .tmp 5) (z := .const (.bool false)) (owed := []) Ty4 ?_
    refine OW.nil ?_
    refine OJ.nil ?_
    exact SJ.retM (rs := [.cell 4 32, .cell 5 4]) (SR.ld (cd := c_api_Route) (ad := (pt b3 0)) Ty32 (fun q62 => (SR.ld (cd := cB) (ad := (pt b4 0)) Ty4 (fun q63 => (SR.nil rfl)))))
  · exact SJ.retM (rs := [.cell 4 32, .cell 5 4]) (SR.ld (cd := c_api_Route) (ad := (pt b3 0)) Ty32 (fun q64 => (SR.ld (cd := cB) (ad := (pt b4 0)) Ty4 (fun q65 => (SR.nil rfl)))))
  · exact SJ.exits0

/-! ### weir/addr.ValidPrefix: function 39 -/
noncomputable def addr_ValidPrefix.B : Code := (Tryd.f39.body).getD .skip
noncomputable def addr_ValidPrefix.cx : Fx := ⟨Tryd.prog, 39, Tryd.f39, none⟩
noncomputable def addr_ValidPrefix.out (r_ : Int) : Value := .int .i64 r_
noncomputable def addr_ValidPrefix.F0 (r_ : Int) : Reach := .ret (addr_ValidPrefix.out r_)
noncomputable def addr_ValidPrefix (a0 : api_Prefix) : M Int :=
  slot 30 >>= fun b1 =>
  addr_size a0.IP >>= fun r2 =>
  if r2 = 0 then
    pure 40
  else
    (if a0.Len < 0 then
        pure true
      else
        pure (decide (a0.Len > r2))) >>= fun y9 =>
    if y9 = true then
      pure 45
    else
      draw >>= fun _ =>
      addr_masked a0.IP.A a0.Len >>= fun r12 =>
      if ¬ (r12 = a0.IP.A) then
        pure 46
      else
        pure 0
theorem addr_ValidPrefix_ok (a0 : api_Prefix) : Ref Tryd.prog 39 [c_api_Prefix.val a0] (addr_ValidPrefix a0) addr_ValidPrefix.out := by
  refine Ref.of (cd := addr_ValidPrefix.B) Tryd.func39 ?_
  show SJ addr_ValidPrefix.cx [.code addr_ValidPrefix.B] [(0, c_api_Prefix.val a0)] [] (addr_ValidPrefix a0) addr_ValidPrefix.F0
  unfold addr_ValidPrefix
  refine SJ.sr 2 ?_
  refine OJ.slotOf (d := 1) (op := (.box 30 (.tmp 0))) (cd := c_api_Prefix) (u := a0) (owed := []) (box_run (by kernel_rfl)) (fun b1 => ?_)
  refine OW.nil ?_
  refine OJ.go 1 [(2, .int .i64 0)] ?_
  refine OJ.nil ?_
  refine SJ.seq ?_
  refine SJ.sr 4 ?_
  refine OJ.go 1 [(4, .pointer (some (pt b1 0)))] ?_
  refine OJ.kld (d := 5) (y := .tmp 4) (cd := c_api_IP) (j := 0) (b := b1) (o := 0) a0.IP (pend2 := []) Ty28 rfl (At_api_Prefix_IP a0) rfl ?_
  refine OJ.call (d := 6) (g := 50) (ats := #[28]) (args := [.tmp 5]) (owed := []) F50 (addr_size_ok a0.IP) (fun r2 => ?_)
  refine OW.nil ?_
  refine OJ.go 1 [(3, .int .i64 r2)] ?_
  refine OJ.nil ?_
  refine SJ.block (id := 0) ?_
  refine SJ.sr 3 ?_
  refine OJ.go 3 [(7, .bool (r2 == 0)), (9, .bool (r2 == 0)), (8, .int .i64 r2)] ?_
  refine OJ.nil ?_
  refine SJ.cond (t := (.tmp 7)) (b := (r2 == 0)) beq_iff_eq (fun hc15 => ?_) (fun hc15 => ?_)
  · refine SJ.sr 1 ?_
    refine OJ.go 1 [(2, .int .i64 40)] ?_
    refine OJ.nil ?_
    exact SJ.ret rfl (Res.run (ys := [.int .i64 40]) (.tmp (by kernel_rfl) .nil) rfl)
  · refine SJ.sr 10 ?_
    refine OJ.go 1 [(11, .pointer (some (pt b1 17)))] ?_
    refine OJ.kld (d := 12) (y := .tmp 11) (cd := (cI .i64)) (j := 0) (b := b1) (o := 17) a0.Len (pend2 := []) Ty3 rfl (At_api_Prefix_Len a0) rfl ?_
    refine OJ.go 2 [(14, .bool (decide (a0.Len < 0))), (13, .bool (decide (a0.Len < 0)))] ?_
    refine OJ.join (b := decide (a0.Len < 0)) [4, 5, 6, 7, 8] [9] [1, 19] (fun y9 => [(1, .pointer (some (pt b1 0))), (19, .bool y9)]) [] [] (t := 14) decide_eq_true_iff (fun hp_ => ?_) (fun hp_ => ?_) (fun _ _ _ _ _ _ h_ => h_) (fun y9 => ?_)
    · refine OJ.go 5 [(19, .bool true), (18, undef), (17, undef), (16, undef), (15, undef)] ?_
      exact OJ.nil ⟨(Cov.mem Cov.nil), rfl, _, rfl, by kernel_rfl⟩
    · refine OJ.go 1 [(15, .pointer (some (pt b1 17)))] ?_
      refine OJ.kld (d := 16) (y := .tmp 15) (cd := (cI .i64)) (j := 0) (b := b1) (o := 17) a0.Len (pend2 := []) Ty3 rfl (At_api_Prefix_Len a0) rfl ?_
      refine OJ.go 3 [(19, .bool (decide (a0.Len > r2))), (18, .bool (decide (a0.Len > r2))), (17, .int .i64 r2)] ?_
      exact OJ.nil ⟨(Cov.mem Cov.nil), rfl, _, rfl, by kernel_rfl⟩
    · refine OJ.go 1 [(10, .bool y9)] ?_
      refine OJ.nil ?_
      refine SJ.cond (t := (.tmp 10)) (b := y9) Iff.rfl (fun hc14 => ?_) (fun hc14 => ?_)
      · refine SJ.sr 1 ?_
        refine OJ.go 1 [(2, .int .i64 45)] ?_
        refine OJ.nil ?_
        exact SJ.ret rfl (Res.run (ys := [.int .i64 45]) (.tmp (by kernel_rfl) .nil) rfl)
      · refine SJ.seq ?_
        refine SJ.draw (id := 6) (kd := [0, 0, 1, 0, 1, 2, 0, 0, 1, 0, 0]) (bef := [0, 1, 3, 0, 8, 31, 0, 64, 192, 511, 1023]) (ord := [0, 1, 2, 3, 4, 6, 7, 8, 5, 9, 10]) mixed ?_
        refine OJ.go 2 [(22, .pointer (some (pt b1 1))), (21, .pointer (some (pt b1 0)))] ?_
        refine OJ.kld (d := 23) (y := .tmp 22) (cd := ((cI .u8).arr 16)) (j := 0) (b := b1) (o := 1) a0.IP.A (pend2 := [⟨2, 26, (pt b1 1), ((cI .u8).arr 16).val a0.IP.A⟩]) Ty26 rfl (At.trans (At_api_Prefix_IP a0) (At_api_IP_A a0.IP)) rfl ?_
        refine OJ.go 1 [(24, .pointer (some (pt b1 17)))] ?_
        refine OJ.kld (d := 25) (y := .tmp 24) (cd := (cI .i64)) (j := 0) (b := b1) (o := 17) a0.Len (pend2 := [⟨4, 3, (pt b1 17), (cI .i64).val a0.Len⟩, ⟨2, 26, (pt b1 1), ((cI .u8).arr 16).val a0.IP.A⟩]) Ty3 rfl (At_api_Prefix_Len a0) rfl ?_
        refine OJ.go 2 [(28, .pointer (some (pt b1 1))), (27, .pointer (some (pt b1 0)))] ?_
        refine OJ.kld (d := 29) (y := .tmp 28) (cd := ((cI .u8).arr 16)) (j := 0) (b := b1) (o := 1) a0.IP.A (pend2 := [⟨8, 26, (pt b1 1), ((cI .u8).arr 16).val a0.IP.A⟩, ⟨4, 3, (pt b1 17), (cI .i64).val a0.Len⟩, ⟨2, 26, (pt b1 1), ((cI .u8).arr 16).val a0.IP.A⟩]) Ty26 rfl (At.trans (At_api_Prefix_IP a0) (At_api_IP_A a0.IP)) rfl ?_
        refine OJ.call (d := 26) (g := 40) (ats := #[26, 3]) (args := [.tmp 23, .tmp 25]) (owed := [⟨8, 26, (pt b1 1), ((cI .u8).arr 16).val a0.IP.A⟩]) F40 (addr_masked_ok a0.IP.A a0.Len) (fun r12 => ?_)
        refine OW.known (j := 0) (q := a0.IP.A) Ty26 rfl (At.trans (At_api_Prefix_IP a0) (At_api_IP_A a0.IP)) ?_
        refine OW.nil ?_
        refine OJ.neq (d := 30) (T := 26) (yT := 26) (y := .tmp 26) (z := .tmp 29) (cd := ((cI .u8).arr 16)) (p := r12) (q := a0.IP.A) rfl Eq26 ?_
        refine OJ.go 1 [(20, .bool (!eqv r12 a0.IP.A))] ?_
        refine OJ.nil ?_
        refine SJ.cond (t := (.tmp 20)) (b := (!eqv r12 a0.IP.A)) (bnot_iff eqv_iff) (fun hc13 => ?_) (fun hc13 => ?_)
        · refine SJ.sr 1 ?_
          refine OJ.go 1 [(2, .int .i64 46)] ?_
          refine OJ.nil ?_
          exact SJ.ret rfl (Res.run (ys := [.int .i64 46]) (.tmp (by kernel_rfl) .nil) rfl)
        · refine SJ.skip ?_
          refine SJ.inBlock ?_
          refine SJ.sr 1 ?_
          refine OJ.go 1 [(2, .int .i64 0)] ?_
          refine OJ.nil ?_
          exact SJ.ret rfl (Res.run (ys := [.int .i64 0]) (.tmp (by kernel_rfl) .nil) rfl)

/-! ### weir/addr.Contains: function 22 -/
noncomputable def addr_Contains.B : Code := (Tryd.f22.body).getD .skip
noncomputable def addr_Contains.cx : Fx := ⟨Tryd.prog, 22, Tryd.f22, none⟩
noncomputable def addr_Contains.out (r_ : Bool) : Value := .bool r_
noncomputable def addr_Contains.F0 (r_ : Bool) : Reach := .ret (addr_Contains.out r_)
noncomputable def addr_Contains (a0 : api_Prefix) (a1 : api_IP) : M Bool :=
  slot 30 >>= fun b1 =>
  slot 28 >>= fun b2 =>
  addr_ValidPrefix a0 >>= fun r3 =>
  (if r3 ≠ 0 then
      pure true
    else
      addr_Valid a1 >>= fun r4 =>
      pure (!r4)) >>= fun y5 =>
  (if y5 = true then
      pure true
    else
      pure (a0.IP.V != a1.V)) >>= fun y6 =>
  if y6 = true then
    pure false
  else
    draw >>= fun _ =>
    addr_masked a1.A a0.Len >>= fun r7 =>
    pure (eqv r7 a0.IP.A)
theorem addr_Contains_ok (a0 : api_Prefix) (a1 : api_IP) : Ref Tryd.prog 22 [c_api_Prefix.val a0, c_api_IP.val a1] (addr_Contains a0 a1) addr_Contains.out := by
  refine Ref.of (cd := addr_Contains.B) Tryd.func22 ?_
  show SJ addr_Contains.cx [.code addr_Contains.B] [(0, c_api_Prefix.val a0), (1, c_api_IP.val a1)] [] (addr_Contains a0 a1) addr_Contains.F0
  unfold addr_Contains
  refine SJ.sr 3 ?_
  refine OJ.slotOf (d := 2) (op := (.box 30 (.tmp 0))) (cd := c_api_Prefix) (u := a0) (owed := []) (box_run (by kernel_rfl)) (fun b1 => ?_)
  refine OW.nil ?_
  refine OJ.slotOf (d := 3) (op := (.box 28 (.tmp 1))) (cd := c_api_IP) (u := a1) (owed := []) (box_run (by kernel_rfl)) (fun b2 => ?_)
  refine OW.nil ?_
  refine OJ.go 1 [(4, .bool false)] ?_
  refine OJ.nil ?_
  refine SJ.seq ?_
  refine SJ.sr 16 ?_
  refine OJ.kld (d := 5) (y := .tmp 2) (cd := c_api_Prefix) (j := 1) (b := b1) (o := 0) a0 (pend2 := []) Ty30 rfl (At.whole _) rfl ?_
  refine OJ.call (d := 6) (g := 39) (ats := #[30]) (args := [.tmp 5]) (owed := []) F39 (addr_ValidPrefix_ok a0) (fun r3 => ?_)
  refine OW.nil ?_
  refine OJ.go 2 [(8, .bool (r3 != 0)), (7, .bool (r3 != 0))] ?_
  refine OJ.join (b := (r3 != 0)) [4, 5, 6, 7] [8, 9, 10, 11, 12, 13, 14, 15] [2, 3, 12] (fun y5 => [(2, .pointer (some (pt b1 0))), (3, .pointer (some (pt b2 0))), (12, .bool y5)]) [] [] (t := 8) bne_iff_ne (fun hp_ => ?_) (fun hp_ => ?_) (fun _ _ _ _ _ _ h_ => h_) (fun y5 => ?_)
  · refine OJ.go 4 [(12, .bool true), (11, undef), (10, undef), (9, undef)] ?_
    exact OJ.nil ⟨(Cov.mem Cov.nil), rfl, _, rfl, by kernel_rfl⟩
  · refine OJ.kld (d := 9) (y := .tmp 3) (cd := c_api_IP) (j := 0) (b := b2) (o := 0) a1 (pend2 := []) Ty28 rfl (At.whole _) rfl ?_
    refine OJ.call (d := 10) (g := 32) (ats := #[28]) (args := [.tmp 9]) (owed := []) F32 (addr_Valid_ok a1) (fun r4 => ?_)
    refine OW.nil ?_
    refine OJ.go 2 [(12, .bool (!r4)), (11, .bool (!r4))] ?_
    exact OJ.nil ⟨(Cov.mem Cov.nil), rfl, _, rfl, by kernel_rfl⟩
  · refine OJ.go 1 [(13, .bool y5)] ?_
    refine OJ.join (b := y5) [9, 10, 11, 12, 13, 14, 15] [] [2, 3, 20] (fun y6 => [(2, .pointer (some (pt b1 0))), (3, .pointer (some (pt b2 0))), (20, .bool y6)]) [] [] (t := 13) Iff.rfl (fun hp_ => ?_) (fun hp_ => ?_) (fun _ _ _ _ _ _ h_ => h_) (fun y6 => ?_)
    · refine OJ.go 7 [(20, .bool true), (19, undef), (18, undef), (17, undef), (16, undef), (15, undef), (14, undef)] ?_
      exact OJ.nil ⟨(Cov.mem Cov.nil), rfl, _, rfl, by kernel_rfl⟩
    · refine OJ.go 2 [(15, .pointer (some (pt b1 0))), (14, .pointer (some (pt b1 0)))] ?_
      refine OJ.kld (d := 16) (y := .tmp 15) (cd := (cI .i64)) (j := 1) (b := b1) (o := 0) a0.IP.V (pend2 := []) Ty3 rfl (At.trans (At_api_Prefix_IP a0) (At_api_IP_V a0.IP)) rfl ?_
      refine OJ.go 1 [(17, .pointer (some (pt b2 0)))] ?_
      refine OJ.kld (d := 18) (y := .tmp 17) (cd := (cI .i64)) (j := 0) (b := b2) (o := 0) a1.V (pend2 := []) Ty3 rfl (At_api_IP_V a1) rfl ?_
      refine OJ.go 2 [(20, .bool (a0.IP.V != a1.V)), (19, .bool (a0.IP.V != a1.V))] ?_
      exact OJ.nil ⟨(Cov.mem Cov.nil), rfl, _, rfl, by kernel_rfl⟩
    · refine OJ.nil ?_
      refine SJ.cond (t := (.tmp 20)) (b := y6) Iff.rfl (fun hc8 => ?_) (fun hc8 => ?_)
      · refine SJ.sr 1 ?_
        refine OJ.go 1 [(4, .bool false)] ?_
        refine OJ.nil ?_
        exact SJ.ret rfl (Res.run (ys := [.bool false]) (.tmp (by kernel_rfl) .nil) rfl)
      · refine SJ.skip ?_
        refine SJ.seq ?_
        refine SJ.draw (id := 3) (kd := [0, 1, 0, 1, 2, 0, 0, 1, 0, 0]) (bef := [0, 1, 0, 4, 15, 0, 32, 96, 255, 511]) (ord := [0, 1, 2, 3, 5, 6, 7, 4, 8, 9]) mixed ?_
        refine OJ.go 1 [(21, .pointer (some (pt b2 1)))] ?_
        refine OJ.kld (d := 22) (y := .tmp 21) (cd := ((cI .u8).arr 16)) (j := 0) (b := b2) (o := 1) a1.A (pend2 := [⟨1, 26, (pt b2 1), ((cI .u8).arr 16).val a1.A⟩]) Ty26 rfl (At_api_IP_A a1) rfl ?_
        refine OJ.go 1 [(23, .pointer (some (pt b1 17)))] ?_
        refine OJ.kld (d := 24) (y := .tmp 23) (cd := (cI .i64)) (j := 1) (b := b1) (o := 17) a0.Len (pend2 := [⟨3, 3, (pt b1 17), (cI .i64).val a0.Len⟩, ⟨1, 26, (pt b2 1), ((cI .u8).arr 16).val a1.A⟩]) Ty3 rfl (At_api_Prefix_Len a0) rfl ?_
        refine OJ.go 2 [(27, .pointer (some (pt b1 1))), (26, .pointer (some (pt b1 0)))] ?_
        refine OJ.kld (d := 28) (y := .tmp 27) (cd := ((cI .u8).arr 16)) (j := 1) (b := b1) (o := 1) a0.IP.A (pend2 := [⟨7, 26, (pt b1 1), ((cI .u8).arr 16).val a0.IP.A⟩, ⟨3, 3, (pt b1 17), (cI .i64).val a0.Len⟩, ⟨1, 26, (pt b2 1), ((cI .u8).arr 16).val a1.A⟩]) Ty26 rfl (At.trans (At_api_Prefix_IP a0) (At_api_IP_A a0.IP)) rfl ?_
        refine OJ.call (d := 25) (g := 40) (ats := #[26, 3]) (args := [.tmp 22, .tmp 24]) (owed := [⟨7, 26, (pt b1 1), ((cI .u8).arr 16).val a0.IP.A⟩]) F40 (addr_masked_ok a1.A a0.Len) (fun r7 => ?_)
        refine OW.known (j := 1) (q := a0.IP.A) Ty26 rfl (At.trans (At_api_Prefix_IP a0) (At_api_IP_A a0.IP)) ?_
        refine OW.nil ?_
        refine OJ.eql (d := 29) (T := 26) (yT := 26) (y := .tmp 25) (z := .tmp 28) (cd := ((cI .u8).arr 16)) (p := r7) (q := a0.IP.A) rfl Eq26 ?_
        refine OJ.go 1 [(4, .bool (eqv r7 a0.IP.A))] ?_
        refine OJ.nil ?_
        exact SJ.ret rfl (Res.run (ys := [.bool (eqv r7 a0.IP.A)]) (.tmp (by kernel_rfl) .nil) rfl)

/-! ### (*weir/route.Table).Drop: function 13 -/
noncomputable def route_Table_Drop.B : Code := (Tryd.f13.body).getD .skip
noncomputable def route_Table_Drop.cx : Fx := ⟨Tryd.prog, 13, Tryd.f13, none⟩
noncomputable def route_Table_Drop.out (r_ : Bool) : Value := .bool r_
noncomputable def route_Table_Drop.F0 (r_ : Bool) : Reach := .ret (route_Table_Drop.out r_)
noncomputable def route_Table_Drop.K1 (a0 : (Option Addr)) (a1 : api_Prefix) (j12 : Bool) : M Bool :=
  draw >>= fun _ =>
  nilck a0 >>= fun p13 =>
  ld cM p13 >>= fun x14 =>
  mdel c_api_Prefix c_api_Route x14 a1 >>= fun _ =>
  pure j12
theorem route_Table_Drop.K1_ok (a0 : (Option Addr)) (a1 : api_Prefix) (b1 : Nat) (j12 : Bool) :
    SJ route_Table_Drop.cx [.code (c2 (c2 route_Table_Drop.B))] [(0, .pointer a0), (3, .pointer (some (pt b1 0))), (6, .bool j12)] [(b1, c_api_Prefix.enc a1)] (route_Table_Drop.K1 a0 a1 j12) route_Table_Drop.F0 := by
  unfold route_Table_Drop.K1
  refine SJ.seq ?_
  refine SJ.draw (id := 2) (kd := [0, 0, 0, 1, 1, 2]) (bef := [0, 1, 3, 7, 0, 31]) (ord := [0, 1, 2, 3, 4, 5]) mixed ?_
  refine OJ.go 1 [(16, .pointer a0)] ?_
  refine OJ.nilck (d := 17) (y := .tmp 16) (fun p13 => ?_)
  refine OJ.go 1 [(18, .pointer (some p13))] ?_
  refine OJ.ld (d := 19) (y := .tmp 18) (pend2 := fun x14 => [⟨3, 79, p13, cM.val x14⟩]) Ty79 (fun _ => rfl) (fun x14 => ?_)
  refine OJ.kld (d := 20) (y := .tmp 3) (cd := c_api_Prefix) (j := 0) (b := b1) (o := 0) a1 (pend2 := [⟨4, 30, (pt b1 0), c_api_Prefix.val a1⟩, ⟨3, 79, p13, cM.val x14⟩]) Ty30 rfl (At.whole _) rfl ?_
  refine OJ.mdel (uT := 30) (x := .tmp 19) (y := .tmp 20) (owed := []) Kt79 ?_
  refine OW.nil ?_
  refine OJ.nil ?_
  refine SJ.sr 2 ?_
  refine OJ.go 2 [(4, .bool j12), (21, .bool j12)] ?_
  refine OJ.nil ?_
  exact SJ.ret rfl (Res.run (ys := [.bool j12]) (.tmp (by kernel_rfl) .nil) rfl)
noncomputable def route_Table_Drop (a0 : (Option Addr)) (a1 : api_Prefix) : M Bool :=
  slot 30 >>= fun b1 =>
  draws 13 1 (opsOf (c1 (c2 route_Table_Drop.B))) >>= fun o2 =>
  if bfr o2 5 9 = true then
    nilck a0 >>= fun p16 =>
    ld cM p16 >>= fun x17 =>
    mget c_api_Prefix c_api_Route z_api_Route x17 a1 >>= fun r18 =>
    slot 32 >>= fun b19 =>
    same cM p16 x17 >>= fun _ =>
    route_Table_Drop.K1 a0 a1 r18.2
  else
    nilck a0 >>= fun p20 =>
    ld cM p20 >>= fun x21 =>
    slot 32 >>= fun b22 =>
    same cM p20 x21 >>= fun _ =>
    mget c_api_Prefix c_api_Route z_api_Route x21 a1 >>= fun r23 =>
    route_Table_Drop.K1 a0 a1 r23.2
theorem route_Table_Drop_ok (a0 : (Option Addr)) (a1 : api_Prefix) : Ref Tryd.prog 13 [.pointer a0, c_api_Prefix.val a1] (route_Table_Drop a0 a1) route_Table_Drop.out := by
  refine Ref.of (cd := route_Table_Drop.B) Tryd.func13 ?_
  show SJ route_Table_Drop.cx [.code route_Table_Drop.B] [(0, .pointer a0), (1, c_api_Prefix.val a1)] [] (route_Table_Drop a0 a1) route_Table_Drop.F0
  unfold route_Table_Drop
  refine SJ.sr 2 ?_
  refine OJ.slotOf (d := 3) (op := (.box 30 (.tmp 1))) (cd := c_api_Prefix) (u := a1) (owed := []) (box_run (by kernel_rfl)) (fun b1 => ?_)
  refine OW.nil ?_
  refine OJ.go 1 [(4, .bool false)] ?_
  refine OJ.nil ?_
  refine SJ.seq ?_
  refine SJ.draws (id := 1) (kd := [0, 0, 0, 1, 1, 2, 0, 0, 0, 2, 2, 0]) (bef := [0, 1, 3, 7, 0, 31, 63, 127, 127, 0, 767, 2047]) (ord := [0, 1, 2, 3, 4, 5, 6, 7, 8, 9, 10, 11]) (E := [(5, 9)]) mixed (fun o2 hg_ => ?_)
  refine SJ.bfr hg_ (by decide) (fun ho15 => ?_) (fun ho15 => ?_)
  · refine SJ.leaf hg_ (kd := [0, 0, 0, 1, 1, 2, 0, 0, 0, 2, 2, 0]) (bef := [0, 1, 3, 7, 0, 31, 63, 127, 127, 0, 767, 2047]) (ord := [0, 1, 2, 3, 4, 5, 6, 7, 8, 9, 10, 11]) (E := [(5, 9)]) (allB.cons ho15 allB.nil) ?_
    refine OJ.go 1 [(8, .pointer a0)] ?_
    refine OJ.nilck (d := 9) (y := .tmp 8) (fun p16 => ?_)
    refine OJ.go 1 [(10, .pointer (some p16))] ?_
    refine OJ.ld (d := 11) (y := .tmp 10) (pend2 := fun x17 => [⟨3, 79, p16, cM.val x17⟩]) Ty79 (fun _ => rfl) (fun x17 => ?_)
    refine OJ.kld (d := 12) (y := .tmp 3) (cd := c_api_Prefix) (j := 0) (b := b1) (o := 0) a1 (pend2 := [⟨4, 30, (pt b1 0), c_api_Prefix.val a1⟩, ⟨3, 79, p16, cM.val x17⟩]) Ty30 rfl (At.whole _) rfl ?_
    refine OJ.get1 (d := 13) (x := .tmp 11) (y := .tmp 12) (owed := []) Kt79 (fun r18 => ?_)
    refine OW.nil ?_
    refine OJ.go 3 [(15, .bool r18.2), (14, c_api_Route.val r18.1), (7, .tuple #[c_api_Route.val r18.1, .bool r18.2])] ?_
    refine OJ.slotOf (d := 5) (op := (.alloc 32)) (cd := c_api_Route) (u := z_api_Route) (owed := [⟨4, 30, (pt b1 0), c_api_Prefix.val a1⟩, ⟨3, 79, p16, cM.val x17⟩]) (alloc_run Ty32) (fun b19 => ?_)
    refine OW.known (j := 1) (q := a1) Ty30 rfl (At.whole _) ?_
    refine OW.same Ty79 ?_
    refine OW.nil ?_
    refine OJ.kst (y := .tmp 5) (z := .tmp 14) (cd := c_api_Route) (u := r18.1) (j := 0) (b := b19) (o := 0) (c_api_Route.enc r18.1) (owed := []) Ty32 rfl (Upd.whole ((Cod.len _ _).trans (Cod.len _ _).symm)) rfl ?_
    refine OW.nil ?_
    refine OJ.go 1 [(6, .bool r18.2)] ?_
    refine OJ.nil ?_
    refine SJ.forget (List.Sublist.cons _ (List.Sublist.cons_cons _ List.Sublist.slnil)) ?_
    refine SJ.less [0, 3, 6] (m' := [(0, .pointer a0), (3, .pointer (some (pt b1 0))), (6, .bool r18.2)]) ?_
    exact route_Table_Drop.K1_ok a0 a1 b1 r18.2
  · refine SJ.leaf hg_ (kd := [0, 0, 0, 1, 1, 2, 0, 0, 0, 2, 2, 0]) (bef := [0, 1, 3, 7, 0, 31, 63, 127, 127, 0, 767, 2047]) (ord := [0, 1, 2, 3, 4, 9, 5, 6, 7, 8, 10, 11]) (E := [(9, 5)]) (allB.cons ho15 allB.nil) ?_
    refine OJ.go 1 [(8, .pointer a0)] ?_
    refine OJ.nilck (d := 9) (y := .tmp 8) (fun p20 => ?_)
    refine OJ.go 1 [(10, .pointer (some p20))] ?_
    refine OJ.ld (d := 11) (y := .tmp 10) (pend2 := fun x21 => [⟨3, 79, p20, cM.val x21⟩]) Ty79 (fun _ => rfl) (fun x21 => ?_)
    refine OJ.kld (d := 12) (y := .tmp 3) (cd := c_api_Prefix) (j := 0) (b := b1) (o := 0) a1 (pend2 := [⟨4, 30, (pt b1 0), c_api_Prefix.val a1⟩, ⟨3, 79, p20, cM.val x21⟩]) Ty30 rfl (At.whole _) rfl ?_
    refine OJ.slotOf (d := 5) (op := (.alloc 32)) (cd := c_api_Route) (u := z_api_Route) (owed := [⟨4, 30, (pt b1 0), c_api_Prefix.val a1⟩, ⟨3, 79, p20, cM.val x21⟩]) (alloc_run Ty32) (fun b22 => ?_)
    refine OW.known (j := 1) (q := a1) Ty30 rfl (At.whole _) ?_
    refine OW.same Ty79 ?_
    refine OW.nil ?_
    refine OJ.get1 (d := 13) (x := .tmp 11) (y := .tmp 12) (owed := []) Kt79 (fun r23 => ?_)
    refine OW.nil ?_
    refine OJ.go 3 [(15, .bool r23.2), (14, c_api_Route.val r23.1), (7, .tuple #[c_api_Route.val r23.1, .bool r23.2])] ?_
    refine OJ.kst (y := .tmp 5) (z := .tmp 14) (cd := c_api_Route) (u := r23.1) (j := 0) (b := b22) (o := 0) (c_api_Route.enc r23.1) (owed := []) Ty32 rfl (Upd.whole ((Cod.len _ _).trans (Cod.len _ _).symm)) rfl ?_
    refine OW.nil ?_
    refine OJ.go 1 [(6, .bool r23.2)] ?_
    refine OJ.nil ?_
    refine SJ.forget (List.Sublist.cons _ (List.Sublist.cons_cons _ List.Sublist.slnil)) ?_
    refine SJ.less [0, 3, 6] (m' := [(0, .pointer a0), (3, .pointer (some (pt b1 0))), (6, .bool r23.2)]) ?_
    exact route_Table_Drop.K1_ok a0 a1 b1 r23.2

/-! ### maps.Values[map[weir/api.Prefix]weir/api.Route,weir/api.Prefix,weir/api.Route]$1: function 59 -/
noncomputable def maps_Values_map_api_Prefix_api_Route_api_Prefix_api_Route_1.B : Code := (Tryd.f59.body).getD .skip
noncomputable def maps_Values_map_api_Prefix_api_Route_api_Prefix_api_Route_1.cx : Fx := ⟨Tryd.prog, 59, Tryd.f59, none⟩
noncomputable def maps_Values_map_api_Prefix_api_Route_api_Prefix_api_Route_1.out (r_ : Unit) : Value := .tuple #[]
noncomputable def maps_Values_map_api_Prefix_api_Route_api_Prefix_api_Route_1.F0 (r_ : Unit) : Reach := .ret (maps_Values_map_api_Prefix_api_Route_api_Prefix_api_Route_1.out r_)
noncomputable def maps_Values_map_api_Prefix_api_Route_api_Prefix_api_Route_1.F1 (a0v : Any) (b2 : Nat) : (LS Unit Unit) → Reach := loopF [.inLoop (c1 (c1 (c2 maps_Values_map_api_Prefix_api_Route_api_Prefix_api_Route_1.B))), .inBlock 0] (fun s_ : Unit => [(0, a0v.v), (6, .pointer (some (pt b2 0)))]) (fun s_ : Unit => []) maps_Values_map_api_Prefix_api_Route_api_Prefix_api_Route_1.F0
noncomputable def maps_Values_map_api_Prefix_api_Route_api_Prefix_api_Route_1.L1 (a0 : api_Route → M Bool) (b2 : Nat) : M (LS Unit Unit) :=
  mnext b2 >>= fun r3 =>
  if r3.1 = true then
    mentry c_api_Prefix c_api_Route b2 >>= fun r4 =>
    slot 32 >>= fun b5 =>
    a0 r4.2 >>= fun r6 =>
    if ¬ (r6 = true) then
      pure (LS.done ())
    else
      pure (LS.next ())
  else
    pure (LS.done ())
theorem maps_Values_map_api_Prefix_api_Route_api_Prefix_api_Route_1.L1_ok (a0v : Any) (a0 : api_Route → M Bool) (h_a0 : ∀ (x0_ : api_Route), RefV Tryd.prog a0v.v [c_api_Route.val x0_] (a0 x0_) (fun r_ : Bool => .bool r_)) (b2 : Nat) :
    SJ maps_Values_map_api_Prefix_api_Route_api_Prefix_api_Route_1.cx [.code (c1 (c1 (c2 maps_Values_map_api_Prefix_api_Route_api_Prefix_api_Route_1.B))), .inLoop (c1 (c1 (c2 maps_Values_map_api_Prefix_api_Route_api_Prefix_api_Route_1.B))), .inBlock 0] [(0, a0v.v), (6, .pointer (some (pt b2 0)))] [] (maps_Values_map_api_Prefix_api_Route_api_Prefix_api_Route_1.L1 a0 b2) (maps_Values_map_api_Prefix_api_Route_api_Prefix_api_Route_1.F1 a0v b2) := by
  unfold maps_Values_map_api_Prefix_api_Route_api_Prefix_api_Route_1.L1
  refine SJ.sr 2 ?_
  refine OJ.mnext (d := 7) (x := .tmp 6) (owed := []) (fun r3 => ?_)
  refine OW.nil ?_
  refine OJ.go 1 [(8, .bool r3.1)] ?_
  refine OJ.nil ?_
  refine SJ.seq ?_
  refine SJ.cond (t := (.tmp 8)) (b := r3.1) Iff.rfl (fun hc8 => ?_) (fun hc8 => ?_)
  · refine SJ.skip ?_
    refine SJ.block (id := 1) ?_
    refine SJ.sr 4 ?_
    refine OJ.mentry (d := 9) (x := .tmp 6) (owed := []) (fun r4 => ?_)
    refine OW.nil ?_
    refine OJ.go 1 [(10, c_api_Route.val r4.2)] ?_
    refine OJ.slotOf (d := 4) (op := (.alloc 32)) (cd := c_api_Route) (u := z_api_Route) (owed := []) (alloc_run Ty32) (fun b5 => ?_)
    refine OW.nil ?_
    refine OJ.kst (y := .tmp 4) (z := .tmp 10) (cd := c_api_Route) (u := r4.2) (j := 0) (b := b5) (o := 0) (c_api_Route.enc r4.2) (owed := []) Ty32 rfl (Upd.whole ((Cod.len _ _).trans (Cod.len _ _).symm)) rfl ?_
    refine OW.nil ?_
    refine OJ.nil ?_
    refine SJ.sr 4 ?_
    refine OJ.go 1 [(11, a0v.v)] ?_
    refine OJ.kld (d := 12) (y := .tmp 4) (cd := c_api_Route) (j := 0) (b := b5) (o := 0) r4.2 (pend2 := []) Ty32 rfl (At.whole _) rfl ?_
    refine OJ.callV1 (d := 13) (ats := #[32]) (args := [.tmp 12]) (fo := .tmp 11) (vals := [c_api_Route.val r4.2]) (owed := []) (h_a0 r4.2) (fun r6 => ?_)
    refine OW.nil ?_
    refine OJ.go 1 [(14, .bool (!r6))] ?_
    refine OJ.nil ?_
    refine SJ.cond (t := (.tmp 14)) (b := (!r6)) (bnot_iff Iff.rfl) (fun hc7 => ?_) (fun hc7 => ?_)
    · exact SJ.ret rfl (Res.run (ys := []) .nil rfl)
    · refine SJ.skip ?_
      refine SJ.inBlock ?_
      refine SJ.forget (List.Sublist.cons _ List.Sublist.slnil) ?_
      exact SJ.at_ [0, 6] rfl
  · refine SJ.exit (id := 0) (by rfl) ?_
    exact SJ.end_ rfl (Res.run (ys := []) .nil rfl)
noncomputable def maps_Values_map_api_Prefix_api_Route_api_Prefix_api_Route_1 (a0 : api_Route → M Bool) (a1 : Addr) : M Unit :=
  ld cM a1 >>= fun x1 =>
  mrange x1 >>= fun b2 =>
  loopM (fun s_ : Unit => maps_Values_map_api_Prefix_api_Route_api_Prefix_api_Route_1.L1 a0 b2) ()
theorem maps_Values_map_api_Prefix_api_Route_api_Prefix_api_Route_1_ok (a0v : Any) (a0 : api_Route → M Bool) (h_a0 : ∀ (x0_ : api_Route), RefV Tryd.prog a0v.v [c_api_Route.val x0_] (a0 x0_) (fun r_ : Bool => .bool r_)) (a1 : Addr) : Ref Tryd.prog 59 [a0v.v, .pointer (some a1)] (maps_Values_map_api_Prefix_api_Route_api_Prefix_api_Route_1 a0 a1) maps_Values_map_api_Prefix_api_Route_api_Prefix_api_Route_1.out := by
  refine Ref.of (cd := maps_Values_map_api_Prefix_api_Route_api_Prefix_api_Route_1.B) Tryd.func59 ?_
  show SJ maps_Values_map_api_Prefix_api_Route_api_Prefix_api_Route_1.cx [.code maps_Values_map_api_Prefix_api_Route_api_Prefix_api_Route_1.B] [(0, a0v.v), (1, .pointer (some a1))] [] (maps_Values_map_api_Prefix_api_Route_api_Prefix_api_Route_1 a0 a1) maps_Values_map_api_Prefix_api_Route_api_Prefix_api_Route_1.F0
  unfold maps_Values_map_api_Prefix_api_Route_api_Prefix_api_Route_1
  refine SJ.sr 2 ?_
  refine OJ.ld (d := 5) (y := .tmp 1) (pend2 := fun x1 => []) Ty79 (fun _ => rfl) (fun x1 => ?_)
  refine OJ.mrange (d := 6) (T := 79) (kT := 30) (vT := 32) (x := .tmp 5) (owed := []) (fun b2 => ?_)
  refine OW.nil ?_
  refine OJ.nil ?_
  refine SJ.block (id := 0) ?_
  exact SJ.loop (fun s_ : Unit => [(0, a0v.v), (6, .pointer (some (pt b2 0)))]) (fun s_ : Unit => []) [0, 6] rfl (fun _ _ => rfl) (fun s_ => maps_Values_map_api_Prefix_api_Route_api_Prefix_api_Route_1.L1_ok a0v a0 h_a0 b2)

/-! ### maps.Values[map[weir/api.Prefix]weir/api.Route,weir/api.Prefix,weir/api.Route]: function 44 -/
noncomputable def maps_Values_map_api_Prefix_api_Route_api_Prefix_api_Route.B : Code := (Tryd.f44.body).getD .skip
noncomputable def maps_Values_map_api_Prefix_api_Route_api_Prefix_api_Route.cx : Fx := ⟨Tryd.prog, 44, Tryd.f44, none⟩
noncomputable def maps_Values_map_api_Prefix_api_Route_api_Prefix_api_Route.out (r_ : Any) : Value := r_.v
noncomputable def maps_Values_map_api_Prefix_api_Route_api_Prefix_api_Route.F0 (r_ : Any) : Reach := .ret (maps_Values_map_api_Prefix_api_Route_api_Prefix_api_Route.out r_)
noncomputable def maps_Values_map_api_Prefix_api_Route_api_Prefix_api_Route (a0 : (Option Nat)) : M Any :=
  newv 79 cM a0 >>= fun b1 =>
  pure ⟨.func (.func 59) #[] #[.pointer (some (pt b1 0))], rfl⟩
theorem maps_Values_map_api_Prefix_api_Route_api_Prefix_api_Route_ok (a0 : (Option Nat)) : Ref Tryd.prog 44 [.map a0] (maps_Values_map_api_Prefix_api_Route_api_Prefix_api_Route a0) maps_Values_map_api_Prefix_api_Route_api_Prefix_api_Route.out := by
  refine Ref.of (cd := maps_Values_map_api_Prefix_api_Route_api_Prefix_api_Route.B) Tryd.func44 ?_
  show SJ maps_Values_map_api_Prefix_api_Route_api_Prefix_api_Route.cx [.code maps_Values_map_api_Prefix_api_Route_api_Prefix_api_Route.B] [(0, .map a0)] [] (maps_Values_map_api_Prefix_api_Route_api_Prefix_api_Route a0) maps_Values_map_api_Prefix_api_Route_api_Prefix_api_Route.F0
  unfold maps_Values_map_api_Prefix_api_Route_api_Prefix_api_Route
  refine SJ.sr 2 ?_
  refine OJ.newOf (d := 1) (op := (.box 79 (.tmp 0))) (cd := cM) (u := a0) (owed := []) (box_run (by kernel_rfl)) (fun b1 => ?_)
  refine OW.nil ?_
  refine OJ.go 1 [(2, (⟨.nilFunc, rfl⟩ : Any).v)] ?_
  refine OJ.nil ?_
  refine SJ.sr 2 ?_
  refine OJ.go 2 [(2, .func (.func 59) #[] #[.pointer (some (pt b1 0))]), (3, .func (.func 59) #[] #[.pointer (some (pt b1 0))])] ?_
  refine OJ.nil ?_
  exact SJ.ret rfl (Res.run (ys := [.func (.func 59) #[] #[.pointer (some (pt b1 0))]]) (.tmp (by kernel_rfl) .nil) rfl)

/-! ### slices.AppendSeq[[]weir/api.Route,weir/api.Route]: function 64 -/
noncomputable def slices_AppendSeq_api_Route_api_Route.B : Code := (Tryd.f64.body).getD .skip
noncomputable def slices_AppendSeq_api_Route_api_Route.cx : Fx := ⟨Tryd.prog, 64, Tryd.f64, none⟩
noncomputable def slices_AppendSeq_api_Route_api_Route.out (r_ : Sl) : Value := Sl.v r_
noncomputable def slices_AppendSeq_api_Route_api_Route.F0 (r_ : Sl) : Reach := .ret (slices_AppendSeq_api_Route_api_Route.out r_)
noncomputable def slices_AppendSeq_api_Route_api_Route.rx (l_ : Nat) : Fx := ⟨Tryd.prog, 64, Tryd.f64, some l_⟩
noncomputable def slices_AppendSeq_api_Route_api_Route.it (f_ : Any) (y_ : api_Route → M Bool) : M Unit :=
  (caught f_.v).elim fail (fun q_ => if q_.1 = 59 then maps_Values_map_api_Prefix_api_Route_api_Prefix_api_Route_1 y_ q_.2 else fail)
theorem slices_AppendSeq_api_Route_api_Route.it_ok (f_ yv_ : Any) (y_ : api_Route → M Bool) (hy_ : ∀ x_, RefV Tryd.prog yv_.v [c_api_Route.val x_] (y_ x_) Value.bool) : RefI Tryd.prog f_.v [yv_.v] (slices_AppendSeq_api_Route_api_Route.it f_ y_) (fun _ => .tuple #[]) := by
  intro v r v' e
  unfold slices_AppendSeq_api_Route_api_Route.it at e
  cases hf_ : caught f_.v with
  | none => rw [hf_] at e; cases e
  | some q_ =>
    obtain ⟨g_, p0⟩ := q_
    rw [hf_] at e
    simp only [Option.elim] at e
    by_cases hg_ : g_ = 59
    · subst hg_
      rw [if_pos rfl] at e
      have h_ := RefI.of (first := []) (vals := [yv_.v]) (cap := [.pointer (some p0)]) F59 (maps_Values_map_api_Prefix_api_Route_api_Prefix_api_Route_1_ok yv_ y_ hy_ p0) v r v' e
      rw [caught_eq hf_]
      exact h_
    rw [if_neg hg_] at e
    cases e
noncomputable def slices_AppendSeq_api_Route_api_Route.R1 (b1 : Nat) (l2 : Nat) (x3 : api_Route) : M (Option Code) :=
  slot 32 >>= fun b8 =>
  begM l2 >>= fun _ =>
  ld cL (pt b1 0) >>= fun x9 =>
  slot 32 >>= fun b10 =>
  appl c_api_Route 32 64 z_api_Route x9 [x3] >>= fun r11 =>
  st cL (pt b1 0) r11 >>= fun _ =>
  pure none
theorem slices_AppendSeq_api_Route_api_Route.R1_ok (a1 : Any) (b1 : Nat) (l2 : Nat) (rc_ : Loop) (ht_ : Loops.tab l2 = some rc_) (x3 : api_Route) :
    SJ (slices_AppendSeq_api_Route_api_Route.rx l2) [.code ((rfOf (c1 (c2 (c1 (c2 slices_AppendSeq_api_Route_api_Route.B))))).2.2.1), .beginRound, .code ((rfOf (c1 (c2 (c1 (c2 slices_AppendSeq_api_Route_api_Route.B))))).2.2.2)] [(7, c_api_Route.val x3), (2, .pointer (some (pt b1 0))), (4, Sl.v Sl.nil), (6, a1.v)] [] (slices_AppendSeq_api_Route_api_Route.R1 b1 l2 x3) rdJ := by
  unfold slices_AppendSeq_api_Route_api_Route.R1
  refine SJ.rg 2 ?_
  refine OJ.slotOf (d := 5) (op := (.alloc 32)) (cd := c_api_Route) (u := z_api_Route) (owed := []) (alloc_run Ty32) (fun b8 => ?_)
  refine OW.nil ?_
  refine OJ.kst (y := .tmp 5) (z := .tmp 7) (cd := c_api_Route) (u := x3) (j := 0) (b := b8) (o := 0) (c_api_Route.enc x3) (owed := []) Ty32 rfl (Upd.whole ((Cod.len _ _).trans (Cod.len _ _).symm)) rfl ?_
  refine OW.nil ?_
  refine OJ.nil ?_
  refine SJ.begin rfl ht_ ?_
  refine SJ.block (id := 1) ?_
  refine SJ.rg 5 ?_
  refine OJ.ld (d := 8) (y := .tmp 2) (pend2 := fun x9 => []) Ty39 (fun _ => rfl) (fun x9 => ?_)
  refine OJ.kld (d := 9) (y := .tmp 5) (cd := c_api_Route) (j := 0) (b := b8) (o := 0) x3 (pend2 := []) Ty32 rfl (At.whole _) rfl ?_
  refine OJ.rowSlot (d := 10) (t := 39) (parts := [(0, .tmp 9)]) (ps := [(0, c_api_Route.val x3)]) (cd := c_api_Route) (⟨[x3], rfl⟩ : Vec api_Route 1) (owed := []) Ty32 (Filled.cons (cd := c_api_Route) (q := x3) (o := 0) rfl (Upd.arr (i := 0) (by decide) (by decide)) Filled.nil) (fun b10 => ?_)
  refine OW.nil ?_
  refine OJ.appl (d := 11) (t := 39) (u := 39) (so := .tmp 8) (xo := .tmp 10) (j := 0) (b := b10) (l := (c_api_Route.arr 1).enc (⟨[x3], rfl⟩ : Vec api_Route 1)) (n := 1) (k := 1) [x3] (owed := []) Ty32 (by rfl) (Cod.arr_enc _ _ _) (by rfl) (fun r11 => ?_)
  refine OW.nil ?_
  refine OJ.st (y := .tmp 2) (z := .tmp 11) (owed := []) Ty39 ?_
  refine OW.nil ?_
  refine OJ.nil ?_
  refine SJ.inBlock ?_
  refine SJ.forget (List.Sublist.cons _ (List.Sublist.cons _ List.Sublist.slnil)) ?_
  exact SJ.at_ [] rfl
noncomputable def slices_AppendSeq_api_Route_api_Route (a0 : Sl) (a1 : Any) : M Sl :=
  newv 39 cL a0 >>= fun b1 =>
  rangeM (slices_AppendSeq_api_Route_api_Route.it a1) (fun l_ x_ => slices_AppendSeq_api_Route_api_Route.R1 b1 l_ x_) (onJ
    (ld cL (pt b1 0) >>= fun x12 =>
     pure x12)
    (fail)
    [])
theorem slices_AppendSeq_api_Route_api_Route_ok (a0 : Sl) (a1 : Any) : Ref Tryd.prog 64 [Sl.v a0, a1.v] (slices_AppendSeq_api_Route_api_Route a0 a1) slices_AppendSeq_api_Route_api_Route.out := by
  refine Ref.of (cd := slices_AppendSeq_api_Route_api_Route.B) Tryd.func64 ?_
  show SJ slices_AppendSeq_api_Route_api_Route.cx [.code slices_AppendSeq_api_Route_api_Route.B] [(0, Sl.v a0), (1, a1.v)] [] (slices_AppendSeq_api_Route_api_Route a0 a1) slices_AppendSeq_api_Route_api_Route.F0
  unfold slices_AppendSeq_api_Route_api_Route
  refine SJ.sr 2 ?_
  refine OJ.newOf (d := 2) (op := (.box 39 (.tmp 0))) (cd := cL) (u := a0) (owed := []) (box_run (by kernel_rfl)) (fun b1 => ?_)
  refine OW.nil ?_
  refine OJ.go 1 [(4, Sl.v Sl.nil)] ?_
  refine OJ.nil ?_
  refine SJ.seq ?_
  refine SJ.sr 1 ?_
  refine OJ.go 1 [(6, a1.v)] ?_
  refine OJ.nil ?_
  refine SJ.block (id := 0) ?_
  refine SJ.less [2, 4, 6] (m' := [(2, .pointer (some (pt b1 0))), (4, Sl.v Sl.nil), (6, a1.v)]) ?_
  refine SJ.rangeF (fo := .tmp 6) (fv := a1.v) (ps := [7]) (fun x_ => [c_api_Route.val x_]) (fun _ => .tuple #[]) (fun L_ yv_ y_ hy_ => @slices_AppendSeq_api_Route_api_Route.it_ok L_ a1 yv_ y_ hy_) (fun L_ l_ rc_ ht_ x_ => @slices_AppendSeq_api_Route_api_Route.R1_ok L_ a1 b1 l_ rc_ ht_ x_) (SJ.onJ ?_ ?_ ?_)
  · refine SJ.inBlock ?_
    refine SJ.sr 2 ?_
    refine OJ.ld (d := 12) (y := .tmp 2) (pend2 := fun x12 => []) Ty39 (fun _ => rfl) (fun x12 => ?_)
    refine OJ.go 1 [(4, Sl.v x12)] ?_
    refine OJ.nil ?_
    exact SJ.ret rfl (Res.run (ys := [Sl.v x12]) (.tmp (by kernel_rfl) .nil) rfl)
  · exact SJ.fail
  · exact SJ.exits0

/-! ### slices.Collect[weir/api.Route]: function 57 -/
noncomputable def slices_Collect_api_Route.B : Code := (Tryd.f57.body).getD .skip
noncomputable def slices_Collect_api_Route.cx : Fx := ⟨Tryd.prog, 57, Tryd.f57, none⟩
noncomputable def slices_Collect_api_Route.out (r_ : Sl) : Value := Sl.v r_
noncomputable def slices_Collect_api_Route.F0 (r_ : Sl) : Reach := .ret (slices_Collect_api_Route.out r_)
noncomputable def slices_Collect_api_Route (a0 : Any) : M Sl :=
  slices_AppendSeq_api_Route_api_Route Sl.nil a0 >>= fun r1 =>
  pure r1
theorem slices_Collect_api_Route_ok (a0 : Any) : Ref Tryd.prog 57 [a0.v] (slices_Collect_api_Route a0) slices_Collect_api_Route.out := by
  refine Ref.of (cd := slices_Collect_api_Route.B) Tryd.func57 ?_
  show SJ slices_Collect_api_Route.cx [.code slices_Collect_api_Route.B] [(0, a0.v)] [] (slices_Collect_api_Route a0) slices_Collect_api_Route.F0
  unfold slices_Collect_api_Route
  refine SJ.sr 1 ?_
  refine OJ.go 1 [(2, Sl.v Sl.nil)] ?_
  refine OJ.nil ?_
  refine SJ.sr 3 ?_
  refine OJ.go 1 [(3, a0.v)] ?_
  refine OJ.call (d := 4) (g := 64) (ats := #[39, 62]) (args := [.const (.slice none 0 0), .tmp 3]) (owed := []) F64 (slices_AppendSeq_api_Route_api_Route_ok Sl.nil a0) (fun r1 => ?_)
  refine OW.nil ?_
  refine OJ.go 1 [(2, Sl.v r1)] ?_
  refine OJ.nil ?_
  exact SJ.ret rfl (Res.run (ys := [Sl.v r1]) (.tmp (by kernel_rfl) .nil) rfl)

/-! ### math/bits.Len64: function 79 -/
noncomputable def bits_Len64.B : Code := (Tryd.f79.body).getD .skip
noncomputable def bits_Len64.cx : Fx := ⟨Tryd.prog, 79, Tryd.f79, none⟩
noncomputable def bits_Len64.out (r_ : Int) : Value := .int .i64 r_
noncomputable def bits_Len64.F0 (r_ : Int) : Reach := .ret (bits_Len64.out r_)
noncomputable def bits_Len64.K1 (j3 : Int) (j4 : Int) : M Int :=
  if j3 ≥ 256 then
    chk ((0 : Int) ≤ (IntKind.wrap .u8 (Int.fdiv j3 (2 ^ 8))) ∧ (IntKind.wrap .u8 (Int.fdiv j3 (2 ^ 8))) < (str0.size : Int)) >>= fun _ =>
    pure (IntKind.wrap .i64 ((IntKind.wrap .i64 (j4 + 8)) + (IntKind.wrap .i64 (sb str0 (IntKind.wrap .u8 (Int.fdiv j3 (2 ^ 8)))))))
  else
    chk ((0 : Int) ≤ (IntKind.wrap .u8 j3) ∧ (IntKind.wrap .u8 j3) < (str0.size : Int)) >>= fun _ =>
    pure (IntKind.wrap .i64 (j4 + (IntKind.wrap .i64 (sb str0 (IntKind.wrap .u8 j3)))))
theorem bits_Len64.K1_ok (j3 : Int) (j4 : Int) :
    SJ bits_Len64.cx [.code (c2 (c2 (c2 bits_Len64.B)))] [(0, .int .u64 j3), (2, .int .i64 j4)] [] (bits_Len64.K1 j3 j4) bits_Len64.F0 := by
  unfold bits_Len64.K1
  refine SJ.seq ?_
  refine SJ.sr 2 ?_
  refine OJ.go 2 [(14, .bool (decide (j3 ≥ 256))), (13, .int .u64 j3)] ?_
  refine OJ.nil ?_
  refine SJ.cond (t := (.tmp 14)) (b := decide (j3 ≥ 256)) decide_eq_true_iff (fun hc9 => ?_) (fun hc9 => ?_)
  · refine SJ.sr 3 ?_
    refine OJ.go 3 [(0, .int .u64 (Int.fdiv j3 (2 ^ 8))), (16, .int .u64 (Int.fdiv j3 (2 ^ 8))), (15, .int .u64 j3)] ?_
    refine OJ.nil ?_
    refine SJ.rg 3 ?_
    refine OJ.go 3 [(2, .int .i64 (IntKind.wrap .i64 (j4 + 8))), (18, .int .i64 (IntKind.wrap .i64 (j4 + 8))), (17, .int .i64 j4)] ?_
    refine OJ.nil ?_
    refine SJ.sr 7 ?_
    refine OJ.go 3 [(21, .int .u8 (IntKind.wrap .u8 (Int.fdiv j3 (2 ^ 8)))), (20, .int .u64 (Int.fdiv j3 (2 ^ 8))), (19, .int .i64 (IntKind.wrap .i64 (j4 + 8)))] ?_
    refine OJ.idxT (d := 22) (T := 9) (y := .const (.string str0)) (j := .tmp 21) (k := .u8) (fun hb5 hb6 => ?_)
    refine OJ.go 3 [(2, .int .i64 (IntKind.wrap .i64 ((IntKind.wrap .i64 (j4 + 8)) + (IntKind.wrap .i64 (sb str0 (IntKind.wrap .u8 (Int.fdiv j3 (2 ^ 8)))))))), (24, .int .i64 (IntKind.wrap .i64 ((IntKind.wrap .i64 (j4 + 8)) + (IntKind.wrap .i64 (sb str0 (IntKind.wrap .u8 (Int.fdiv j3 (2 ^ 8)))))))), (23, .int .i64 (IntKind.wrap .i64 (sb str0 (IntKind.wrap .u8 (Int.fdiv j3 (2 ^ 8))))))] ?_
    refine OJ.nil ?_
    exact SJ.ret rfl (Res.run (ys := [.int .i64 (IntKind.wrap .i64 ((IntKind.wrap .i64 (j4 + 8)) + (IntKind.wrap .i64 (sb str0 (IntKind.wrap .u8 (Int.fdiv j3 (2 ^ 8)))))))]) (.tmp (by kernel_rfl) .nil) rfl)
  · refine SJ.skip ?_
    refine SJ.sr 7 ?_
    refine OJ.go 3 [(21, .int .u8 (IntKind.wrap .u8 j3)), (20, .int .u64 j3), (19, .int .i64 j4)] ?_
    refine OJ.idxT (d := 22) (T := 9) (y := .const (.string str0)) (j := .tmp 21) (k := .u8) (fun hb7 hb8 => ?_)
    refine OJ.go 3 [(2, .int .i64 (IntKind.wrap .i64 (j4 + (IntKind.wrap .i64 (sb str0 (IntKind.wrap .u8 j3)))))), (24, .int .i64 (IntKind.wrap .i64 (j4 + (IntKind.wrap .i64 (sb str0 (IntKind.wrap .u8 j3)))))), (23, .int .i64 (IntKind.wrap .i64 (sb str0 (IntKind.wrap .u8 j3))))] ?_
    refine OJ.nil ?_
    exact SJ.ret rfl (Res.run (ys := [.int .i64 (IntKind.wrap .i64 (j4 + (IntKind.wrap .i64 (sb str0 (IntKind.wrap .u8 j3)))))]) (.tmp (by kernel_rfl) .nil) rfl)
noncomputable def bits_Len64.K2 (j1 : Int) (j2 : Int) : M Int :=
  if j1 ≥ 65536 then
    bits_Len64.K1 (Int.fdiv j1 (2 ^ 16)) (IntKind.wrap .i64 (j2 + 16))
  else
    bits_Len64.K1 j1 j2
theorem bits_Len64.K2_ok (j1 : Int) (j2 : Int) :
    SJ bits_Len64.cx [.code (c2 (c2 bits_Len64.B))] [(0, .int .u64 j1), (2, .int .i64 j2)] [] (bits_Len64.K2 j1 j2) bits_Len64.F0 := by
  unfold bits_Len64.K2
  refine SJ.seq ?_
  refine SJ.sr 2 ?_
  refine OJ.go 2 [(8, .bool (decide (j1 ≥ 65536))), (7, .int .u64 j1)] ?_
  refine OJ.nil ?_
  refine SJ.cond (t := (.tmp 8)) (b := decide (j1 ≥ 65536)) decide_eq_true_iff (fun hc10 => ?_) (fun hc10 => ?_)
  · refine SJ.sr 3 ?_
    refine OJ.go 3 [(0, .int .u64 (Int.fdiv j1 (2 ^ 16))), (10, .int .u64 (Int.fdiv j1 (2 ^ 16))), (9, .int .u64 j1)] ?_
    refine OJ.nil ?_
    refine SJ.rg 3 ?_
    refine OJ.go 3 [(2, .int .i64 (IntKind.wrap .i64 (j2 + 16))), (12, .int .i64 (IntKind.wrap .i64 (j2 + 16))), (11, .int .i64 j2)] ?_
    refine OJ.nil ?_
    refine SJ.less [0, 2] (m' := [(0, .int .u64 (Int.fdiv j1 (2 ^ 16))), (2, .int .i64 (IntKind.wrap .i64 (j2 + 16)))]) ?_
    exact bits_Len64.K1_ok (Int.fdiv j1 (2 ^ 16)) (IntKind.wrap .i64 (j2 + 16))
  · refine SJ.skip ?_
    refine SJ.less [0, 2] (m' := [(0, .int .u64 j1), (2, .int .i64 j2)]) ?_
    exact bits_Len64.K1_ok j1 j2
noncomputable def bits_Len64 (a0 : Int) : M Int :=
  if a0 ≥ 4294967296 then
    bits_Len64.K2 (Int.fdiv a0 (2 ^ 32)) 32
  else
    bits_Len64.K2 a0 0
theorem bits_Len64_ok (a0 : Int) : Ref Tryd.prog 79 [.int .u64 a0] (bits_Len64 a0) bits_Len64.out := by
  refine Ref.of (cd := bits_Len64.B) Tryd.func79 ?_
  show SJ bits_Len64.cx [.code bits_Len64.B] [(0, .int .u64 a0)] [] (bits_Len64 a0) bits_Len64.F0
  unfold bits_Len64
  refine SJ.sr 1 ?_
  refine OJ.go 1 [(2, .int .i64 0)] ?_
  refine OJ.nil ?_
  refine SJ.seq ?_
  refine SJ.sr 2 ?_
  refine OJ.go 2 [(4, .bool (decide (a0 ≥ 4294967296))), (3, .int .u64 a0)] ?_
  refine OJ.nil ?_
  refine SJ.cond (t := (.tmp 4)) (b := decide (a0 ≥ 4294967296)) decide_eq_true_iff (fun hc11 => ?_) (fun hc11 => ?_)
  · refine SJ.sr 3 ?_
    refine OJ.go 3 [(0, .int .u64 (Int.fdiv a0 (2 ^ 32))), (6, .int .u64 (Int.fdiv a0 (2 ^ 32))), (5, .int .u64 a0)] ?_
    refine OJ.nil ?_
    refine SJ.rg 1 ?_
    refine OJ.go 1 [(2, .int .i64 32)] ?_
    refine OJ.nil ?_
    refine SJ.less [0, 2] (m' := [(0, .int .u64 (Int.fdiv a0 (2 ^ 32))), (2, .int .i64 32)]) ?_
    exact bits_Len64.K2_ok (Int.fdiv a0 (2 ^ 32)) 32
  · refine SJ.skip ?_
    refine SJ.less [0, 2] (m' := [(0, .int .u64 a0), (2, .int .i64 0)]) ?_
    exact bits_Len64.K2_ok a0 0

/-! ### math/bits.Len: function 66 -/
noncomputable def bits_Len.B : Code := (Tryd.f66.body).getD .skip
noncomputable def bits_Len.cx : Fx := ⟨Tryd.prog, 66, Tryd.f66, none⟩
noncomputable def bits_Len.out (r_ : Int) : Value := .int .i64 r_
noncomputable def bits_Len.F0 (r_ : Int) : Reach := .ret (bits_Len.out r_)
noncomputable def bits_Len (a0 : Int) : M Int :=
  bits_Len64 a0 >>= fun r1 =>
  pure r1
theorem bits_Len_ok (a0 : Int) : Ref Tryd.prog 66 [.int .u64 a0] (bits_Len a0) bits_Len.out := by
  refine Ref.of (cd := bits_Len.B) Tryd.func66 ?_
  show SJ bits_Len.cx [.code bits_Len.B] [(0, .int .u64 a0)] [] (bits_Len a0) bits_Len.F0
  unfold bits_Len
  refine SJ.sr 1 ?_
  refine OJ.go 1 [(2, .int .i64 0)] ?_
  refine OJ.nil ?_
  refine SJ.seq ?_
  refine SJ.cond0 (t := (.const (.bool false))) ?_
  refine SJ.skip ?_
  refine SJ.sr 3 ?_
  refine OJ.go 1 [(6, .int .u64 a0)] ?_
  refine OJ.call (d := 7) (g := 79) (ats := #[134]) (args := [.tmp 6]) (owed := []) F79 (bits_Len64_ok a0) (fun r1 => ?_)
  refine OW.nil ?_
  refine OJ.go 1 [(2, .int .i64 r1)] ?_
  refine OJ.nil ?_
  exact SJ.ret rfl (Res.run (ys := [.int .i64 r1]) (.tmp (by kernel_rfl) .nil) rfl)
end Go.Proofs.YtfgcobigollfjaaDoor.Lx
