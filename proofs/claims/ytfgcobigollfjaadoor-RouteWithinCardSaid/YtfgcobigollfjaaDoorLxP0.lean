/- Programs of the M-world for Go functions, each with the proof that the Go text does what it says. Printed by lxgen.py. -/
import Derived.Test.YtfgcobigollfjaaDoorLxT
set_option linter.unusedVariables false
set_option linter.unusedSimpArgs false
set_option linter.unusedSectionVars false
namespace Go.Proofs.YtfgcobigollfjaaDoor.Lx
open Go Go.Proofs
variable [Loops]
/-! ### weir/route.New: function 9 -/
noncomputable def route_New.B : Code := (Tryd.f9.body).getD .skip
noncomputable def route_New.cx : Fx := ⟨Tryd.prog, 9, Tryd.f9, none⟩
noncomputable def route_New.out (r_ : (Option Addr)) : Value := .pointer r_
noncomputable def route_New.F0 (r_ : (Option Addr)) : Reach := .ret (route_New.out r_)
noncomputable def route_New  : M (Option Addr) :=
 mkMap >>= fun b1 =>
 newv 81 c_route_Table (⟨(some b1)⟩ : route_Table) >>= fun b2 =>
 pure (some (pt b2 0))
theorem route_New_ok  : Ref Tryd.prog 9 [] (route_New) route_New.out := by
 refine Ref.of (cd := route_New.B) Tryd.func9 ?_
 show SJ route_New.cx [.code route_New.B] [] [] (route_New) route_New.F0
 unfold route_New
 refine SJ.sr 1 <| OJ.go 1 [(0, .pointer none)] <| OJ.nil <| SJ.sr 4 <| OJ.mkMap (d := 1) (t := 79) (owed := []) (fun b1 => ?_)
 refine OW.nil <| OJ.build (d := 2) (T := 81) (parts := [(0, .tmp 1)]) (ps := [(0, cM.val (some b1))]) (cd := c_route_Table) (z0 := z_route_Table) (⟨(some b1)⟩ : route_Table) Ty81 rfl (Filled.cons (cd := cM) (q := (some b1)) (o := 0) (by kernel_rfl) (Up_route_Table_routes z_route_Table (some b1)) Filled.nil) ?_
 refine OJ.newOf (d := 3) (op := (.box 81 (.tmp 2))) (cd := c_route_Table) (u := (⟨(some b1)⟩ : route_Table)) (owed := []) (box_run (by kernel_rfl)) (fun b2 => ?_)
 exact OW.nil <| OJ.go 1 [(0, .pointer (some (pt b2 0)))] <| OJ.nil <| SJ.r1 (.pointer (some (pt b2 0))) rfl rfl

/-! ### weir/weirlaw14.route0: function 16 -/
noncomputable def weirlaw14_route0.B : Code := (Tryd.f16.body).getD .skip
noncomputable def weirlaw14_route0.cx : Fx := ⟨Tryd.prog, 16, Tryd.f16, none⟩
noncomputable def weirlaw14_route0.out (r_ : api_Route) : Value := c_api_Route.val r_
noncomputable def weirlaw14_route0.F0 (r_ : api_Route) : Reach := .ret (weirlaw14_route0.out r_)
noncomputable def weirlaw14_route0  : M api_Route :=
 slot 32 >>= fun b1 =>
 pure (⟨(⟨(⟨4, (⟨[10, 0, 0, 0, 0, 0, 0, 0, 0, 0, 0, 0, 0, 0, 0, 0], rfl⟩ : (Vec Int 16))⟩ : api_IP), 8⟩ : api_Prefix), 1, z_api_Route.Via⟩ : api_Route)
theorem weirlaw14_route0_ok  : Ref Tryd.prog 16 [] (weirlaw14_route0) weirlaw14_route0.out := by
 refine Ref.of (cd := weirlaw14_route0.B) Tryd.func16 ?_
 show SJ weirlaw14_route0.cx [.code weirlaw14_route0.B] [] [] (weirlaw14_route0) weirlaw14_route0.F0
 unfold weirlaw14_route0
 refine SJ.sr 1 <| OJ.slotOf (d := 0) (op := (.alloc 32)) (cd := c_api_Route) (u := z_api_Route) (owed := []) (alloc_run Ty32) (fun b1 => ?_)
 refine OW.nil <| OJ.nil <| SJ.sr 5 <| OJ.build (d := 1) (T := 26) (parts := [(0, .const (.int .u8 10))]) (ps := [(0, (cI .u8).val 10)]) (cd := ((cI .u8).arr 16)) (z0 := (Vec.rep 16 0)) (⟨[10, 0, 0, 0, 0, 0, 0, 0, 0, 0, 0, 0, 0, 0, 0, 0], rfl⟩ : (Vec Int 16)) Ty26 rfl (Filled.cons (cd := (cI .u8)) (q := 10) (o := 0) (by kernel_rfl) (Upd.arr (i := 0) (by decide) (by decide)) Filled.nil) ?_
 refine OJ.build (d := 2) (T := 28) (parts := [(0, .const (.int .i64 4)), (1, .tmp 1)]) (ps := [(0, (cI .i64).val 4), (1, ((cI .u8).arr 16).val (⟨[10, 0, 0, 0, 0, 0, 0, 0, 0, 0, 0, 0, 0, 0, 0, 0], rfl⟩ : (Vec Int 16)))]) (cd := c_api_IP) (z0 := z_api_IP) (⟨4, (⟨[10, 0, 0, 0, 0, 0, 0, 0, 0, 0, 0, 0, 0, 0, 0, 0], rfl⟩ : (Vec Int 16))⟩ : api_IP) Ty28 rfl (Filled.cons (cd := (cI .i64)) (q := 4) (o := 0) (by kernel_rfl) (Up_api_IP_V z_api_IP 4) (Filled.cons (cd := ((cI .u8).arr 16)) (q := (⟨[10, 0, 0, 0, 0, 0, 0, 0, 0, 0, 0, 0, 0, 0, 0, 0], rfl⟩ : (Vec Int 16))) (o := 1) (by kernel_rfl) (Up_api_IP_A (⟨4, z_api_IP.A⟩ : api_IP) (⟨[10, 0, 0, 0, 0, 0, 0, 0, 0, 0, 0, 0, 0, 0, 0, 0], rfl⟩ : (Vec Int 16))) Filled.nil)) ?_
 refine OJ.build (d := 3) (T := 30) (parts := [(0, .tmp 2), (1, .const (.int .i64 8))]) (ps := [(0, c_api_IP.val (⟨4, (⟨[10, 0, 0, 0, 0, 0, 0, 0, 0, 0, 0, 0, 0, 0, 0, 0], rfl⟩ : (Vec Int 16))⟩ : api_IP)), (1, (cI .i64).val 8)]) (cd := c_api_Prefix) (z0 := z_api_Prefix) (⟨(⟨4, (⟨[10, 0, 0, 0, 0, 0, 0, 0, 0, 0, 0, 0, 0, 0, 0, 0], rfl⟩ : (Vec Int 16))⟩ : api_IP), 8⟩ : api_Prefix) Ty30 rfl (Filled.cons (cd := c_api_IP) (q := (⟨4, (⟨[10, 0, 0, 0, 0, 0, 0, 0, 0, 0, 0, 0, 0, 0, 0, 0], rfl⟩ : (Vec Int 16))⟩ : api_IP)) (o := 0) (by kernel_rfl) (Up_api_Prefix_IP z_api_Prefix (⟨4, (⟨[10, 0, 0, 0, 0, 0, 0, 0, 0, 0, 0, 0, 0, 0, 0, 0], rfl⟩ : (Vec Int 16))⟩ : api_IP)) (Filled.cons (cd := (cI .i64)) (q := 8) (o := 17) (by kernel_rfl) (Up_api_Prefix_Len (⟨(⟨4, (⟨[10, 0, 0, 0, 0, 0, 0, 0, 0, 0, 0, 0, 0, 0, 0, 0], rfl⟩ : (Vec Int 16))⟩ : api_IP), z_api_Prefix.Len⟩ : api_Prefix) 8) Filled.nil)) ?_
 refine OJ.build (d := 4) (T := 32) (parts := [(0, .tmp 3), (1, .const (.int .i64 1))]) (ps := [(0, c_api_Prefix.val (⟨(⟨4, (⟨[10, 0, 0, 0, 0, 0, 0, 0, 0, 0, 0, 0, 0, 0, 0, 0], rfl⟩ : (Vec Int 16))⟩ : api_IP), 8⟩ : api_Prefix)), (1, (cI .i64).val 1)]) (cd := c_api_Route) (z0 := z_api_Route) (⟨(⟨(⟨4, (⟨[10, 0, 0, 0, 0, 0, 0, 0, 0, 0, 0, 0, 0, 0, 0, 0], rfl⟩ : (Vec Int 16))⟩ : api_IP), 8⟩ : api_Prefix), 1, z_api_Route.Via⟩ : api_Route) Ty32 rfl (Filled.cons (cd := c_api_Prefix) (q := (⟨(⟨4, (⟨[10, 0, 0, 0, 0, 0, 0, 0, 0, 0, 0, 0, 0, 0, 0, 0], rfl⟩ : (Vec Int 16))⟩ : api_IP), 8⟩ : api_Prefix)) (o := 0) (by kernel_rfl) (Up_api_Route_Prefix z_api_Route (⟨(⟨4, (⟨[10, 0, 0, 0, 0, 0, 0, 0, 0, 0, 0, 0, 0, 0, 0, 0], rfl⟩ : (Vec Int 16))⟩ : api_IP), 8⟩ : api_Prefix)) (Filled.cons (cd := (cI .i64)) (q := 1) (o := 18) (by kernel_rfl) (Up_api_Route_Port (⟨(⟨(⟨4, (⟨[10, 0, 0, 0, 0, 0, 0, 0, 0, 0, 0, 0, 0, 0, 0, 0], rfl⟩ : (Vec Int 16))⟩ : api_IP), 8⟩ : api_Prefix), z_api_Route.Port, z_api_Route.Via⟩ : api_Route) 1) Filled.nil)) ?_
 refine OJ.kst (y := .tmp 0) (z := .tmp 4) (cd := c_api_Route) (u := (⟨(⟨(⟨4, (⟨[10, 0, 0, 0, 0, 0, 0, 0, 0, 0, 0, 0, 0, 0, 0, 0], rfl⟩ : (Vec Int 16))⟩ : api_IP), 8⟩ : api_Prefix), 1, z_api_Route.Via⟩ : api_Route)) (j := 0) (b := b1) (o := 0) (c_api_Route.enc (⟨(⟨(⟨4, (⟨[10, 0, 0, 0, 0, 0, 0, 0, 0, 0, 0, 0, 0, 0, 0, 0], rfl⟩ : (Vec Int 16))⟩ : api_IP), 8⟩ : api_Prefix), 1, z_api_Route.Via⟩ : api_Route)) (owed := []) Ty32 rfl (Upd.whole ((Cod.len _ _).trans (Cod.len _ _).symm)) rfl ?_
 exact OW.nil <| OJ.nil <| SJ.ret rfl (Res.run (ys := [c_api_Route.val (⟨(⟨(⟨4, (⟨[10, 0, 0, 0, 0, 0, 0, 0, 0, 0, 0, 0, 0, 0, 0, 0], rfl⟩ : (Vec Int 16))⟩ : api_IP), 8⟩ : api_Prefix), 1, z_api_Route.Via⟩ : api_Route)]) (.cell (j := 0) (b := b1) (cd := c_api_Route) (q := (⟨(⟨(⟨4, (⟨[10, 0, 0, 0, 0, 0, 0, 0, 0, 0, 0, 0, 0, 0, 0, 0], rfl⟩ : (Vec Int 16))⟩ : api_IP), 8⟩ : api_Prefix), 1, z_api_Route.Via⟩ : api_Route)) (by kernel_rfl) rfl Ty32 (At.whole _) .nil) rfl)

/-! ### weir/addr.size: function 50 -/
noncomputable def addr_size.B : Code := (Tryd.f50.body).getD .skip
noncomputable def addr_size.cx : Fx := ⟨Tryd.prog, 50, Tryd.f50, none⟩
noncomputable def addr_size.out (r_ : Int) : Value := .int .i64 r_
noncomputable def addr_size.F0 (r_ : Int) : Reach := .ret (addr_size.out r_)
noncomputable def addr_size (a0 : api_IP) : M Int :=
 newv 28 c_api_IP a0 >>= fun b1 =>
 ld (cI .i64) (pt b1 0) >>= fun x2 =>
 if x2 = 6 then
  pure 128
 else
  ld (cI .i64) (pt b1 0) >>= fun x3 =>
  (if x3 ≠ 4 then
    pure true
   else
    cut 1 ⟨some (Addr.add (pt b1 0) 1), 16, 16⟩ (some 4) none none >>= fun r4 =>
    (chk (12 ≤ r4.len) >>= fun _ => nilck r4.a) >>= fun p5 =>
    ld ((cI .u8).arr 12) p5 >>= fun x6 =>
    pure (!eqv x6 (⟨[0, 0, 0, 0, 0, 0, 0, 0, 0, 0, 0, 0], rfl⟩ : (Vec Int 12)))) >>= fun y7 =>
  if y7 = true then
   pure 0
  else
   pure 32
theorem addr_size_ok (a0 : api_IP) : Ref Tryd.prog 50 [c_api_IP.val a0] (addr_size a0) addr_size.out := by
 refine Ref.of (cd := addr_size.B) Tryd.func50 ?_
 show SJ addr_size.cx [.code addr_size.B] [(0, c_api_IP.val a0)] [] (addr_size a0) addr_size.F0
 unfold addr_size
 refine SJ.sr 2 <| OJ.newOf (d := 1) (op := (.box 28 (.tmp 0))) (cd := c_api_IP) (u := a0) (owed := []) (box_run (by kernel_rfl)) (fun b1 => ?_)
 refine OW.nil <| OJ.go 1 [(2, .int .i64 0)] <| OJ.nil <| SJ.seq <| SJ.sr 3 <| OJ.go 1 [(3, .pointer (some (pt b1 0)))] <| OJ.ld (d := 4) (y := .tmp 3) (pend2 := fun x2 => []) Ty3 (fun _ => rfl) (fun x2 => ?_)
 refine OJ.go 1 [(5, .bool (x2 == 6))] <| OJ.nil <| SJ.cond (t := (.tmp 5)) (b := (x2 == 6)) beq_iff_eq (fun hc9 => ?_) (fun hc9 => ?_)
 ·exact SJ.sr 1 <| OJ.go 1 [(2, .int .i64 128)] <| OJ.nil <| SJ.r1 (.int .i64 128) rfl rfl
 ·refine SJ.skip <| SJ.seq <| SJ.sr 11 <| OJ.go 1 [(6, .pointer (some (pt b1 0)))] <| OJ.ld (d := 7) (y := .tmp 6) (pend2 := fun x3 => []) Ty3 (fun _ => rfl) (fun x3 => ?_)
  refine OJ.go 2 [(9, .bool (x3 != 4)), (8, .bool (x3 != 4))] <| OJ.join (b := (x3 != 4)) [4, 5, 6, 7, 8, 9, 10] [] [16] (fun y7 => [(16, .bool y7)]) [] [] (t := 9) bne_iff_ne (fun hp_ => ?_) (fun hp_ => ?_) (fun _ _ _ _ _ _ h_ => h_) (fun y7 => ?_)
  ·exact OJ.go 7 [(16, .bool true), (15, undef), (14, undef), (13, undef), (12, undef), (11, undef), (10, undef)] <| OJ.x0
  ·refine OJ.go 1 [(10, .pointer (some (Addr.add (pt b1 0) 1)))] <| OJ.cutA (d := 11) (t := 26) (E := 5) (y := .tmp 10) (lo := (some (.const (.int .i64 4)))) (hi := none) (mx := none) (lo' := some (.i64, 4)) (hi' := none) (mx' := none) (fun h => by cases h) (fun r4 => ?_)
   refine OJ.toArr (d := 12) (t := 115) (E := 5) (y := .tmp 11) (s := r4) (fun p5 => ?_)
   refine OJ.ld (d := 13) (y := .tmp 12) (pend2 := fun x6 => []) Ty115 (fun _ => rfl) (fun x6 => ?_)
   refine OJ.build (d := 14) (T := 115) (parts := []) (ps := []) (cd := ((cI .u8).arr 12)) (z0 := (Vec.rep 12 0)) (⟨[0, 0, 0, 0, 0, 0, 0, 0, 0, 0, 0, 0], rfl⟩ : (Vec Int 12)) Ty115 rfl Filled.nil ?_
   refine OJ.neq (d := 15) (T := 115) (yT := 115) (y := .tmp 13) (z := .tmp 14) (cd := ((cI .u8).arr 12)) (p := x6) (q := (⟨[0, 0, 0, 0, 0, 0, 0, 0, 0, 0, 0, 0], rfl⟩ : (Vec Int 12))) rfl Eq115 ?_
   exact OJ.go 1 [(16, .bool (!eqv x6 (⟨[0, 0, 0, 0, 0, 0, 0, 0, 0, 0, 0, 0], rfl⟩ : (Vec Int 12))))] <| OJ.x0
  ·refine OJ.nil <| SJ.cond (t := (.tmp 16)) (b := y7) Iff.rfl (fun hc8 => ?_) (fun hc8 => ?_)
   ·exact SJ.sr 1 <| OJ.go 1 [(2, .int .i64 0)] <| OJ.nil <| SJ.r1 (.int .i64 0) rfl rfl
   ·exact SJ.skip <| SJ.sr 1 <| OJ.go 1 [(2, .int .i64 32)] <| OJ.nil <| SJ.r1 (.int .i64 32) rfl rfl

/-! ### weir/addr.Valid: function 32 -/
noncomputable def addr_Valid.B : Code := (Tryd.f32.body).getD .skip
noncomputable def addr_Valid.cx : Fx := ⟨Tryd.prog, 32, Tryd.f32, none⟩
noncomputable def addr_Valid.out (r_ : Bool) : Value := .bool r_
noncomputable def addr_Valid.F0 (r_ : Bool) : Reach := .ret (addr_Valid.out r_)
noncomputable def addr_Valid (a0 : api_IP) : M Bool :=
 slot 28 >>= fun b1 =>
 addr_size a0 >>= fun r2 =>
 pure (decide (r2 > 0))
theorem addr_Valid_ok (a0 : api_IP) : Ref Tryd.prog 32 [c_api_IP.val a0] (addr_Valid a0) addr_Valid.out := by
 refine Ref.of (cd := addr_Valid.B) Tryd.func32 ?_
 show SJ addr_Valid.cx [.code addr_Valid.B] [(0, c_api_IP.val a0)] [] (addr_Valid a0) addr_Valid.F0
 unfold addr_Valid
 refine SJ.sr 2 <| OJ.slotOf (d := 1) (op := (.box 28 (.tmp 0))) (cd := c_api_IP) (u := a0) (owed := []) (box_run (by kernel_rfl)) (fun b1 => ?_)
 refine OW.nil <| OJ.go 1 [(2, .bool false)] <| OJ.nil <| SJ.sr 4 <| OJ.kld (d := 3) (y := .tmp 1) (cd := c_api_IP) (j := 0) (b := b1) (o := 0) a0 (pend2 := []) Ty28 rfl (At.whole _) rfl ?_
 refine OJ.call (d := 4) (g := 50) (ats := #[28]) (args := [.tmp 3]) (owed := []) F50 (addr_size_ok a0) (fun r2 => ?_)
 exact OW.nil <| OJ.go 2 [(2, .bool (decide (r2 > 0))), (5, .bool (decide (r2 > 0)))] <| OJ.nil <| SJ.r1 (.bool (decide (r2 > 0))) rfl rfl

/-! ### weir/route.bits: function 48 -/
noncomputable def route_bits.B : Code := (Tryd.f48.body).getD .skip
noncomputable def route_bits.cx : Fx := ⟨Tryd.prog, 48, Tryd.f48, none⟩
noncomputable def route_bits.out (r_ : Int) : Value := .int .i64 r_
noncomputable def route_bits.F0 (r_ : Int) : Reach := .ret (route_bits.out r_)
noncomputable def route_bits (a0 : Int) : M Int :=
 if a0 = 4 then
  pure 32
 else
  pure 128
theorem route_bits_ok (a0 : Int) : Ref Tryd.prog 48 [.int .i64 a0] (route_bits a0) route_bits.out := by
 refine Ref.of (cd := route_bits.B) Tryd.func48 ?_
 show SJ route_bits.cx [.code route_bits.B] [(0, .int .i64 a0)] [] (route_bits a0) route_bits.F0
 unfold route_bits
 refine SJ.sr 1 <| OJ.go 1 [(2, .int .i64 0)] <| OJ.nil <| SJ.seq <| SJ.sr 2 <| OJ.go 2 [(4, .bool (a0 == 4)), (3, .int .i64 a0)] <| OJ.nil <| SJ.cond (t := (.tmp 4)) (b := (a0 == 4)) beq_iff_eq (fun hc1 => ?_) (fun hc1 => ?_)
 ·exact SJ.sr 1 <| OJ.go 1 [(2, .int .i64 32)] <| OJ.nil <| SJ.r1 (.int .i64 32) rfl rfl
 ·exact SJ.skip <| SJ.sr 1 <| OJ.go 1 [(2, .int .i64 128)] <| OJ.nil <| SJ.r1 (.int .i64 128) rfl rfl

/-! ### weir/addr.masked: function 40 -/
noncomputable def addr_masked.B : Code := (Tryd.f40.body).getD .skip
noncomputable def addr_masked.cx : Fx := ⟨Tryd.prog, 40, Tryd.f40, none⟩
noncomputable def addr_masked.out (r_ : (Vec Int 16)) : Value := ((cI .u8).arr 16).val r_
noncomputable def addr_masked.F0 (r_ : (Vec Int 16)) : Reach := .ret (addr_masked.out r_)
noncomputable def addr_masked.F1 (a0 : (Vec Int 16)) (a1 : Int) (b1 : Nat) (b2 : Nat) (b3 : Nat) : (LS (Int × (Vec Int 16)) (Vec Int 16)) → Reach := loopF [.inLoop (c1 (c1 (c2 (c1 (c2 (c2 addr_masked.B)))))), .inBlock 0, .code (c2 (c2 (c2 addr_masked.B)))] (fun s_ : (Int × (Vec Int 16)) => [(1, .int .i64 a1), (2, .pointer (some (pt b1 0))), (4, .pointer (some (pt b2 0))), (5, .pointer (some (pt b3 0))), (8, .int .i64 s_.1)]) (fun s_ : (Int × (Vec Int 16)) => [(b3, ((cI .u8).arr 16).enc s_.2), (b2, ((cI .u8).arr 16).enc (Vec.rep 16 0)), (b1, ((cI .u8).arr 16).enc a0)]) addr_masked.F0
noncomputable def addr_masked.L1 (a0 : (Vec Int 16)) (a1 : Int) (s4 : Int) (s5 : (Vec Int 16)) : M (LS (Int × (Vec Int 16)) (Vec Int 16)) :=
 if s4 < 16 then
  chk ((0 : Int) ≤ s4 ∧ s4 < (16 : Nat)) >>= fun _ =>
  chk (0 ≤ (IntKind.wrap .u64 (if (if 0 < (IntKind.wrap .i64 (a1 - (IntKind.wrap .i64 (8 * s4)))) then (IntKind.wrap .i64 (a1 - (IntKind.wrap .i64 (8 * s4)))) else 0) < 8 then (if 0 < (IntKind.wrap .i64 (a1 - (IntKind.wrap .i64 (8 * s4)))) then (IntKind.wrap .i64 (a1 - (IntKind.wrap .i64 (8 * s4)))) else 0) else 8))) >>= fun _ =>
  chk ((0 : Int) ≤ s4 ∧ s4 < (16 : Nat)) >>= fun _ =>
  pure (LS.next (IntKind.wrap .i64 (s4 + 1), (Vec.s s5 s4 (band .u8 (Vec.g a0 s4 0) (IntKind.wrap .u8 (Int.fdiv 65280 (2 ^ min (Int.toNat (IntKind.wrap .u64 (if (if 0 < (IntKind.wrap .i64 (a1 - (IntKind.wrap .i64 (8 * s4)))) then (IntKind.wrap .i64 (a1 - (IntKind.wrap .i64 (8 * s4)))) else 0) < 8 then (if 0 < (IntKind.wrap .i64 (a1 - (IntKind.wrap .i64 (8 * s4)))) then (IntKind.wrap .i64 (a1 - (IntKind.wrap .i64 (8 * s4)))) else 0) else 8))) 64)))))))
 else
  pure (LS.done s5)
theorem addr_masked.L1_ok (a0 : (Vec Int 16)) (a1 : Int) (b1 : Nat) (b2 : Nat) (b3 : Nat) (s4 : Int) (s5 : (Vec Int 16)) :
  SJ addr_masked.cx [.code (c1 (c1 (c2 (c1 (c2 (c2 addr_masked.B)))))), .inLoop (c1 (c1 (c2 (c1 (c2 (c2 addr_masked.B)))))), .inBlock 0, .code (c2 (c2 (c2 addr_masked.B)))] [(1, .int .i64 a1), (2, .pointer (some (pt b1 0))), (4, .pointer (some (pt b2 0))), (5, .pointer (some (pt b3 0))), (8, .int .i64 s4)] [(b3, ((cI .u8).arr 16).enc s5), (b2, ((cI .u8).arr 16).enc (Vec.rep 16 0)), (b1, ((cI .u8).arr 16).enc a0)] (addr_masked.L1 a0 a1 s4 s5) (addr_masked.F1 a0 a1 b1 b2 b3) := by
 unfold addr_masked.L1
 refine SJ.sr 1 <| OJ.go 1 [(9, .bool (decide (s4 < 16)))] <| OJ.nil <| SJ.seq <| SJ.cond (t := (.tmp 9)) (b := decide (s4 < 16)) decide_eq_true_iff (fun hc17 => ?_) (fun hc17 => ?_)
 ·refine SJ.skip <| SJ.seq <| SJ.block (id := 1) <| SJ.sr 2 <| OJ.go 2 [(6, .int .i64 s4), (10, .int .i64 s4)] <| OJ.nil <| SJ.sr 7 <| OJ.go 4 [(14, .int .i64 (IntKind.wrap .i64 (a1 - (IntKind.wrap .i64 (8 * s4))))), (13, .int .i64 (IntKind.wrap .i64 (8 * s4))), (12, .int .i64 s4), (11, .int .i64 a1)] <| OJ.max (d := 15) (t := 3) (u := 3) (so := .const (.int .i64 0)) (xo := .tmp 14) (k := .i64) (p := 0) (q := (IntKind.wrap .i64 (a1 - (IntKind.wrap .i64 (8 * s4))))) ?_
  refine OJ.min (d := 16) (t := 3) (u := 3) (so := .const (.int .i64 8)) (xo := .tmp 15) (k := .i64) (p := 8) (q := (if 0 < (IntKind.wrap .i64 (a1 - (IntKind.wrap .i64 (8 * s4)))) then (IntKind.wrap .i64 (a1 - (IntKind.wrap .i64 (8 * s4)))) else 0)) ?_
  refine OJ.go 1 [(7, .int .i64 (if (if 0 < (IntKind.wrap .i64 (a1 - (IntKind.wrap .i64 (8 * s4)))) then (IntKind.wrap .i64 (a1 - (IntKind.wrap .i64 (8 * s4)))) else 0) < 8 then (if 0 < (IntKind.wrap .i64 (a1 - (IntKind.wrap .i64 (8 * s4)))) then (IntKind.wrap .i64 (a1 - (IntKind.wrap .i64 (8 * s4)))) else 0) else 8))] <| OJ.nil <| SJ.rg 11 <| OJ.go 2 [(18, .int .i64 s4), (17, .int .i64 s4)] <| OJ.idxK (d := 19) (T := 26) (y := .tmp 2) (j := .tmp 18) (E := 5) (sz := 1) (b := b1) (o := 0) (k := .i64) (fun hb12 hb13 => ?_)
  refine OJ.kld (d := 20) (y := .tmp 19) (cd := (cI .u8)) (j := 2) (b := b1) (o := (0 + s4.toNat * 1)) (Vec.g a0 s4 0) (pend2 := []) Ty5 rfl (At.zero (At.arr (z := 0) hb12 hb13)) rfl ?_
  refine OJ.go 2 [(22, .int .u64 (IntKind.wrap .u64 (if (if 0 < (IntKind.wrap .i64 (a1 - (IntKind.wrap .i64 (8 * s4)))) then (IntKind.wrap .i64 (a1 - (IntKind.wrap .i64 (8 * s4)))) else 0) < 8 then (if 0 < (IntKind.wrap .i64 (a1 - (IntKind.wrap .i64 (8 * s4)))) then (IntKind.wrap .i64 (a1 - (IntKind.wrap .i64 (8 * s4)))) else 0) else 8))), (21, .int .i64 (if (if 0 < (IntKind.wrap .i64 (a1 - (IntKind.wrap .i64 (8 * s4)))) then (IntKind.wrap .i64 (a1 - (IntKind.wrap .i64 (8 * s4)))) else 0) < 8 then (if 0 < (IntKind.wrap .i64 (a1 - (IntKind.wrap .i64 (8 * s4)))) then (IntKind.wrap .i64 (a1 - (IntKind.wrap .i64 (8 * s4)))) else 0) else 8))] <| OJ.shr (d := 23) (T := 3) (yT := 108) (y := .const (.int .i64 65280)) (z := .tmp 22) (k := .i64) (yk := .u64) (p := 65280) (q := (IntKind.wrap .u64 (if (if 0 < (IntKind.wrap .i64 (a1 - (IntKind.wrap .i64 (8 * s4)))) then (IntKind.wrap .i64 (a1 - (IntKind.wrap .i64 (8 * s4)))) else 0) < 8 then (if 0 < (IntKind.wrap .i64 (a1 - (IntKind.wrap .i64 (8 * s4)))) then (IntKind.wrap .i64 (a1 - (IntKind.wrap .i64 (8 * s4)))) else 0) else 8))) (fun hq16 => ?_)
  refine OJ.go 2 [(25, .int .u8 (band .u8 (Vec.g a0 s4 0) (IntKind.wrap .u8 (Int.fdiv 65280 (2 ^ min (Int.toNat (IntKind.wrap .u64 (if (if 0 < (IntKind.wrap .i64 (a1 - (IntKind.wrap .i64 (8 * s4)))) then (IntKind.wrap .i64 (a1 - (IntKind.wrap .i64 (8 * s4)))) else 0) < 8 then (if 0 < (IntKind.wrap .i64 (a1 - (IntKind.wrap .i64 (8 * s4)))) then (IntKind.wrap .i64 (a1 - (IntKind.wrap .i64 (8 * s4)))) else 0) else 8))) 64))))), (24, .int .u8 (IntKind.wrap .u8 (Int.fdiv 65280 (2 ^ min (Int.toNat (IntKind.wrap .u64 (if (if 0 < (IntKind.wrap .i64 (a1 - (IntKind.wrap .i64 (8 * s4)))) then (IntKind.wrap .i64 (a1 - (IntKind.wrap .i64 (8 * s4)))) else 0) < 8 then (if 0 < (IntKind.wrap .i64 (a1 - (IntKind.wrap .i64 (8 * s4)))) then (IntKind.wrap .i64 (a1 - (IntKind.wrap .i64 (8 * s4)))) else 0) else 8))) 64))))] <| OJ.idxK (d := 26) (T := 26) (y := .tmp 5) (j := .tmp 17) (E := 5) (sz := 1) (b := b3) (o := 0) (k := .i64) (fun hb14 hb15 => ?_)
  refine OJ.kst (y := .tmp 26) (z := .tmp 25) (cd := (cI .u8)) (u := (band .u8 (Vec.g a0 s4 0) (IntKind.wrap .u8 (Int.fdiv 65280 (2 ^ min (Int.toNat (IntKind.wrap .u64 (if (if 0 < (IntKind.wrap .i64 (a1 - (IntKind.wrap .i64 (8 * s4)))) then (IntKind.wrap .i64 (a1 - (IntKind.wrap .i64 (8 * s4)))) else 0) < 8 then (if 0 < (IntKind.wrap .i64 (a1 - (IntKind.wrap .i64 (8 * s4)))) then (IntKind.wrap .i64 (a1 - (IntKind.wrap .i64 (8 * s4)))) else 0) else 8))) 64))))) (j := 0) (b := b3) (o := (0 + s4.toNat * 1)) (((cI .u8).arr 16).enc (Vec.s s5 s4 (band .u8 (Vec.g a0 s4 0) (IntKind.wrap .u8 (Int.fdiv 65280 (2 ^ min (Int.toNat (IntKind.wrap .u64 (if (if 0 < (IntKind.wrap .i64 (a1 - (IntKind.wrap .i64 (8 * s4)))) then (IntKind.wrap .i64 (a1 - (IntKind.wrap .i64 (8 * s4)))) else 0) < 8 then (if 0 < (IntKind.wrap .i64 (a1 - (IntKind.wrap .i64 (8 * s4)))) then (IntKind.wrap .i64 (a1 - (IntKind.wrap .i64 (8 * s4)))) else 0) else 8))) 64)))))) (owed := []) Ty5 rfl (Upd.zero (Upd.arr hb14 hb15)) rfl ?_
  exact OW.nil <| OJ.nil <| SJ.inBlock <| SJ.rg 2 <| OJ.go 2 [(8, .int .i64 (IntKind.wrap .i64 (s4 + 1))), (27, .int .i64 (IntKind.wrap .i64 (s4 + 1)))] <| OJ.nil <| SJ.at_ [1, 2, 4, 5, 8] rfl
 ·refine SJ.exit (id := 0) (by rfl) <| SJ.sr 2 <| OJ.kld (d := 28) (y := .tmp 5) (cd := ((cI .u8).arr 16)) (j := 0) (b := b3) (o := 0) s5 (pend2 := []) Ty26 rfl (At.whole _) rfl ?_
  refine OJ.kst (y := .tmp 4) (z := .tmp 28) (cd := ((cI .u8).arr 16)) (u := s5) (j := 1) (b := b2) (o := 0) (((cI .u8).arr 16).enc s5) (owed := []) Ty26 rfl (Upd.whole ((Cod.len _ _).trans (Cod.len _ _).symm)) rfl ?_
  exact OW.nil <| OJ.nil <| SJ.ret rfl (Res.run (ys := [((cI .u8).arr 16).val s5]) (.cell (j := 1) (b := b2) (cd := ((cI .u8).arr 16)) (q := s5) (by kernel_rfl) rfl Ty26 (At.whole _) .nil) rfl)
noncomputable def addr_masked (a0 : (Vec Int 16)) (a1 : Int) : M (Vec Int 16) :=
 slot 26 >>= fun b1 =>
 slot 26 >>= fun b2 =>
 slot 26 >>= fun b3 =>
 loopM (fun s_ : (Int × (Vec Int 16)) => addr_masked.L1 a0 a1 s_.1 s_.2) (0, (Vec.rep 16 0))
theorem addr_masked_ok (a0 : (Vec Int 16)) (a1 : Int) : Ref Tryd.prog 40 [((cI .u8).arr 16).val a0, .int .i64 a1] (addr_masked a0 a1) addr_masked.out := by
 refine Ref.of (cd := addr_masked.B) Tryd.func40 ?_
 show SJ addr_masked.cx [.code addr_masked.B] [(0, ((cI .u8).arr 16).val a0), (1, .int .i64 a1)] [] (addr_masked a0 a1) addr_masked.F0
 unfold addr_masked
 refine SJ.sr 2 <| OJ.slotOf (d := 2) (op := (.box 26 (.tmp 0))) (cd := ((cI .u8).arr 16)) (u := a0) (owed := []) (box_run (by kernel_rfl)) (fun b1 => ?_)
 refine OW.nil <| OJ.slotOf (d := 4) (op := (.alloc 26)) (cd := ((cI .u8).arr 16)) (u := (Vec.rep 16 0)) (owed := []) (alloc_run Ty26) (fun b2 => ?_)
 refine OW.nil <| OJ.nil <| SJ.sr 1 <| OJ.slotOf (d := 5) (op := (.alloc 26)) (cd := ((cI .u8).arr 16)) (u := (Vec.rep 16 0)) (owed := []) (alloc_run Ty26) (fun b3 => ?_)
 exact OW.nil <| OJ.nil <| SJ.seq <| SJ.sr 1 <| OJ.go 1 [(8, .int .i64 0)] <| OJ.nil <| SJ.block (id := 0) <| SJ.loop (fun s_ : (Int × (Vec Int 16)) => [(1, .int .i64 a1), (2, .pointer (some (pt b1 0))), (4, .pointer (some (pt b2 0))), (5, .pointer (some (pt b3 0))), (8, .int .i64 s_.1)]) (fun s_ : (Int × (Vec Int 16)) => [(b3, ((cI .u8).arr 16).enc s_.2), (b2, ((cI .u8).arr 16).enc (Vec.rep 16 0)), (b1, ((cI .u8).arr 16).enc a0)]) [1, 2, 4, 5, 8] rfl (fun _ _ => rfl) (fun s_ => addr_masked.L1_ok a0 a1 b1 b2 b3 s_.1 s_.2)

/-! ### weir/addr.Mask: function 49 -/
noncomputable def addr_Mask.B : Code := (Tryd.f49.body).getD .skip
noncomputable def addr_Mask.cx : Fx := ⟨Tryd.prog, 49, Tryd.f49, none⟩
noncomputable def addr_Mask.out (r_ : (api_IP × Int)) : Value := .tuple #[c_api_IP.val r_.1, .int .i64 r_.2]
noncomputable def addr_Mask.F0 (r_ : (api_IP × Int)) : Reach := .ret (addr_Mask.out r_)
noncomputable def addr_Mask (a0 : api_IP) (a1 : Int) : M (api_IP × Int) :=
 slot 28 >>= fun b1 =>
 slot 28 >>= fun b2 =>
 addr_size a0 >>= fun r3 =>
 if r3 = 0 then
  pure (z_api_IP, 40)
 else
  (if a1 < 0 then
    pure true
   else
    pure (decide (a1 > r3))) >>= fun y6 =>
  if y6 = true then
   pure (z_api_IP, 45)
  else
   draw >>= fun _ =>
   addr_masked a0.A a1 >>= fun r7 =>
   pure ((⟨a0.V, r7⟩ : api_IP), 0)
theorem addr_Mask_ok (a0 : api_IP) (a1 : Int) : Ref Tryd.prog 49 [c_api_IP.val a0, .int .i64 a1] (addr_Mask a0 a1) addr_Mask.out := by
 refine Ref.of (cd := addr_Mask.B) Tryd.func49 ?_
 show SJ addr_Mask.cx [.code addr_Mask.B] [(0, c_api_IP.val a0), (1, .int .i64 a1)] [] (addr_Mask a0 a1) addr_Mask.F0
 unfold addr_Mask
 refine SJ.sr 3 <| OJ.slotOf (d := 2) (op := (.box 28 (.tmp 0))) (cd := c_api_IP) (u := a0) (owed := []) (box_run (by kernel_rfl)) (fun b1 => ?_)
 refine OW.nil <| OJ.slotOf (d := 4) (op := (.alloc 28)) (cd := c_api_IP) (u := z_api_IP) (owed := []) (alloc_run Ty28) (fun b2 => ?_)
 refine OW.nil <| OJ.go 1 [(5, .int .i64 0)] <| OJ.nil <| SJ.seq <| SJ.sr 3 <| OJ.kld (d := 7) (y := .tmp 2) (cd := c_api_IP) (j := 1) (b := b1) (o := 0) a0 (pend2 := []) Ty28 rfl (At.whole _) rfl ?_
 refine OJ.call (d := 8) (g := 50) (ats := #[28]) (args := [.tmp 7]) (owed := []) F50 (addr_size_ok a0) (fun r3 => ?_)
 refine OW.nil <| OJ.go 1 [(6, .int .i64 r3)] <| OJ.nil <| SJ.block (id := 0) <| SJ.sr 3 <| OJ.go 3 [(9, .bool (r3 == 0)), (11, .bool (r3 == 0)), (10, .int .i64 r3)] <| OJ.nil <| SJ.cond (t := (.tmp 9)) (b := (r3 == 0)) beq_iff_eq (fun hc9 => ?_) (fun hc9 => ?_)
 ·refine SJ.sr 3 <| OJ.build (d := 12) (T := 28) (parts := []) (ps := []) (cd := c_api_IP) (z0 := z_api_IP) z_api_IP Ty28 rfl Filled.nil ?_
  refine OJ.kst (y := .tmp 4) (z := .tmp 12) (cd := c_api_IP) (u := z_api_IP) (j := 0) (b := b2) (o := 0) (c_api_IP.enc z_api_IP) (owed := []) Ty28 rfl (Upd.whole ((Cod.len _ _).trans (Cod.len _ _).symm)) rfl ?_
  exact OW.nil <| OJ.go 1 [(5, .int .i64 40)] <| OJ.nil <| SJ.ret rfl (Res.run (ys := [c_api_IP.val z_api_IP, .int .i64 40]) (.cell (j := 0) (b := b2) (cd := c_api_IP) (q := z_api_IP) (by kernel_rfl) rfl Ty28 (At.whole _) (.tmp (by kernel_rfl) .nil)) rfl)
 ·refine SJ.sr 8 <| OJ.go 3 [(16, .bool (decide (a1 < 0))), (15, .bool (decide (a1 < 0))), (14, .int .i64 a1)] <| OJ.join (b := decide (a1 < 0)) [3, 4, 5, 6] [7] [1, 2, 4, 20] (fun y6 => [(1, .int .i64 a1), (2, .pointer (some (pt b1 0))), (4, .pointer (some (pt b2 0))), (20, .bool y6)]) [] [] (t := 16) decide_eq_true_iff (fun hp_ => ?_) (fun hp_ => ?_) (fun _ _ _ _ _ _ h_ => h_) (fun y6 => ?_)
  ·exact OJ.go 4 [(20, .bool true), (19, undef), (18, undef), (17, undef)] <| OJ.x0
  ·exact OJ.go 4 [(20, .bool (decide (a1 > r3))), (19, .bool (decide (a1 > r3))), (18, .int .i64 r3), (17, .int .i64 a1)] <| OJ.x0
  ·refine OJ.go 1 [(13, .bool y6)] <| OJ.nil <| SJ.cond (t := (.tmp 13)) (b := y6) Iff.rfl (fun hc8 => ?_) (fun hc8 => ?_)
   ·refine SJ.sr 3 <| OJ.build (d := 21) (T := 28) (parts := []) (ps := []) (cd := c_api_IP) (z0 := z_api_IP) z_api_IP Ty28 rfl Filled.nil ?_
    refine OJ.kst (y := .tmp 4) (z := .tmp 21) (cd := c_api_IP) (u := z_api_IP) (j := 0) (b := b2) (o := 0) (c_api_IP.enc z_api_IP) (owed := []) Ty28 rfl (Upd.whole ((Cod.len _ _).trans (Cod.len _ _).symm)) rfl ?_
    exact OW.nil <| OJ.go 1 [(5, .int .i64 45)] <| OJ.nil <| SJ.ret rfl (Res.run (ys := [c_api_IP.val z_api_IP, .int .i64 45]) (.cell (j := 0) (b := b2) (cd := c_api_IP) (q := z_api_IP) (by kernel_rfl) rfl Ty28 (At.whole _) (.tmp (by kernel_rfl) .nil)) rfl)
   ·refine SJ.skip <| SJ.inBlock <| SJ.seq <| SJ.draw (id := 6) (kd := [0, 1, 0, 1, 0, 2, 0, 2, 0]) (bef := [0, 1, 0, 4, 0, 28, 63, 127, 255]) (ord := [0, 1, 2, 3, 4, 5, 6, 7, 8]) mixed ?_
    refine OJ.go 1 [(22, .pointer (some (pt b1 0)))] <| OJ.kld (d := 23) (y := .tmp 22) (cd := (cI .i64)) (j := 1) (b := b1) (o := 0) a0.V (pend2 := [⟨1, 3, (pt b1 0), (cI .i64).val a0.V⟩]) Ty3 rfl (At_api_IP_V a0) rfl ?_
    refine OJ.go 1 [(24, .pointer (some (pt b1 1)))] <| OJ.kld (d := 25) (y := .tmp 24) (cd := ((cI .u8).arr 16)) (j := 1) (b := b1) (o := 1) a0.A (pend2 := [⟨3, 26, (pt b1 1), ((cI .u8).arr 16).val a0.A⟩, ⟨1, 3, (pt b1 0), (cI .i64).val a0.V⟩]) Ty26 rfl (At_api_IP_A a0) rfl ?_
    refine OJ.go 1 [(26, .int .i64 a1)] <| OJ.call (d := 27) (g := 40) (ats := #[26, 3]) (args := [.tmp 25, .tmp 26]) (owed := [⟨1, 3, (pt b1 0), (cI .i64).val a0.V⟩]) F40 (addr_masked_ok a0.A a1) (fun r7 => ?_)
    refine OW.known (j := 1) (q := a0.V) Ty3 rfl (At_api_IP_V a0) ?_
    refine OW.nil <| OJ.build (d := 28) (T := 28) (parts := [(0, .tmp 23), (1, .tmp 27)]) (ps := [(0, (cI .i64).val a0.V), (1, ((cI .u8).arr 16).val r7)]) (cd := c_api_IP) (z0 := z_api_IP) (⟨a0.V, r7⟩ : api_IP) Ty28 rfl (Filled.cons (cd := (cI .i64)) (q := a0.V) (o := 0) (by kernel_rfl) (Up_api_IP_V z_api_IP a0.V) (Filled.cons (cd := ((cI .u8).arr 16)) (q := r7) (o := 1) (by kernel_rfl) (Up_api_IP_A (⟨a0.V, z_api_IP.A⟩ : api_IP) r7) Filled.nil)) ?_
    refine OJ.kst (y := .tmp 4) (z := .tmp 28) (cd := c_api_IP) (u := (⟨a0.V, r7⟩ : api_IP)) (j := 0) (b := b2) (o := 0) (c_api_IP.enc (⟨a0.V, r7⟩ : api_IP)) (owed := []) Ty28 rfl (Upd.whole ((Cod.len _ _).trans (Cod.len _ _).symm)) rfl ?_
    exact OW.nil <| OJ.go 1 [(5, .int .i64 0)] <| OJ.nil <| SJ.ret rfl (Res.run (ys := [c_api_IP.val (⟨a0.V, r7⟩ : api_IP), .int .i64 0]) (.cell (j := 0) (b := b2) (cd := c_api_IP) (q := (⟨a0.V, r7⟩ : api_IP)) (by kernel_rfl) rfl Ty28 (At.whole _) (.tmp (by kernel_rfl) .nil)) rfl)

/-! ### weir/route.isPrefix: function 30 -/
noncomputable def route_isPrefix.B : Code := (Tryd.f30.body).getD .skip
noncomputable def route_isPrefix.cx : Fx := ⟨Tryd.prog, 30, Tryd.f30, none⟩
noncomputable def route_isPrefix.out (r_ : Bool) : Value := .bool r_
noncomputable def route_isPrefix.F0 (r_ : Bool) : Reach := .ret (route_isPrefix.out r_)
noncomputable def route_isPrefix (a0 : api_Prefix) : M Bool :=
 slot 30 >>= fun b1 =>
 draw >>= fun _ =>
 addr_Valid a0.IP >>= fun r2 =>
 (if ¬ (r2 = true) then
   pure true
  else
   pure (decide (a0.Len < 0))) >>= fun y3 =>
 (if y3 = true then
   pure true
  else
   route_bits a0.IP.V >>= fun r4 =>
   pure (decide (a0.Len > r4))) >>= fun y5 =>
 if y5 = true then
  pure false
 else
  addr_Mask a0.IP a0.Len >>= fun r6 =>
  slot 28 >>= fun b7 =>
  (if r6.2 = 0 then
    pure (eqv r6.1 a0.IP)
   else
    pure false) >>= fun y8 =>
  pure y8
theorem route_isPrefix_ok (a0 : api_Prefix) : Ref Tryd.prog 30 [c_api_Prefix.val a0] (route_isPrefix a0) route_isPrefix.out := by
 refine Ref.of (cd := route_isPrefix.B) Tryd.func30 ?_
 show SJ route_isPrefix.cx [.code route_isPrefix.B] [(0, c_api_Prefix.val a0)] [] (route_isPrefix a0) route_isPrefix.F0
 unfold route_isPrefix
 refine SJ.sr 2 <| OJ.slotOf (d := 1) (op := (.box 30 (.tmp 0))) (cd := c_api_Prefix) (u := a0) (owed := []) (box_run (by kernel_rfl)) (fun b1 => ?_)
 refine OW.nil <| OJ.go 1 [(2, .bool false)] <| OJ.nil <| SJ.seq <| SJ.seq <| SJ.draw (id := 1) (kd := [0, 1, 2, 0, 0, 0, 1, 0, 0, 0, 0, 1, 0, 0, 1, 2, 0, 0]) (bef := [0, 1, 3, 7, 15, 31, 63, 127, 255, 511, 1023, 2047, 1023, 5119, 13311, 29695, 65535, 131071]) (ord := [0, 1, 2, 3, 4, 5, 6, 7, 8, 9, 10, 11, 12, 13, 14, 15, 16, 17]) mixed ?_
 refine OJ.go 1 [(5, .pointer (some (pt b1 0)))] <| OJ.kld (d := 6) (y := .tmp 5) (cd := c_api_IP) (j := 0) (b := b1) (o := 0) a0.IP (pend2 := [⟨1, 28, (pt b1 0), c_api_IP.val a0.IP⟩]) Ty28 rfl (At_api_Prefix_IP a0) rfl ?_
 refine OJ.call (d := 7) (g := 32) (ats := #[28]) (args := [.tmp 6]) (owed := []) F32 (addr_Valid_ok a0.IP) (fun r2 => ?_)
 refine OW.nil <| OJ.go 2 [(9, .bool (!r2)), (8, .bool (!r2))] <| OJ.join (b := (!r2)) [5, 6, 7, 8] [9, 10, 11, 12, 13, 14, 15, 16, 17] [1, 13] (fun y3 => [(1, .pointer (some (pt b1 0))), (13, .bool y3)]) [⟨6, 3, (pt b1 17), (cI .i64).val a0.Len⟩, ⟨1, 28, (pt b1 0), c_api_IP.val a0.IP⟩] [] (t := 9) (bnot_iff Iff.rfl) (fun hp_ => ?_) (fun hp_ => ?_) (fun _ _ _ _ _ _ h_ => h_) (fun y3 => ?_)
 ·exact OJ.go 4 [(13, .bool true), (12, undef), (11, undef), (10, undef)] <| OJ.nil ⟨(Cov.mem (Cov.keep (List.mem_of_getElem? (i := 1) rfl) Cov.nil)), rfl, _, rfl, by kernel_rfl⟩
 ·refine OJ.go 1 [(10, .pointer (some (pt b1 17)))] <| OJ.kld (d := 11) (y := .tmp 10) (cd := (cI .i64)) (j := 0) (b := b1) (o := 17) a0.Len (pend2 := [⟨6, 3, (pt b1 17), (cI .i64).val a0.Len⟩, ⟨1, 28, (pt b1 0), c_api_IP.val a0.IP⟩]) Ty3 rfl (At_api_Prefix_Len a0) rfl ?_
  exact OJ.go 2 [(13, .bool (decide (a0.Len < 0))), (12, .bool (decide (a0.Len < 0)))] <| OJ.nil ⟨(Cov.mem (Cov.keep (List.mem_of_getElem? (i := 0) rfl) (Cov.keep (List.mem_of_getElem? (i := 1) rfl) Cov.nil))), rfl, _, rfl, by kernel_rfl⟩
 ·refine OJ.go 1 [(14, .bool y3)] <| OJ.join (b := y3) [10, 11, 12, 13, 14, 15, 16, 17] [] [1, 22] (fun y5 => [(1, .pointer (some (pt b1 0))), (22, .bool y5)]) [⟨14, 3, (pt b1 0), (cI .i64).val a0.IP.V⟩, ⟨11, 3, (pt b1 17), (cI .i64).val a0.Len⟩, ⟨6, 3, (pt b1 17), (cI .i64).val a0.Len⟩, ⟨1, 28, (pt b1 0), c_api_IP.val a0.IP⟩] [] (t := 14) Iff.rfl (fun hp_ => ?_) (fun hp_ => ?_) (fun _ _ _ _ _ _ h_ => h_) (fun y5 => ?_)
  ·exact OJ.go 8 [(22, .bool true), (21, undef), (20, undef), (19, undef), (18, undef), (17, undef), (16, undef), (15, undef)] <| OJ.nil ⟨(Cov.mem (Cov.keep (List.mem_of_getElem? (i := 2) rfl) (Cov.keep (List.mem_of_getElem? (i := 3) rfl) Cov.nil))), rfl, _, rfl, by kernel_rfl⟩
  ·refine OJ.go 1 [(15, .pointer (some (pt b1 17)))] <| OJ.kld (d := 16) (y := .tmp 15) (cd := (cI .i64)) (j := 0) (b := b1) (o := 17) a0.Len (pend2 := [⟨11, 3, (pt b1 17), (cI .i64).val a0.Len⟩, ⟨6, 3, (pt b1 17), (cI .i64).val a0.Len⟩, ⟨1, 28, (pt b1 0), c_api_IP.val a0.IP⟩]) Ty3 rfl (At_api_Prefix_Len a0) rfl ?_
   refine OJ.go 2 [(18, .pointer (some (pt b1 0))), (17, .pointer (some (pt b1 0)))] <| OJ.kld (d := 19) (y := .tmp 18) (cd := (cI .i64)) (j := 0) (b := b1) (o := 0) a0.IP.V (pend2 := [⟨14, 3, (pt b1 0), (cI .i64).val a0.IP.V⟩, ⟨11, 3, (pt b1 17), (cI .i64).val a0.Len⟩, ⟨6, 3, (pt b1 17), (cI .i64).val a0.Len⟩, ⟨1, 28, (pt b1 0), c_api_IP.val a0.IP⟩]) Ty3 rfl (At.trans (At_api_Prefix_IP a0) (At_api_IP_V a0.IP)) rfl ?_
   refine OJ.call (d := 20) (g := 48) (ats := #[3]) (args := [.tmp 19]) (owed := [⟨11, 3, (pt b1 17), (cI .i64).val a0.Len⟩]) F48 (route_bits_ok a0.IP.V) (fun r4 => ?_)
   refine OW.known (j := 0) (q := a0.Len) Ty3 rfl (At_api_Prefix_Len a0) ?_
   exact OW.nil <| OJ.go 2 [(22, .bool (decide (a0.Len > r4))), (21, .bool (decide (a0.Len > r4)))] <| OJ.nil ⟨(Cov.mem (Cov.keep (List.mem_of_getElem? (i := 0) rfl) (Cov.keep (List.mem_of_getElem? (i := 1) rfl) (Cov.keep (List.mem_of_getElem? (i := 2) rfl) (Cov.keep (List.mem_of_getElem? (i := 3) rfl) Cov.nil))))), rfl, _, rfl, by kernel_rfl⟩
  ·refine OJ.nil <| SJ.cond (t := (.tmp 22)) (b := y5) Iff.rfl (fun hc9 => ?_) (fun hc9 => ?_)
   ·exact SJ.sr 1 <| OJ.go 1 [(2, .bool false)] <| OJ.nil <| SJ.r1 (.bool false) rfl rfl
   ·refine SJ.skip <| SJ.sr 11 <| OJ.go 1 [(24, .pointer (some (pt b1 0)))] <| OJ.kld (d := 25) (y := .tmp 24) (cd := c_api_IP) (j := 0) (b := b1) (o := 0) a0.IP (pend2 := []) Ty28 rfl (At_api_Prefix_IP a0) rfl ?_
    refine OJ.go 1 [(26, .pointer (some (pt b1 17)))] <| OJ.kld (d := 27) (y := .tmp 26) (cd := (cI .i64)) (j := 0) (b := b1) (o := 17) a0.Len (pend2 := []) Ty3 rfl (At_api_Prefix_Len a0) rfl ?_
    refine OJ.call (d := 28) (g := 49) (ats := #[28, 3]) (args := [.tmp 25, .tmp 27]) (owed := []) F49 (addr_Mask_ok a0.IP a0.Len) (fun r6 => ?_)
    refine OW.nil <| OJ.go 3 [(30, .int .i64 r6.2), (29, c_api_IP.val r6.1), (23, .tuple #[c_api_IP.val r6.1, .int .i64 r6.2])] <| OJ.slotOf (d := 3) (op := (.alloc 28)) (cd := c_api_IP) (u := z_api_IP) (owed := []) (alloc_run Ty28) (fun b7 => ?_)
    refine OW.nil <| OJ.kst (y := .tmp 3) (z := .tmp 29) (cd := c_api_IP) (u := r6.1) (j := 0) (b := b7) (o := 0) (c_api_IP.enc r6.1) (owed := []) Ty28 rfl (Upd.whole ((Cod.len _ _).trans (Cod.len _ _).symm)) rfl ?_
    refine OW.nil <| OJ.go 1 [(4, .int .i64 r6.2)] <| OJ.nil <| SJ.sr 9 <| OJ.go 3 [(33, .bool (r6.2 == 0)), (32, .bool (r6.2 == 0)), (31, .int .i64 r6.2)] <| OJ.join (b := (r6.2 == 0)) [3, 4, 5, 6, 7] [8] [38] (fun y8 => [(38, .bool y8)]) [] [] (t := 33) beq_iff_eq (fun hp_ => ?_) (fun hp_ => ?_) (fun _ _ _ _ _ _ h_ => h_) (fun y8 => ?_)
    ·refine OJ.kld (d := 34) (y := .tmp 3) (cd := c_api_IP) (j := 0) (b := b7) (o := 0) r6.1 (pend2 := []) Ty28 rfl (At.whole _) rfl ?_
     refine OJ.go 1 [(35, .pointer (some (pt b1 0)))] <| OJ.kld (d := 36) (y := .tmp 35) (cd := c_api_IP) (j := 1) (b := b1) (o := 0) a0.IP (pend2 := []) Ty28 rfl (At_api_Prefix_IP a0) rfl ?_
     refine OJ.eql (d := 37) (T := 28) (yT := 28) (y := .tmp 34) (z := .tmp 36) (cd := c_api_IP) (p := r6.1) (q := a0.IP) rfl Eq28 ?_
     exact OJ.go 1 [(38, .bool (eqv r6.1 a0.IP))] <| OJ.x0
    ·exact OJ.go 5 [(38, .bool false), (37, undef), (36, undef), (35, undef), (34, undef)] <| OJ.x0
    ·exact OJ.go 1 [(2, .bool y8)] <| OJ.nil <| SJ.r1 (.bool y8) rfl rfl

/-! ### weir/addr.Class: function 31 -/
noncomputable def addr_Class.B : Code := (Tryd.f31.body).getD .skip
noncomputable def addr_Class.cx : Fx := ⟨Tryd.prog, 31, Tryd.f31, none⟩
noncomputable def addr_Class.out (r_ : Int) : Value := .int .i64 r_
noncomputable def addr_Class.F0 (r_ : Int) : Reach := .ret (addr_Class.out r_)
noncomputable def addr_Class.F1 (a0 : api_IP) (b1 : Nat) (x3 : (Vec addr_net 12)) : (LS Int Int) → Reach := loopF [.inLoop (c1 (c1 (c2 (c1 (c2 (c2 addr_Class.B)))))), .inBlock 0, .code (c2 (c2 (c2 addr_Class.B)))] (fun s_ : Int => [(1, .pointer (some (pt b1 0))), (8, (c_addr_net.arr 12).val x3), (9, .int .i64 s_)]) (fun s_ : Int => [(b1, c_api_IP.enc a0)]) addr_Class.F0
noncomputable def addr_Class.L1 (a0 : api_IP) (x3 : (Vec addr_net 12)) (s4 : Int) : M (LS Int Int) :=
 if s4 < 12 then
  chk ((0 : Int) ≤ s4 ∧ s4 < (12 : Nat)) >>= fun _ =>
  slot 104 >>= fun b14 =>
  draw >>= fun _ =>
  (if ((Vec.g x3 s4 z_addr_net).v) = a0.V then
    addr_masked a0.A ((Vec.g x3 s4 z_addr_net).bits) >>= fun r15 =>
    pure (eqv r15 ((Vec.g x3 s4 z_addr_net).a))
   else
    pure false) >>= fun y16 =>
  if y16 = true then
   pure (LS.done ((Vec.g x3 s4 z_addr_net).class_))
  else
   pure (LS.next (IntKind.wrap .i64 (s4 + 1)))
 else
  pure (LS.done 7)
theorem addr_Class.L1_ok (a0 : api_IP) (b1 : Nat) (x3 : (Vec addr_net 12)) (s4 : Int) :
  SJ addr_Class.cx [.code (c1 (c1 (c2 (c1 (c2 (c2 addr_Class.B)))))), .inLoop (c1 (c1 (c2 (c1 (c2 (c2 addr_Class.B)))))), .inBlock 0, .code (c2 (c2 (c2 addr_Class.B)))] [(1, .pointer (some (pt b1 0))), (8, (c_addr_net.arr 12).val x3), (9, .int .i64 s4)] [(b1, c_api_IP.enc a0)] (addr_Class.L1 a0 x3 s4) (addr_Class.F1 a0 b1 x3) := by
 unfold addr_Class.L1
 refine SJ.sr 1 <| OJ.go 1 [(10, .bool (decide (s4 < 12)))] <| OJ.nil <| SJ.seq <| SJ.cond (t := (.tmp 10)) (b := decide (s4 < 12)) decide_eq_true_iff (fun hc18 => ?_) (fun hc18 => ?_)
 ·refine SJ.skip <| SJ.seq <| SJ.block (id := 1) <| SJ.sr 3 <| OJ.idxV (d := 11) (T := 105) (E := 104) (y := .tmp 8) (j := .tmp 9) (k := .i64) (v0 := x3) Ty104 (fun hb12 hb13 => ?_)
  refine OJ.slotOf (d := 4) (op := (.alloc 104)) (cd := c_addr_net) (u := z_addr_net) (owed := []) (alloc_run Ty104) (fun b14 => ?_)
  refine OW.nil <| OJ.kst (y := .tmp 4) (z := .tmp 11) (cd := c_addr_net) (u := (Vec.g x3 s4 z_addr_net)) (j := 0) (b := b14) (o := 0) (c_addr_net.enc (Vec.g x3 s4 z_addr_net)) (owed := []) Ty104 rfl (Upd.whole ((Cod.len _ _).trans (Cod.len _ _).symm)) rfl ?_
  refine OW.nil <| OJ.nil <| SJ.seq <| SJ.draw (id := 6) (kd := [0, 1, 0, 1, 0, 0, 0, 1, 0, 1, 2, 0, 1, 0, 0]) (bef := [0, 1, 0, 4, 15, 31, 63, 127, 63, 319, 1023, 63, 2111, 8191, 16383]) (ord := [0, 1, 2, 3, 4, 5, 6, 7, 8, 9, 11, 12, 10, 13, 14]) mixed ?_
  refine OJ.go 1 [(12, .pointer (some (pt b14 0)))] <| OJ.kld (d := 13) (y := .tmp 12) (cd := (cI .i64)) (j := 0) (b := b14) (o := 0) ((Vec.g x3 s4 z_addr_net).v) (pend2 := [⟨1, 3, (pt b14 0), (cI .i64).val ((Vec.g x3 s4 z_addr_net).v)⟩]) Ty3 rfl (At_addr_net_v (Vec.g x3 s4 z_addr_net)) rfl ?_
  refine OJ.go 1 [(14, .pointer (some (pt b1 0)))] <| OJ.kld (d := 15) (y := .tmp 14) (cd := (cI .i64)) (j := 1) (b := b1) (o := 0) a0.V (pend2 := [⟨3, 3, (pt b1 0), (cI .i64).val a0.V⟩, ⟨1, 3, (pt b14 0), (cI .i64).val ((Vec.g x3 s4 z_addr_net).v)⟩]) Ty3 rfl (At_api_IP_V a0) rfl ?_
  refine OJ.go 2 [(17, .bool (((Vec.g x3 s4 z_addr_net).v) == a0.V)), (16, .bool (((Vec.g x3 s4 z_addr_net).v) == a0.V))] <| OJ.join (b := (((Vec.g x3 s4 z_addr_net).v) == a0.V)) [6, 7, 8, 9, 11, 12, 10, 13, 14] [] [1, 8, 9, 4, 26] (fun y16 => [(1, .pointer (some (pt b1 0))), (8, (c_addr_net.arr 12).val x3), (9, .int .i64 s4), (4, .pointer (some (pt b14 0))), (26, .bool y16)]) [⟨12, 26, (pt b14 1), ((cI .u8).arr 16).val ((Vec.g x3 s4 z_addr_net).a)⟩, ⟨9, 3, (pt b14 17), (cI .i64).val ((Vec.g x3 s4 z_addr_net).bits)⟩, ⟨7, 26, (pt b1 1), ((cI .u8).arr 16).val a0.A⟩, ⟨3, 3, (pt b1 0), (cI .i64).val a0.V⟩, ⟨1, 3, (pt b14 0), (cI .i64).val ((Vec.g x3 s4 z_addr_net).v)⟩] [] (t := 17) beq_iff_eq (fun hp_ => ?_) (fun hp_ => ?_) (fun _ _ _ _ _ _ h_ => h_) (fun y16 => ?_)
  ·refine OJ.go 1 [(18, .pointer (some (pt b1 1)))] <| OJ.kld (d := 19) (y := .tmp 18) (cd := ((cI .u8).arr 16)) (j := 1) (b := b1) (o := 1) a0.A (pend2 := [⟨7, 26, (pt b1 1), ((cI .u8).arr 16).val a0.A⟩, ⟨3, 3, (pt b1 0), (cI .i64).val a0.V⟩, ⟨1, 3, (pt b14 0), (cI .i64).val ((Vec.g x3 s4 z_addr_net).v)⟩]) Ty26 rfl (At_api_IP_A a0) rfl ?_
   refine OJ.go 1 [(20, .pointer (some (pt b14 17)))] <| OJ.kld (d := 21) (y := .tmp 20) (cd := (cI .i64)) (j := 0) (b := b14) (o := 17) ((Vec.g x3 s4 z_addr_net).bits) (pend2 := [⟨9, 3, (pt b14 17), (cI .i64).val ((Vec.g x3 s4 z_addr_net).bits)⟩, ⟨7, 26, (pt b1 1), ((cI .u8).arr 16).val a0.A⟩, ⟨3, 3, (pt b1 0), (cI .i64).val a0.V⟩, ⟨1, 3, (pt b14 0), (cI .i64).val ((Vec.g x3 s4 z_addr_net).v)⟩]) Ty3 rfl (At_addr_net_bits (Vec.g x3 s4 z_addr_net)) rfl ?_
   refine OJ.go 1 [(23, .pointer (some (pt b14 1)))] <| OJ.kld (d := 24) (y := .tmp 23) (cd := ((cI .u8).arr 16)) (j := 0) (b := b14) (o := 1) ((Vec.g x3 s4 z_addr_net).a) (pend2 := [⟨12, 26, (pt b14 1), ((cI .u8).arr 16).val ((Vec.g x3 s4 z_addr_net).a)⟩, ⟨9, 3, (pt b14 17), (cI .i64).val ((Vec.g x3 s4 z_addr_net).bits)⟩, ⟨7, 26, (pt b1 1), ((cI .u8).arr 16).val a0.A⟩, ⟨3, 3, (pt b1 0), (cI .i64).val a0.V⟩, ⟨1, 3, (pt b14 0), (cI .i64).val ((Vec.g x3 s4 z_addr_net).v)⟩]) Ty26 rfl (At_addr_net_a (Vec.g x3 s4 z_addr_net)) rfl ?_
   refine OJ.call (d := 22) (g := 40) (ats := #[26, 3]) (args := [.tmp 19, .tmp 21]) (owed := [⟨12, 26, (pt b14 1), ((cI .u8).arr 16).val ((Vec.g x3 s4 z_addr_net).a)⟩]) F40 (addr_masked_ok a0.A ((Vec.g x3 s4 z_addr_net).bits)) (fun r15 => ?_)
   refine OW.known (j := 0) (q := ((Vec.g x3 s4 z_addr_net).a)) Ty26 rfl (At_addr_net_a (Vec.g x3 s4 z_addr_net)) ?_
   refine OW.nil <| OJ.eql (d := 25) (T := 26) (yT := 26) (y := .tmp 22) (z := .tmp 24) (cd := ((cI .u8).arr 16)) (p := r15) (q := ((Vec.g x3 s4 z_addr_net).a)) rfl Eq26 ?_
   exact OJ.go 1 [(26, .bool (eqv r15 ((Vec.g x3 s4 z_addr_net).a)))] <| OJ.nil ⟨(Cov.mem (Cov.keep (List.mem_of_getElem? (i := 0) rfl) (Cov.keep (List.mem_of_getElem? (i := 1) rfl) (Cov.keep (List.mem_of_getElem? (i := 2) rfl) (Cov.keep (List.mem_of_getElem? (i := 3) rfl) (Cov.keep (List.mem_of_getElem? (i := 4) rfl) Cov.nil)))))), rfl, _, rfl, by kernel_rfl⟩
  ·exact OJ.go 9 [(26, .bool false), (25, undef), (22, undef), (24, undef), (23, undef), (21, undef), (20, undef), (19, undef), (18, undef)] <| OJ.nil ⟨(Cov.mem (Cov.keep (List.mem_of_getElem? (i := 3) rfl) (Cov.keep (List.mem_of_getElem? (i := 4) rfl) Cov.nil))), rfl, _, rfl, by kernel_rfl⟩
  ·refine OJ.nil <| SJ.cond (t := (.tmp 26)) (b := y16) Iff.rfl (fun hc17 => ?_) (fun hc17 => ?_)
   ·refine SJ.sr 3 <| OJ.go 1 [(27, .pointer (some (pt b14 18)))] <| OJ.kld (d := 28) (y := .tmp 27) (cd := (cI .i64)) (j := 0) (b := b14) (o := 18) ((Vec.g x3 s4 z_addr_net).class_) (pend2 := []) Ty3 rfl (At_addr_net_class_ (Vec.g x3 s4 z_addr_net)) rfl ?_
    exact OJ.go 1 [(2, .int .i64 ((Vec.g x3 s4 z_addr_net).class_))] <| OJ.nil <| SJ.r1 (.int .i64 ((Vec.g x3 s4 z_addr_net).class_)) rfl rfl
   ·refine SJ.skip <| SJ.inBlock <| SJ.rg 2 <| OJ.go 2 [(9, .int .i64 (IntKind.wrap .i64 (s4 + 1))), (29, .int .i64 (IntKind.wrap .i64 (s4 + 1)))] <| OJ.nil <| SJ.forget (List.Sublist.cons _ (List.Sublist.cons_cons _ List.Sublist.slnil)) ?_
    exact SJ.at_ [1, 8, 9] rfl
 ·exact SJ.exit (id := 0) (by rfl) <| SJ.sr 1 <| OJ.go 1 [(2, .int .i64 7)] <| OJ.nil <| SJ.r1 (.int .i64 7) rfl rfl
noncomputable def addr_Class (a0 : api_IP) : M Int :=
 slot 28 >>= fun b1 =>
 addr_Valid a0 >>= fun r2 =>
 if ¬ (r2 = true) then
  pure 0
 else
  ld (c_addr_net.arr 12) ⟨0, 0, none⟩ >>= fun x3 =>
  loopM (fun s_ : Int => addr_Class.L1 a0 x3 s_) 0
theorem addr_Class_ok (a0 : api_IP) : Ref Tryd.prog 31 [c_api_IP.val a0] (addr_Class a0) addr_Class.out := by
 refine Ref.of (cd := addr_Class.B) Tryd.func31 ?_
 show SJ addr_Class.cx [.code addr_Class.B] [(0, c_api_IP.val a0)] [] (addr_Class a0) addr_Class.F0
 unfold addr_Class
 refine SJ.sr 2 <| OJ.slotOf (d := 1) (op := (.box 28 (.tmp 0))) (cd := c_api_IP) (u := a0) (owed := []) (box_run (by kernel_rfl)) (fun b1 => ?_)
 refine OW.nil <| OJ.go 1 [(2, .int .i64 0)] <| OJ.nil <| SJ.seq <| SJ.sr 3 <| OJ.kld (d := 5) (y := .tmp 1) (cd := c_api_IP) (j := 0) (b := b1) (o := 0) a0 (pend2 := []) Ty28 rfl (At.whole _) rfl ?_
 refine OJ.call (d := 6) (g := 32) (ats := #[28]) (args := [.tmp 5]) (owed := []) F32 (addr_Valid_ok a0) (fun r2 => ?_)
 refine OW.nil <| OJ.go 1 [(7, .bool (!r2))] <| OJ.nil <| SJ.cond (t := (.tmp 7)) (b := (!r2)) (bnot_iff Iff.rfl) (fun hc19 => ?_) (fun hc19 => ?_)
 ·exact SJ.sr 1 <| OJ.go 1 [(2, .int .i64 0)] <| OJ.nil <| SJ.r1 (.int .i64 0) rfl rfl
 ·refine SJ.skip <| SJ.seq <| SJ.sr 2 <| OJ.ld (d := 8) (y := .global 0) (pend2 := fun x3 => []) Ty105 (fun _ => rfl) (fun x3 => ?_)
  exact OJ.go 1 [(9, .int .i64 0)] <| OJ.nil <| SJ.block (id := 0) <| SJ.loop (fun s_ : Int => [(1, .pointer (some (pt b1 0))), (8, (c_addr_net.arr 12).val x3), (9, .int .i64 s_)]) (fun s_ : Int => [(b1, c_api_IP.enc a0)]) [1, 8, 9] rfl (fun _ _ => rfl) (fun s_ => addr_Class.L1_ok a0 b1 x3 s_)

/-! ### (*weir/route.Table).Add: function 10 -/
noncomputable def route_Table_Add.B : Code := (Tryd.f10.body).getD .skip
noncomputable def route_Table_Add.cx : Fx := ⟨Tryd.prog, 10, Tryd.f10, none⟩
noncomputable def route_Table_Add.out (r_ : Int) : Value := .int .i64 r_
noncomputable def route_Table_Add.F0 (r_ : Int) : Reach := .ret (route_Table_Add.out r_)
noncomputable def route_Table_Add.K1 (a0 : (Option Addr)) (a1 : api_Route) (j20 : Bool) : M Int :=
 if j20 = true then
  pure 143
 else
  nilck a0 >>= fun p21 =>
  ld cM p21 >>= fun x22 =>
  mlen x22 >>= fun r23 =>
  if r23 = 256 then
   pure 144
  else
   draw >>= fun _ =>
   nilck a0 >>= fun p24 =>
   ld cM p24 >>= fun x25 =>
   mset c_api_Prefix c_api_Route x25 a1.Prefix a1 >>= fun _ =>
   pure 0
theorem route_Table_Add.K1_ok (a0 : (Option Addr)) (a1 : api_Route) (b1 : Nat) (j20 : Bool) :
  SJ route_Table_Add.cx [.code (c2 (c1 (c2 (c2 (c2 (c2 route_Table_Add.B)))))), .code (c2 (c2 (c2 (c2 (c2 route_Table_Add.B)))))] [(0, .pointer a0), (3, .pointer (some (pt b1 0))), (7, .bool j20)] [(b1, c_api_Route.enc a1)] (route_Table_Add.K1 a0 a1 j20) route_Table_Add.F0 := by
 unfold route_Table_Add.K1
 refine SJ.sr 1 <| OJ.go 1 [(59, .bool j20)] <| OJ.nil <| SJ.cond (t := (.tmp 59)) (b := j20) Iff.rfl (fun hc27 => ?_) (fun hc27 => ?_)
 ·exact SJ.sr 1 <| OJ.go 1 [(4, .int .i64 143)] <| OJ.nil <| SJ.r1 (.int .i64 143) rfl rfl
 ·refine SJ.skip <| SJ.seq <| SJ.sr 6 <| OJ.go 1 [(60, .pointer a0)] <| OJ.nilck (d := 61) (y := .tmp 60) (fun p21 => ?_)
  refine OJ.go 1 [(62, .pointer (some p21))] <| OJ.ld (d := 63) (y := .tmp 62) (pend2 := fun x22 => []) Ty79 (fun _ => rfl) (fun x22 => ?_)
  refine OJ.mlen (d := 64) (T := 79) (kT := 30) (vT := 32) (x := .tmp 63) (owed := []) (fun r23 => ?_)
  refine OW.nil <| OJ.go 1 [(65, .bool (r23 == 256))] <| OJ.nil <| SJ.cond (t := (.tmp 65)) (b := (r23 == 256)) beq_iff_eq (fun hc26 => ?_) (fun hc26 => ?_)
  ·exact SJ.sr 1 <| OJ.go 1 [(4, .int .i64 144)] <| OJ.nil <| SJ.r1 (.int .i64 144) rfl rfl
  ·refine SJ.skip <| SJ.seq <| SJ.draw (id := 14) (kd := [0, 0, 0, 1, 0, 1, 1, 2]) (bef := [0, 1, 3, 7, 0, 16, 0, 127]) (ord := [0, 1, 2, 3, 4, 5, 6, 7]) mixed ?_
   refine OJ.go 1 [(66, .pointer a0)] <| OJ.nilck (d := 67) (y := .tmp 66) (fun p24 => ?_)
   refine OJ.go 1 [(68, .pointer (some p24))] <| OJ.ld (d := 69) (y := .tmp 68) (pend2 := fun x25 => [⟨3, 79, p24, cM.val x25⟩]) Ty79 (fun _ => rfl) (fun x25 => ?_)
   refine OJ.go 1 [(70, .pointer (some (pt b1 0)))] <| OJ.kld (d := 71) (y := .tmp 70) (cd := c_api_Prefix) (j := 0) (b := b1) (o := 0) a1.Prefix (pend2 := [⟨5, 30, (pt b1 0), c_api_Prefix.val a1.Prefix⟩, ⟨3, 79, p24, cM.val x25⟩]) Ty30 rfl (At_api_Route_Prefix a1) rfl ?_
   refine OJ.kld (d := 72) (y := .tmp 3) (cd := c_api_Route) (j := 0) (b := b1) (o := 0) a1 (pend2 := [⟨6, 32, (pt b1 0), c_api_Route.val a1⟩, ⟨5, 30, (pt b1 0), c_api_Prefix.val a1.Prefix⟩, ⟨3, 79, p24, cM.val x25⟩]) Ty32 rfl (At.whole _) rfl ?_
   refine OJ.mset (x := .tmp 69) (y := .tmp 71) (q := .tmp 72) (owed := []) Kt79 ?_
   exact OW.nil <| OJ.nil <| SJ.sr 1 <| OJ.go 1 [(4, .int .i64 0)] <| OJ.nil <| SJ.r1 (.int .i64 0) rfl rfl
noncomputable def route_Table_Add.K2 (a0 : (Option Addr)) (a1 : api_Route) : M Int :=
 draws 10 9 (opsOf (c1 (c1 (c2 (c2 (c2 (c2 route_Table_Add.B))))))) >>= fun o10 =>
 if bfr o10 6 10 = true then
  nilck a0 >>= fun p29 =>
  ld cM p29 >>= fun x30 =>
  mget c_api_Prefix c_api_Route z_api_Route x30 a1.Prefix >>= fun r31 =>
  slot 32 >>= fun b32 =>
  same cM p29 x30 >>= fun _ =>
  route_Table_Add.K1 a0 a1 r31.2
 else
  nilck a0 >>= fun p33 =>
  ld cM p33 >>= fun x34 =>
  slot 32 >>= fun b35 =>
  same cM p33 x34 >>= fun _ =>
  mget c_api_Prefix c_api_Route z_api_Route x34 a1.Prefix >>= fun r36 =>
  route_Table_Add.K1 a0 a1 r36.2
theorem route_Table_Add.K2_ok (a0 : (Option Addr)) (a1 : api_Route) (b1 : Nat) :
  SJ route_Table_Add.cx [.code (c2 (c2 (c2 (c2 route_Table_Add.B))))] [(0, .pointer a0), (3, .pointer (some (pt b1 0)))] [(b1, c_api_Route.enc a1)] (route_Table_Add.K2 a0 a1) route_Table_Add.F0 := by
 unfold route_Table_Add.K2
 refine SJ.seq <| SJ.seq <| SJ.draws (id := 9) (kd := [0, 0, 0, 1, 0, 1, 2, 0, 0, 0, 2, 2, 0]) (bef := [0, 1, 3, 7, 0, 16, 63, 127, 255, 255, 0, 1535, 4095]) (ord := [0, 1, 2, 3, 4, 5, 6, 7, 8, 9, 10, 11, 12]) (E := [(6, 10)]) mixed (fun o10 hg_ => ?_)
 refine SJ.bfr hg_ (by decide) (fun ho28 => ?_) (fun ho28 => ?_)
 ·refine SJ.leaf hg_ (kd := [0, 0, 0, 1, 0, 1, 2, 0, 0, 0, 2, 2, 0]) (bef := [0, 1, 3, 7, 0, 16, 63, 127, 255, 255, 0, 1535, 4095]) (ord := [0, 1, 2, 3, 4, 5, 6, 7, 8, 9, 10, 11, 12]) (E := [(6, 10)]) (allB.cons ho28 allB.nil) ?_
  refine OJ.go 1 [(50, .pointer a0)] <| OJ.nilck (d := 51) (y := .tmp 50) (fun p29 => ?_)
  refine OJ.go 1 [(52, .pointer (some p29))] <| OJ.ld (d := 53) (y := .tmp 52) (pend2 := fun x30 => [⟨3, 79, p29, cM.val x30⟩]) Ty79 (fun _ => rfl) (fun x30 => ?_)
  refine OJ.go 1 [(54, .pointer (some (pt b1 0)))] <| OJ.kld (d := 55) (y := .tmp 54) (cd := c_api_Prefix) (j := 0) (b := b1) (o := 0) a1.Prefix (pend2 := [⟨5, 30, (pt b1 0), c_api_Prefix.val a1.Prefix⟩, ⟨3, 79, p29, cM.val x30⟩]) Ty30 rfl (At_api_Route_Prefix a1) rfl ?_
  refine OJ.get1 (d := 56) (x := .tmp 53) (y := .tmp 55) (owed := []) Kt79 (fun r31 => ?_)
  refine OW.nil <| OJ.go 3 [(58, .bool r31.2), (57, c_api_Route.val r31.1), (49, .tuple #[c_api_Route.val r31.1, .bool r31.2])] <| OJ.slotOf (d := 6) (op := (.alloc 32)) (cd := c_api_Route) (u := z_api_Route) (owed := [⟨5, 30, (pt b1 0), c_api_Prefix.val a1.Prefix⟩, ⟨3, 79, p29, cM.val x30⟩]) (alloc_run Ty32) (fun b32 => ?_)
  refine OW.known (j := 1) (q := a1.Prefix) Ty30 rfl (At_api_Route_Prefix a1) ?_
  refine OW.same Ty79 ?_
  refine OW.nil <| OJ.kst (y := .tmp 6) (z := .tmp 57) (cd := c_api_Route) (u := r31.1) (j := 0) (b := b32) (o := 0) (c_api_Route.enc r31.1) (owed := []) Ty32 rfl (Upd.whole ((Cod.len _ _).trans (Cod.len _ _).symm)) rfl ?_
  refine OW.nil <| OJ.go 1 [(7, .bool r31.2)] <| OJ.nil <| SJ.forget (List.Sublist.cons _ (List.Sublist.cons_cons _ List.Sublist.slnil)) ?_
  refine SJ.less [0, 3, 7] (m' := [(0, .pointer a0), (3, .pointer (some (pt b1 0))), (7, .bool r31.2)]) ?_
  exact route_Table_Add.K1_ok a0 a1 b1 r31.2
 ·refine SJ.leaf hg_ (kd := [0, 0, 0, 1, 0, 1, 2, 0, 0, 0, 2, 2, 0]) (bef := [0, 1, 3, 7, 0, 16, 63, 127, 255, 255, 0, 1535, 4095]) (ord := [0, 1, 2, 3, 4, 5, 10, 6, 7, 8, 9, 11, 12]) (E := [(10, 6)]) (allB.cons ho28 allB.nil) ?_
  refine OJ.go 1 [(50, .pointer a0)] <| OJ.nilck (d := 51) (y := .tmp 50) (fun p33 => ?_)
  refine OJ.go 1 [(52, .pointer (some p33))] <| OJ.ld (d := 53) (y := .tmp 52) (pend2 := fun x34 => [⟨3, 79, p33, cM.val x34⟩]) Ty79 (fun _ => rfl) (fun x34 => ?_)
  refine OJ.go 1 [(54, .pointer (some (pt b1 0)))] <| OJ.kld (d := 55) (y := .tmp 54) (cd := c_api_Prefix) (j := 0) (b := b1) (o := 0) a1.Prefix (pend2 := [⟨5, 30, (pt b1 0), c_api_Prefix.val a1.Prefix⟩, ⟨3, 79, p33, cM.val x34⟩]) Ty30 rfl (At_api_Route_Prefix a1) rfl ?_
  refine OJ.slotOf (d := 6) (op := (.alloc 32)) (cd := c_api_Route) (u := z_api_Route) (owed := [⟨5, 30, (pt b1 0), c_api_Prefix.val a1.Prefix⟩, ⟨3, 79, p33, cM.val x34⟩]) (alloc_run Ty32) (fun b35 => ?_)
  refine OW.known (j := 1) (q := a1.Prefix) Ty30 rfl (At_api_Route_Prefix a1) ?_
  refine OW.same Ty79 ?_
  refine OW.nil <| OJ.get1 (d := 56) (x := .tmp 53) (y := .tmp 55) (owed := []) Kt79 (fun r36 => ?_)
  refine OW.nil <| OJ.go 3 [(58, .bool r36.2), (57, c_api_Route.val r36.1), (49, .tuple #[c_api_Route.val r36.1, .bool r36.2])] <| OJ.kst (y := .tmp 6) (z := .tmp 57) (cd := c_api_Route) (u := r36.1) (j := 0) (b := b35) (o := 0) (c_api_Route.enc r36.1) (owed := []) Ty32 rfl (Upd.whole ((Cod.len _ _).trans (Cod.len _ _).symm)) rfl ?_
  refine OW.nil <| OJ.go 1 [(7, .bool r36.2)] <| OJ.nil <| SJ.forget (List.Sublist.cons _ (List.Sublist.cons_cons _ List.Sublist.slnil)) ?_
  refine SJ.less [0, 3, 7] (m' := [(0, .pointer a0), (3, .pointer (some (pt b1 0))), (7, .bool r36.2)]) ?_
  exact route_Table_Add.K1_ok a0 a1 b1 r36.2
noncomputable def route_Table_Add (a0 : (Option Addr)) (a1 : api_Route) : M Int :=
 slot 32 >>= fun b1 =>
 route_isPrefix a1.Prefix >>= fun r2 =>
 if ¬ (r2 = true) then
  pure 140
 else
  (if a1.Port < 0 then
    pure true
   else
    pure (decide (a1.Port ≥ 8))) >>= fun y3 =>
  if y3 = true then
   pure 141
  else
   if ¬ (a1.Via = z_api_IP) then
    addr_Class a1.Via >>= fun r37 =>
    addr_Valid a1.Via >>= fun r38 =>
    (if ¬ (r38 = true) then
      pure true
     else
      pure (a1.Via.V != a1.Prefix.IP.V)) >>= fun y39 =>
    (if y39 = true then
      pure true
     else
      (if r37 ≠ 7 then
        pure (r37 != 4)
       else
        pure false) >>= fun y40 =>
      pure y40) >>= fun y41 =>
    if y41 = true then
     pure 142
    else
     route_Table_Add.K2 a0 a1
   else
    route_Table_Add.K2 a0 a1
theorem route_Table_Add_ok (a0 : (Option Addr)) (a1 : api_Route) : Ref Tryd.prog 10 [.pointer a0, c_api_Route.val a1] (route_Table_Add a0 a1) route_Table_Add.out := by
 refine Ref.of (cd := route_Table_Add.B) Tryd.func10 ?_
 show SJ route_Table_Add.cx [.code route_Table_Add.B] [(0, .pointer a0), (1, c_api_Route.val a1)] [] (route_Table_Add a0 a1) route_Table_Add.F0
 unfold route_Table_Add
 refine SJ.sr 2 <| OJ.slotOf (d := 3) (op := (.box 32 (.tmp 1))) (cd := c_api_Route) (u := a1) (owed := []) (box_run (by kernel_rfl)) (fun b1 => ?_)
 refine OW.nil <| OJ.go 1 [(4, .int .i64 0)] <| OJ.nil <| SJ.seq <| SJ.sr 4 <| OJ.go 1 [(8, .pointer (some (pt b1 0)))] <| OJ.kld (d := 9) (y := .tmp 8) (cd := c_api_Prefix) (j := 0) (b := b1) (o := 0) a1.Prefix (pend2 := []) Ty30 rfl (At_api_Route_Prefix a1) rfl ?_
 refine OJ.call (d := 10) (g := 30) (ats := #[30]) (args := [.tmp 9]) (owed := []) F30 (route_isPrefix_ok a1.Prefix) (fun r2 => ?_)
 refine OW.nil <| OJ.go 1 [(11, .bool (!r2))] <| OJ.nil <| SJ.cond (t := (.tmp 11)) (b := (!r2)) (bnot_iff Iff.rfl) (fun hc45 => ?_) (fun hc45 => ?_)
 ·exact SJ.sr 1 <| OJ.go 1 [(4, .int .i64 140)] <| OJ.nil <| SJ.r1 (.int .i64 140) rfl rfl
 ·refine SJ.skip <| SJ.seq <| SJ.sr 8 <| OJ.go 1 [(12, .pointer (some (pt b1 18)))] <| OJ.kld (d := 13) (y := .tmp 12) (cd := (cI .i64)) (j := 0) (b := b1) (o := 18) a1.Port (pend2 := []) Ty3 rfl (At_api_Route_Port a1) rfl ?_
  refine OJ.go 2 [(15, .bool (decide (a1.Port < 0))), (14, .bool (decide (a1.Port < 0)))] <| OJ.join (b := decide (a1.Port < 0)) [4, 5, 6, 7] [] [0, 3, 19] (fun y3 => [(0, .pointer a0), (3, .pointer (some (pt b1 0))), (19, .bool y3)]) [] [] (t := 15) decide_eq_true_iff (fun hp_ => ?_) (fun hp_ => ?_) (fun _ _ _ _ _ _ h_ => h_) (fun y3 => ?_)
  ·exact OJ.go 4 [(19, .bool true), (18, undef), (17, undef), (16, undef)] <| OJ.x0
  ·refine OJ.go 1 [(16, .pointer (some (pt b1 18)))] <| OJ.kld (d := 17) (y := .tmp 16) (cd := (cI .i64)) (j := 0) (b := b1) (o := 18) a1.Port (pend2 := []) Ty3 rfl (At_api_Route_Port a1) rfl ?_
   exact OJ.go 2 [(19, .bool (decide (a1.Port ≥ 8))), (18, .bool (decide (a1.Port ≥ 8)))] <| OJ.x0
  ·refine OJ.nil <| SJ.cond (t := (.tmp 19)) (b := y3) Iff.rfl (fun hc44 => ?_) (fun hc44 => ?_)
   ·exact SJ.sr 1 <| OJ.go 1 [(4, .int .i64 141)] <| OJ.nil <| SJ.r1 (.int .i64 141) rfl rfl
   ·refine SJ.skip <| SJ.seq <| SJ.sr 4 <| OJ.go 1 [(20, .pointer (some (pt b1 19)))] <| OJ.kld (d := 21) (y := .tmp 20) (cd := c_api_IP) (j := 0) (b := b1) (o := 19) a1.Via (pend2 := []) Ty28 rfl (At_api_Route_Via a1) rfl ?_
    refine OJ.build (d := 22) (T := 28) (parts := []) (ps := []) (cd := c_api_IP) (z0 := z_api_IP) z_api_IP Ty28 rfl Filled.nil ?_
    refine OJ.neq (d := 23) (T := 28) (yT := 28) (y := .tmp 21) (z := .tmp 22) (cd := c_api_IP) (p := a1.Via) (q := z_api_IP) rfl Eq28 ?_
    refine OJ.nil <| SJ.cond (t := (.tmp 23)) (b := (!eqv a1.Via z_api_IP)) (bnot_iff eqv_iff) (fun hc43 => ?_) (fun hc43 => ?_)
    ·refine SJ.sr 4 <| OJ.go 1 [(24, .pointer (some (pt b1 19)))] <| OJ.kld (d := 25) (y := .tmp 24) (cd := c_api_IP) (j := 0) (b := b1) (o := 19) a1.Via (pend2 := []) Ty28 rfl (At_api_Route_Via a1) rfl ?_
     refine OJ.call (d := 26) (g := 31) (ats := #[28]) (args := [.tmp 25]) (owed := []) F31 (addr_Class_ok a1.Via) (fun r37 => ?_)
     refine OW.nil <| OJ.go 1 [(5, .int .i64 r37)] <| OJ.nil <| SJ.sr 22 <| OJ.go 1 [(27, .pointer (some (pt b1 19)))] <| OJ.kld (d := 28) (y := .tmp 27) (cd := c_api_IP) (j := 0) (b := b1) (o := 19) a1.Via (pend2 := []) Ty28 rfl (At_api_Route_Via a1) rfl ?_
     refine OJ.call (d := 29) (g := 32) (ats := #[28]) (args := [.tmp 28]) (owed := []) F32 (addr_Valid_ok a1.Via) (fun r38 => ?_)
     refine OW.nil <| OJ.go 2 [(31, .bool (!r38)), (30, .bool (!r38))] <| OJ.join (b := (!r38)) [5, 6, 7, 8, 9, 10, 11, 12, 13] [14, 15, 16, 17, 18, 19, 20, 21] [0, 3, 5, 40] (fun y39 => [(0, .pointer a0), (3, .pointer (some (pt b1 0))), (5, .int .i64 r37), (40, .bool y39)]) [] [] (t := 31) (bnot_iff Iff.rfl) (fun hp_ => ?_) (fun hp_ => ?_) (fun _ _ _ _ _ _ h_ => h_) (fun y39 => ?_)
     ·exact OJ.go 9 [(40, .bool true), (39, undef), (38, undef), (37, undef), (36, undef), (35, undef), (34, undef), (33, undef), (32, undef)] <| OJ.x0
     ·refine OJ.go 2 [(33, .pointer (some (pt b1 19))), (32, .pointer (some (pt b1 19)))] <| OJ.kld (d := 34) (y := .tmp 33) (cd := (cI .i64)) (j := 0) (b := b1) (o := 19) a1.Via.V (pend2 := []) Ty3 rfl (At.trans (At_api_Route_Via a1) (At_api_IP_V a1.Via)) rfl ?_
      refine OJ.go 3 [(37, .pointer (some (pt b1 0))), (36, .pointer (some (pt b1 0))), (35, .pointer (some (pt b1 0)))] <| OJ.kld (d := 38) (y := .tmp 37) (cd := (cI .i64)) (j := 0) (b := b1) (o := 0) a1.Prefix.IP.V (pend2 := []) Ty3 rfl (At.trans (At.trans (At_api_Route_Prefix a1) (At_api_Prefix_IP a1.Prefix)) (At_api_IP_V a1.Prefix.IP)) rfl ?_
      exact OJ.go 2 [(40, .bool (a1.Via.V != a1.Prefix.IP.V)), (39, .bool (a1.Via.V != a1.Prefix.IP.V))] <| OJ.x0
     ·refine OJ.go 1 [(41, .bool y39)] <| OJ.join (b := y39) [15, 16, 17, 18, 19, 20, 21] [] [0, 3, 48] (fun y41 => [(0, .pointer a0), (3, .pointer (some (pt b1 0))), (48, .bool y41)]) [] [] (t := 41) Iff.rfl (fun hp_ => ?_) (fun hp_ => ?_) (fun _ _ _ _ _ _ h_ => h_) (fun y41 => ?_)
      ·exact OJ.go 7 [(48, .bool true), (47, undef), (46, undef), (45, undef), (44, undef), (43, undef), (42, undef)] <| OJ.x0
      ·refine OJ.go 3 [(44, .bool (r37 != 7)), (43, .bool (r37 != 7)), (42, .int .i64 r37)] <| OJ.join (b := (r37 != 7)) [18, 19, 20] [21] [0, 3, 41, 47] (fun y40 => [(0, .pointer a0), (3, .pointer (some (pt b1 0))), (41, .bool false), (47, .bool y40)]) [] [] (t := 44) bne_iff_ne (fun hp_ => ?_) (fun hp_ => ?_) (fun _ _ _ _ _ hq_ h_ => ⟨fun e_ he_ => (hq_ e_ he_).elim (fun h => h_.1 e_ h) (fun h => nomatch h), h_.2⟩) (fun y40 => ?_)
       ·exact OJ.go 3 [(47, .bool (r37 != 4)), (46, .bool (r37 != 4)), (45, .int .i64 r37)] <| OJ.x0
       ·exact OJ.go 3 [(47, .bool false), (46, undef), (45, undef)] <| OJ.x0
       ·exact OJ.go 1 [(48, .bool y40)] <| OJ.x0
      ·refine OJ.nil <| SJ.cond (t := (.tmp 48)) (b := y41) Iff.rfl (fun hc42 => ?_) (fun hc42 => ?_)
       ·exact SJ.sr 1 <| OJ.go 1 [(4, .int .i64 142)] <| OJ.nil <| SJ.r1 (.int .i64 142) rfl rfl
       ·refine SJ.skip <| SJ.less [0, 3] (m' := [(0, .pointer a0), (3, .pointer (some (pt b1 0)))]) ?_
        exact route_Table_Add.K2_ok a0 a1 b1
    ·refine SJ.skip <| SJ.less [0, 3] (m' := [(0, .pointer a0), (3, .pointer (some (pt b1 0)))]) ?_
     exact route_Table_Add.K2_ok a0 a1 b1

/-! ### weir/weirref4.Valid: function 52 -/
noncomputable def weirref4_Valid.B : Code := (Tryd.f52.body).getD .skip
noncomputable def weirref4_Valid.cx : Fx := ⟨Tryd.prog, 52, Tryd.f52, none⟩
noncomputable def weirref4_Valid.out (r_ : Bool) : Value := .bool r_
noncomputable def weirref4_Valid.F0 (r_ : Bool) : Reach := .ret (weirref4_Valid.out r_)
noncomputable def weirref4_Valid.F1 (a0 : api_IP) (b1 : Nat) : (LS Int Bool) → Reach := loopF [.inLoop (c1 (c1 (c2 (c1 (c2 (c2 weirref4_Valid.B)))))), .inBlock 0, .code (c2 (c2 (c2 weirref4_Valid.B)))] (fun s_ : Int => [(1, .pointer (some (pt b1 0))), (3, .int .i64 s_)]) (fun s_ : Int => [(b1, c_api_IP.enc a0)]) weirref4_Valid.F0
noncomputable def weirref4_Valid.L1 (a0 : api_IP) (s2 : Int) : M (LS Int Bool) :=
 if s2 < 16 then
  chk ((0 : Int) ≤ s2 ∧ s2 < (16 : Nat)) >>= fun _ =>
  if (Vec.g a0.A s2 0) ≠ 0 then
   pure (LS.done false)
  else
   pure (LS.next (IntKind.wrap .i64 (s2 + 1)))
 else
  pure (LS.done true)
theorem weirref4_Valid.L1_ok (a0 : api_IP) (b1 : Nat) (s2 : Int) :
  SJ weirref4_Valid.cx [.code (c1 (c1 (c2 (c1 (c2 (c2 weirref4_Valid.B)))))), .inLoop (c1 (c1 (c2 (c1 (c2 (c2 weirref4_Valid.B)))))), .inBlock 0, .code (c2 (c2 (c2 weirref4_Valid.B)))] [(1, .pointer (some (pt b1 0))), (3, .int .i64 s2)] [(b1, c_api_IP.enc a0)] (weirref4_Valid.L1 a0 s2) (weirref4_Valid.F1 a0 b1) := by
 unfold weirref4_Valid.L1
 refine SJ.seq <| SJ.sr 2 <| OJ.go 2 [(11, .bool (decide (s2 < 16))), (10, .int .i64 s2)] <| OJ.nil <| SJ.cond (t := (.tmp 11)) (b := decide (s2 < 16)) decide_eq_true_iff (fun hc10 => ?_) (fun hc10 => ?_)
 ·refine SJ.skip <| SJ.seq <| SJ.block (id := 1) <| SJ.sr 5 <| OJ.go 2 [(15, .pointer (some (pt b1 1))), (14, .int .i64 s2)] <| OJ.idxK (d := 16) (T := 26) (y := .tmp 15) (j := .tmp 14) (E := 5) (sz := 1) (b := b1) (o := 1) (k := .i64) (fun hb7 hb8 => ?_)
  refine OJ.kld (d := 17) (y := .tmp 16) (cd := (cI .u8)) (j := 0) (b := b1) (o := (1 + s2.toNat * 1)) (Vec.g a0.A s2 0) (pend2 := []) Ty5 rfl (At.trans (At_api_IP_A a0) (At.arr (z := 0) hb7 hb8)) rfl ?_
  refine OJ.go 1 [(18, .bool ((Vec.g a0.A s2 0) != 0))] <| OJ.nil <| SJ.cond (t := (.tmp 18)) (b := ((Vec.g a0.A s2 0) != 0)) bne_iff_ne (fun hc9 => ?_) (fun hc9 => ?_)
  ·exact SJ.sr 1 <| OJ.go 1 [(2, .bool false)] <| OJ.nil <| SJ.r1 (.bool false) rfl rfl
  ·exact SJ.skip <| SJ.inBlock <| SJ.rg 3 <| OJ.go 3 [(3, .int .i64 (IntKind.wrap .i64 (s2 + 1))), (13, .int .i64 (IntKind.wrap .i64 (s2 + 1))), (12, .int .i64 s2)] <| OJ.nil <| SJ.at_ [1, 3] rfl
 ·exact SJ.exit (id := 0) (by rfl) <| SJ.sr 1 <| OJ.go 1 [(2, .bool true)] <| OJ.nil <| SJ.r1 (.bool true) rfl rfl
noncomputable def weirref4_Valid (a0 : api_IP) : M Bool :=
 slot 28 >>= fun b1 =>
 if a0.V ≠ 4 then
  pure (a0.V == 6)
 else
  loopM (fun s_ : Int => weirref4_Valid.L1 a0 s_) 4
theorem weirref4_Valid_ok (a0 : api_IP) : Ref Tryd.prog 52 [c_api_IP.val a0] (weirref4_Valid a0) weirref4_Valid.out := by
 refine Ref.of (cd := weirref4_Valid.B) Tryd.func52 ?_
 show SJ weirref4_Valid.cx [.code weirref4_Valid.B] [(0, c_api_IP.val a0)] [] (weirref4_Valid a0) weirref4_Valid.F0
 unfold weirref4_Valid
 refine SJ.sr 2 <| OJ.slotOf (d := 1) (op := (.box 28 (.tmp 0))) (cd := c_api_IP) (u := a0) (owed := []) (box_run (by kernel_rfl)) (fun b1 => ?_)
 refine OW.nil <| OJ.go 1 [(2, .bool false)] <| OJ.nil <| SJ.seq <| SJ.sr 3 <| OJ.go 1 [(4, .pointer (some (pt b1 0)))] <| OJ.kld (d := 5) (y := .tmp 4) (cd := (cI .i64)) (j := 0) (b := b1) (o := 0) a0.V (pend2 := []) Ty3 rfl (At_api_IP_V a0) rfl ?_
 refine OJ.go 1 [(6, .bool (a0.V != 4))] <| OJ.nil <| SJ.cond (t := (.tmp 6)) (b := (a0.V != 4)) bne_iff_ne (fun hc11 => ?_) (fun hc11 => ?_)
 ·refine SJ.sr 4 <| OJ.go 1 [(7, .pointer (some (pt b1 0)))] <| OJ.kld (d := 8) (y := .tmp 7) (cd := (cI .i64)) (j := 0) (b := b1) (o := 0) a0.V (pend2 := []) Ty3 rfl (At_api_IP_V a0) rfl ?_
  exact OJ.go 2 [(2, .bool (a0.V == 6)), (9, .bool (a0.V == 6))] <| OJ.nil <| SJ.r1 (.bool (a0.V == 6)) rfl rfl
 ·exact SJ.skip <| SJ.seq <| SJ.sr 1 <| OJ.go 1 [(3, .int .i64 4)] <| OJ.nil <| SJ.block (id := 0) <| SJ.loop (fun s_ : Int => [(1, .pointer (some (pt b1 0))), (3, .int .i64 s_)]) (fun s_ : Int => [(b1, c_api_IP.enc a0)]) [1, 3] rfl (fun _ _ => rfl) (fun s_ => weirref4_Valid.L1_ok a0 b1 s_)

/-! ### weir/weirref4.width: function 53 -/
noncomputable def weirref4_width.B : Code := (Tryd.f53.body).getD .skip
noncomputable def weirref4_width.cx : Fx := ⟨Tryd.prog, 53, Tryd.f53, none⟩
noncomputable def weirref4_width.out (r_ : Int) : Value := .int .i64 r_
noncomputable def weirref4_width.F0 (r_ : Int) : Reach := .ret (weirref4_width.out r_)
noncomputable def weirref4_width (a0 : api_IP) : M Int :=
 slot 28 >>= fun b1 =>
 if a0.V = 4 then
  pure 32
 else
  pure 128
theorem weirref4_width_ok (a0 : api_IP) : Ref Tryd.prog 53 [c_api_IP.val a0] (weirref4_width a0) weirref4_width.out := by
 refine Ref.of (cd := weirref4_width.B) Tryd.func53 ?_
 show SJ weirref4_width.cx [.code weirref4_width.B] [(0, c_api_IP.val a0)] [] (weirref4_width a0) weirref4_width.F0
 unfold weirref4_width
 refine SJ.sr 2 <| OJ.slotOf (d := 1) (op := (.box 28 (.tmp 0))) (cd := c_api_IP) (u := a0) (owed := []) (box_run (by kernel_rfl)) (fun b1 => ?_)
 refine OW.nil <| OJ.go 1 [(2, .int .i64 0)] <| OJ.nil <| SJ.seq <| SJ.sr 3 <| OJ.go 1 [(3, .pointer (some (pt b1 0)))] <| OJ.kld (d := 4) (y := .tmp 3) (cd := (cI .i64)) (j := 0) (b := b1) (o := 0) a0.V (pend2 := []) Ty3 rfl (At_api_IP_V a0) rfl ?_
 refine OJ.go 1 [(5, .bool (a0.V == 4))] <| OJ.nil <| SJ.cond (t := (.tmp 5)) (b := (a0.V == 4)) beq_iff_eq (fun hc2 => ?_) (fun hc2 => ?_)
 ·exact SJ.sr 1 <| OJ.go 1 [(2, .int .i64 32)] <| OJ.nil <| SJ.r1 (.int .i64 32) rfl rfl
 ·exact SJ.skip <| SJ.sr 1 <| OJ.go 1 [(2, .int .i64 128)] <| OJ.nil <| SJ.r1 (.int .i64 128) rfl rfl

/-! ### weir/weirref4.bit: function 54 -/
noncomputable def weirref4_bit.B : Code := (Tryd.f54.body).getD .skip
noncomputable def weirref4_bit.cx : Fx := ⟨Tryd.prog, 54, Tryd.f54, none⟩
noncomputable def weirref4_bit.out (r_ : Int) : Value := .int .i64 r_
noncomputable def weirref4_bit.F0 (r_ : Int) : Reach := .ret (weirref4_bit.out r_)
noncomputable def weirref4_bit.F1  : (LS (Int × Int) Int) → Reach := loopF [.inLoop (c1 (c1 (c2 (c1 (c2 (c2 weirref4_bit.B)))))), .inBlock 0, .code (c2 (c2 (c2 weirref4_bit.B)))] (fun s_ : (Int × Int) => [(5, .int .i64 s_.1), (6, .int .i64 s_.2)]) (fun s_ : (Int × Int) => []) weirref4_bit.F0
noncomputable def weirref4_bit.L1 (s4 : Int) (s5 : Int) : M (LS (Int × Int) Int) :=
 if s5 < 7 then
  pure (LS.next (IntKind.wrap .i64 (Int.tdiv s4 2), IntKind.wrap .i64 (s5 + 1)))
 else
  pure (LS.done (Int.tmod s4 2))
theorem weirref4_bit.L1_ok (s4 : Int) (s5 : Int) :
  SJ weirref4_bit.cx [.code (c1 (c1 (c2 (c1 (c2 (c2 weirref4_bit.B)))))), .inLoop (c1 (c1 (c2 (c1 (c2 (c2 weirref4_bit.B)))))), .inBlock 0, .code (c2 (c2 (c2 weirref4_bit.B)))] [(5, .int .i64 s4), (6, .int .i64 s5)] [] (weirref4_bit.L1 s4 s5) weirref4_bit.F1 := by
 unfold weirref4_bit.L1
 refine SJ.seq <| SJ.sr 2 <| OJ.go 2 [(16, .bool (decide (s5 < 7))), (15, .int .i64 s5)] <| OJ.nil <| SJ.cond (t := (.tmp 16)) (b := decide (s5 < 7)) decide_eq_true_iff (fun hc7 => ?_) (fun hc7 => ?_)
 ·exact SJ.skip <| SJ.seq <| SJ.block (id := 1) <| SJ.rg 3 <| OJ.go 3 [(5, .int .i64 (IntKind.wrap .i64 (Int.tdiv s4 2))), (20, .int .i64 (IntKind.wrap .i64 (Int.tdiv s4 2))), (19, .int .i64 s4)] <| OJ.nil <| SJ.inBlock <| SJ.rg 3 <| OJ.go 3 [(6, .int .i64 (IntKind.wrap .i64 (s5 + 1))), (18, .int .i64 (IntKind.wrap .i64 (s5 + 1))), (17, .int .i64 s5)] <| OJ.nil <| SJ.at_ [5, 6] rfl
 ·exact SJ.exit (id := 0) (by rfl) <| SJ.sr 3 <| OJ.go 3 [(4, .int .i64 (Int.tmod s4 2)), (22, .int .i64 (Int.tmod s4 2)), (21, .int .i64 s4)] <| OJ.nil <| SJ.r1 (.int .i64 (Int.tmod s4 2)) rfl rfl
noncomputable def weirref4_bit (a0 : api_IP) (a1 : Int) : M Int :=
 slot 28 >>= fun b1 =>
 chk ((0 : Int) ≤ (IntKind.wrap .i64 (Int.tdiv a1 8)) ∧ (IntKind.wrap .i64 (Int.tdiv a1 8)) < (16 : Nat)) >>= fun _ =>
 loopM (fun s_ : (Int × Int) => weirref4_bit.L1 s_.1 s_.2) (IntKind.wrap .i64 (Vec.g a0.A (IntKind.wrap .i64 (Int.tdiv a1 8)) 0), Int.tmod a1 8)
theorem weirref4_bit_ok (a0 : api_IP) (a1 : Int) : Ref Tryd.prog 54 [c_api_IP.val a0, .int .i64 a1] (weirref4_bit a0 a1) weirref4_bit.out := by
 refine Ref.of (cd := weirref4_bit.B) Tryd.func54 ?_
 show SJ weirref4_bit.cx [.code weirref4_bit.B] [(0, c_api_IP.val a0), (1, .int .i64 a1)] [] (weirref4_bit a0 a1) weirref4_bit.F0
 unfold weirref4_bit
 refine SJ.sr 2 <| OJ.slotOf (d := 2) (op := (.box 28 (.tmp 0))) (cd := c_api_IP) (u := a0) (owed := []) (box_run (by kernel_rfl)) (fun b1 => ?_)
 refine OW.nil <| OJ.go 1 [(4, .int .i64 0)] <| OJ.nil <| SJ.sr 7 <| OJ.go 3 [(9, .pointer (some (pt b1 1))), (8, .int .i64 (IntKind.wrap .i64 (Int.tdiv a1 8))), (7, .int .i64 a1)] <| OJ.idxK (d := 10) (T := 26) (y := .tmp 9) (j := .tmp 8) (E := 5) (sz := 1) (b := b1) (o := 1) (k := .i64) (fun hb2 hb3 => ?_)
 refine OJ.kld (d := 11) (y := .tmp 10) (cd := (cI .u8)) (j := 0) (b := b1) (o := (1 + (IntKind.wrap .i64 (Int.tdiv a1 8)).toNat * 1)) (Vec.g a0.A (IntKind.wrap .i64 (Int.tdiv a1 8)) 0) (pend2 := []) Ty5 rfl (At.trans (At_api_IP_A a0) (At.arr (z := 0) hb2 hb3)) rfl ?_
 refine OJ.go 2 [(5, .int .i64 (IntKind.wrap .i64 (Vec.g a0.A (IntKind.wrap .i64 (Int.tdiv a1 8)) 0))), (12, .int .i64 (IntKind.wrap .i64 (Vec.g a0.A (IntKind.wrap .i64 (Int.tdiv a1 8)) 0)))] <| OJ.nil <| SJ.seq <| SJ.sr 3 <| OJ.go 3 [(6, .int .i64 (Int.tmod a1 8)), (14, .int .i64 (Int.tmod a1 8)), (13, .int .i64 a1)] <| OJ.nil <| SJ.block (id := 0) <| SJ.forget (List.Sublist.cons _ List.Sublist.slnil) ?_
 exact SJ.loop (fun s_ : (Int × Int) => [(5, .int .i64 s_.1), (6, .int .i64 s_.2)]) (fun s_ : (Int × Int) => []) [5, 6] rfl (fun _ _ => rfl) (fun s_ => weirref4_bit.L1_ok s_.1 s_.2)

/-! ### weir/weirref4.ValidPrefix: function 34 -/
noncomputable def weirref4_ValidPrefix.B : Code := (Tryd.f34.body).getD .skip
noncomputable def weirref4_ValidPrefix.cx : Fx := ⟨Tryd.prog, 34, Tryd.f34, none⟩
noncomputable def weirref4_ValidPrefix.out (r_ : Int) : Value := .int .i64 r_
noncomputable def weirref4_ValidPrefix.F0 (r_ : Int) : Reach := .ret (weirref4_ValidPrefix.out r_)
noncomputable def weirref4_ValidPrefix.F1 (a0 : api_Prefix) (b1 : Nat) (r3 : Int) : (LS Int Int) → Reach := loopF [.inLoop (c1 (c1 (c2 (c1 (c2 (c2 (c2 (c2 (c2 weirref4_ValidPrefix.B))))))))), .inBlock 0, .code (c2 (c2 (c2 (c2 (c2 (c2 weirref4_ValidPrefix.B))))))] (fun s_ : Int => [(1, .pointer (some (pt b1 0))), (4, .int .i64 r3), (5, .int .i64 s_)]) (fun s_ : Int => [(b1, c_api_Prefix.enc a0)]) weirref4_ValidPrefix.F0
noncomputable def weirref4_ValidPrefix.L1 (a0 : api_Prefix) (r3 : Int) (s5 : Int) : M (LS Int Int) :=
 if s5 < r3 then
  weirref4_bit a0.IP s5 >>= fun r9 =>
  if r9 = 1 then
   pure (LS.done 46)
  else
   pure (LS.next (IntKind.wrap .i64 (s5 + 1)))
 else
  pure (LS.done 0)
theorem weirref4_ValidPrefix.L1_ok (a0 : api_Prefix) (b1 : Nat) (r3 : Int) (s5 : Int) :
  SJ weirref4_ValidPrefix.cx [.code (c1 (c1 (c2 (c1 (c2 (c2 (c2 (c2 (c2 weirref4_ValidPrefix.B))))))))), .inLoop (c1 (c1 (c2 (c1 (c2 (c2 (c2 (c2 (c2 weirref4_ValidPrefix.B))))))))), .inBlock 0, .code (c2 (c2 (c2 (c2 (c2 (c2 weirref4_ValidPrefix.B))))))] [(1, .pointer (some (pt b1 0))), (4, .int .i64 r3), (5, .int .i64 s5)] [(b1, c_api_Prefix.enc a0)] (weirref4_ValidPrefix.L1 a0 r3 s5) (weirref4_ValidPrefix.F1 a0 b1 r3) := by
 unfold weirref4_ValidPrefix.L1
 refine SJ.seq <| SJ.sr 3 <| OJ.go 3 [(27, .bool (decide (s5 < r3))), (26, .int .i64 r3), (25, .int .i64 s5)] <| OJ.nil <| SJ.cond (t := (.tmp 27)) (b := decide (s5 < r3)) decide_eq_true_iff (fun hc11 => ?_) (fun hc11 => ?_)
 ·refine SJ.skip <| SJ.seq <| SJ.block (id := 1) <| SJ.sr 5 <| OJ.go 1 [(30, .pointer (some (pt b1 0)))] <| OJ.kld (d := 31) (y := .tmp 30) (cd := c_api_IP) (j := 0) (b := b1) (o := 0) a0.IP (pend2 := []) Ty28 rfl (At_api_Prefix_IP a0) rfl ?_
  refine OJ.go 1 [(32, .int .i64 s5)] <| OJ.call (d := 33) (g := 54) (ats := #[28, 3]) (args := [.tmp 31, .tmp 32]) (owed := []) F54 (weirref4_bit_ok a0.IP s5) (fun r9 => ?_)
  refine OW.nil <| OJ.go 1 [(34, .bool (r9 == 1))] <| OJ.nil <| SJ.cond (t := (.tmp 34)) (b := (r9 == 1)) beq_iff_eq (fun hc10 => ?_) (fun hc10 => ?_)
  ·exact SJ.sr 1 <| OJ.go 1 [(2, .int .i64 46)] <| OJ.nil <| SJ.r1 (.int .i64 46) rfl rfl
  ·exact SJ.skip <| SJ.inBlock <| SJ.rg 3 <| OJ.go 3 [(5, .int .i64 (IntKind.wrap .i64 (s5 + 1))), (29, .int .i64 (IntKind.wrap .i64 (s5 + 1))), (28, .int .i64 s5)] <| OJ.nil <| SJ.at_ [1, 4, 5] rfl
 ·exact SJ.exit (id := 0) (by rfl) <| SJ.sr 1 <| OJ.go 1 [(2, .int .i64 0)] <| OJ.nil <| SJ.r1 (.int .i64 0) rfl rfl
noncomputable def weirref4_ValidPrefix (a0 : api_Prefix) : M Int :=
 slot 30 >>= fun b1 =>
 weirref4_Valid a0.IP >>= fun r2 =>
 if ¬ (r2 = true) then
  pure 40
 else
  weirref4_width a0.IP >>= fun r3 =>
  (if a0.Len < 0 then
    pure true
   else
    pure (decide (a0.Len > r3))) >>= fun y4 =>
  if y4 = true then
   pure 45
  else
   loopM (fun s_ : Int => weirref4_ValidPrefix.L1 a0 r3 s_) a0.Len
theorem weirref4_ValidPrefix_ok (a0 : api_Prefix) : Ref Tryd.prog 34 [c_api_Prefix.val a0] (weirref4_ValidPrefix a0) weirref4_ValidPrefix.out := by
 refine Ref.of (cd := weirref4_ValidPrefix.B) Tryd.func34 ?_
 show SJ weirref4_ValidPrefix.cx [.code weirref4_ValidPrefix.B] [(0, c_api_Prefix.val a0)] [] (weirref4_ValidPrefix a0) weirref4_ValidPrefix.F0
 unfold weirref4_ValidPrefix
 refine SJ.sr 2 <| OJ.slotOf (d := 1) (op := (.box 30 (.tmp 0))) (cd := c_api_Prefix) (u := a0) (owed := []) (box_run (by kernel_rfl)) (fun b1 => ?_)
 refine OW.nil <| OJ.go 1 [(2, .int .i64 0)] <| OJ.nil <| SJ.sr 4 <| OJ.go 1 [(6, .pointer (some (pt b1 0)))] <| OJ.kld (d := 7) (y := .tmp 6) (cd := c_api_IP) (j := 0) (b := b1) (o := 0) a0.IP (pend2 := []) Ty28 rfl (At_api_Prefix_IP a0) rfl ?_
 refine OJ.call (d := 8) (g := 52) (ats := #[28]) (args := [.tmp 7]) (owed := []) F52 (weirref4_Valid_ok a0.IP) (fun r2 => ?_)
 refine OW.nil <| OJ.go 1 [(3, .bool r2)] <| OJ.nil <| SJ.seq <| SJ.sr 2 <| OJ.go 2 [(10, .bool (!r2)), (9, .bool r2)] <| OJ.nil <| SJ.cond (t := (.tmp 10)) (b := (!r2)) (bnot_iff Iff.rfl) (fun hc13 => ?_) (fun hc13 => ?_)
 ·exact SJ.sr 1 <| OJ.go 1 [(2, .int .i64 40)] <| OJ.nil <| SJ.r1 (.int .i64 40) rfl rfl
 ·refine SJ.skip <| SJ.sr 4 <| OJ.go 1 [(11, .pointer (some (pt b1 0)))] <| OJ.kld (d := 12) (y := .tmp 11) (cd := c_api_IP) (j := 0) (b := b1) (o := 0) a0.IP (pend2 := []) Ty28 rfl (At_api_Prefix_IP a0) rfl ?_
  refine OJ.call (d := 13) (g := 53) (ats := #[28]) (args := [.tmp 12]) (owed := []) F53 (weirref4_width_ok a0.IP) (fun r3 => ?_)
  refine OW.nil <| OJ.go 1 [(4, .int .i64 r3)] <| OJ.nil <| SJ.seq <| SJ.sr 9 <| OJ.go 1 [(14, .pointer (some (pt b1 17)))] <| OJ.kld (d := 15) (y := .tmp 14) (cd := (cI .i64)) (j := 0) (b := b1) (o := 17) a0.Len (pend2 := []) Ty3 rfl (At_api_Prefix_Len a0) rfl ?_
  refine OJ.go 2 [(17, .bool (decide (a0.Len < 0))), (16, .bool (decide (a0.Len < 0)))] <| OJ.join (b := decide (a0.Len < 0)) [4, 5, 6, 7, 8] [] [1, 4, 22] (fun y4 => [(1, .pointer (some (pt b1 0))), (4, .int .i64 r3), (22, .bool y4)]) [] [] (t := 17) decide_eq_true_iff (fun hp_ => ?_) (fun hp_ => ?_) (fun _ _ _ _ _ _ h_ => h_) (fun y4 => ?_)
  ·exact OJ.go 5 [(22, .bool true), (21, undef), (20, undef), (19, undef), (18, undef)] <| OJ.x0
  ·refine OJ.go 1 [(18, .pointer (some (pt b1 17)))] <| OJ.kld (d := 19) (y := .tmp 18) (cd := (cI .i64)) (j := 0) (b := b1) (o := 17) a0.Len (pend2 := []) Ty3 rfl (At_api_Prefix_Len a0) rfl ?_
   exact OJ.go 3 [(22, .bool (decide (a0.Len > r3))), (21, .bool (decide (a0.Len > r3))), (20, .int .i64 r3)] <| OJ.x0
  ·refine OJ.nil <| SJ.cond (t := (.tmp 22)) (b := y4) Iff.rfl (fun hc12 => ?_) (fun hc12 => ?_)
   ·exact SJ.sr 1 <| OJ.go 1 [(2, .int .i64 45)] <| OJ.nil <| SJ.r1 (.int .i64 45) rfl rfl
   ·refine SJ.skip <| SJ.seq <| SJ.sr 3 <| OJ.go 1 [(23, .pointer (some (pt b1 17)))] <| OJ.kld (d := 24) (y := .tmp 23) (cd := (cI .i64)) (j := 0) (b := b1) (o := 17) a0.Len (pend2 := []) Ty3 rfl (At_api_Prefix_Len a0) rfl ?_
    exact OJ.go 1 [(5, .int .i64 a0.Len)] <| OJ.nil <| SJ.block (id := 0) <| SJ.loop (fun s_ : Int => [(1, .pointer (some (pt b1 0))), (4, .int .i64 r3), (5, .int .i64 s_)]) (fun s_ : Int => [(b1, c_api_Prefix.enc a0)]) [1, 4, 5] rfl (fun _ _ => rfl) (fun s_ => weirref4_ValidPrefix.L1_ok a0 b1 r3 s_)

/-! ### weir/weirref4.has: function 90 -/
noncomputable def weirref4_has.B : Code := (Tryd.f90.body).getD .skip
noncomputable def weirref4_has.cx : Fx := ⟨Tryd.prog, 90, Tryd.f90, none⟩
noncomputable def weirref4_has.out (r_ : Bool) : Value := .bool r_
noncomputable def weirref4_has.F0 (r_ : Bool) : Reach := .ret (weirref4_has.out r_)
noncomputable def weirref4_has.F1 (a0 : ByteArray) (a1 : Int) : (LS Int Bool) → Reach := loopF [.inLoop (c1 (c1 (c2 (c1 (c2 weirref4_has.B))))), .inBlock 0, .code (c2 (c2 weirref4_has.B))] (fun s_ : Int => [(0, .string a0), (1, .int .u8 a1), (5, .int .i64 s_)]) (fun s_ : Int => []) weirref4_has.F0
noncomputable def weirref4_has.L1 (a0 : ByteArray) (a1 : Int) (s1 : Int) : M (LS Int Bool) :=
 if s1 < (a0.size : Int) then
  chk ((0 : Int) ≤ s1 ∧ s1 < (a0.size : Int)) >>= fun _ =>
  if (sb a0 s1) = a1 then
   pure (LS.done true)
  else
   pure (LS.next (IntKind.wrap .i64 (s1 + 1)))
 else
  pure (LS.done false)
theorem weirref4_has.L1_ok (a0 : ByteArray) (a1 : Int) (s1 : Int) :
  SJ weirref4_has.cx [.code (c1 (c1 (c2 (c1 (c2 weirref4_has.B))))), .inLoop (c1 (c1 (c2 (c1 (c2 weirref4_has.B))))), .inBlock 0, .code (c2 (c2 weirref4_has.B))] [(0, .string a0), (1, .int .u8 a1), (5, .int .i64 s1)] [] (weirref4_has.L1 a0 a1 s1) (weirref4_has.F1 a0 a1) := by
 unfold weirref4_has.L1
 refine SJ.seq <| SJ.sr 4 <| OJ.go 4 [(9, .bool (decide (s1 < (a0.size : Int)))), (8, .int .i64 (a0.size : Int)), (7, .string a0), (6, .int .i64 s1)] <| OJ.nil <| SJ.cond (t := (.tmp 9)) (b := decide (s1 < (a0.size : Int))) decide_eq_true_iff (fun hc9 => ?_) (fun hc9 => ?_)
 ·refine SJ.skip <| SJ.seq <| SJ.block (id := 1) <| SJ.sr 5 <| OJ.go 2 [(13, .int .i64 s1), (12, .string a0)] <| OJ.idxT (d := 14) (T := 9) (y := .tmp 12) (j := .tmp 13) (k := .i64) (fun hb6 hb7 => ?_)
  refine OJ.go 2 [(16, .bool ((sb a0 s1) == a1)), (15, .int .u8 a1)] <| OJ.nil <| SJ.cond (t := (.tmp 16)) (b := ((sb a0 s1) == a1)) beq_iff_eq (fun hc8 => ?_) (fun hc8 => ?_)
  ·exact SJ.sr 1 <| OJ.go 1 [(4, .bool true)] <| OJ.nil <| SJ.r1 (.bool true) rfl rfl
  ·exact SJ.skip <| SJ.inBlock <| SJ.rg 3 <| OJ.go 3 [(5, .int .i64 (IntKind.wrap .i64 (s1 + 1))), (11, .int .i64 (IntKind.wrap .i64 (s1 + 1))), (10, .int .i64 s1)] <| OJ.nil <| SJ.at_ [0, 1, 5] rfl
 ·exact SJ.exit (id := 0) (by rfl) <| SJ.sr 1 <| OJ.go 1 [(4, .bool false)] <| OJ.nil <| SJ.r1 (.bool false) rfl rfl
noncomputable def weirref4_has (a0 : ByteArray) (a1 : Int) : M Bool :=
 loopM (fun s_ : Int => weirref4_has.L1 a0 a1 s_) 0
theorem weirref4_has_ok (a0 : ByteArray) (a1 : Int) : Ref Tryd.prog 90 [.string a0, .int .u8 a1] (weirref4_has a0 a1) weirref4_has.out := by
 refine Ref.of (cd := weirref4_has.B) Tryd.func90 ?_
 show SJ weirref4_has.cx [.code weirref4_has.B] [(0, .string a0), (1, .int .u8 a1)] [] (weirref4_has a0 a1) weirref4_has.F0
 unfold weirref4_has
 exact SJ.sr 1 <| OJ.go 1 [(4, .bool false)] <| OJ.nil <| SJ.seq <| SJ.sr 1 <| OJ.go 1 [(5, .int .i64 0)] <| OJ.nil <| SJ.block (id := 0) <| SJ.loop (fun s_ : Int => [(0, .string a0), (1, .int .u8 a1), (5, .int .i64 s_)]) (fun s_ : Int => []) [0, 1, 5] rfl (fun _ _ => rfl) (fun s_ => weirref4_has.L1_ok a0 a1 s_)

/-! ### weir/weirref4.two: function 94 -/
noncomputable def weirref4_two.B : Code := (Tryd.f94.body).getD .skip
noncomputable def weirref4_two.cx : Fx := ⟨Tryd.prog, 94, Tryd.f94, none⟩
noncomputable def weirref4_two.out (r_ : Bool) : Value := .bool r_
noncomputable def weirref4_two.F0 (r_ : Bool) : Reach := .ret (weirref4_two.out r_)
noncomputable def weirref4_two (a0 : ByteArray) (a1 : Int) : M Bool :=
 (if (IntKind.wrap .i64 (a1 + 1)) < (a0.size : Int) then
   chk ((0 : Int) ≤ a1 ∧ a1 < (a0.size : Int)) >>= fun _ =>
   pure ((sb a0 a1) == 58)
  else
   pure false) >>= fun y3 =>
 (if y3 = true then
   chk ((0 : Int) ≤ (IntKind.wrap .i64 (a1 + 1)) ∧ (IntKind.wrap .i64 (a1 + 1)) < (a0.size : Int)) >>= fun _ =>
   pure ((sb a0 (IntKind.wrap .i64 (a1 + 1))) == 58)
  else
   pure false) >>= fun y6 =>
 pure y6
theorem weirref4_two_ok (a0 : ByteArray) (a1 : Int) : Ref Tryd.prog 94 [.string a0, .int .i64 a1] (weirref4_two a0 a1) weirref4_two.out := by
 refine Ref.of (cd := weirref4_two.B) Tryd.func94 ?_
 show SJ weirref4_two.cx [.code weirref4_two.B] [(0, .string a0), (1, .int .i64 a1)] [] (weirref4_two a0 a1) weirref4_two.F0
 unfold weirref4_two
 refine SJ.sr 1 <| OJ.go 1 [(4, .bool false)] <| OJ.nil <| SJ.sr 19 <| OJ.go 6 [(10, .bool (decide ((IntKind.wrap .i64 (a1 + 1)) < (a0.size : Int)))), (9, .bool (decide ((IntKind.wrap .i64 (a1 + 1)) < (a0.size : Int)))), (8, .int .i64 (a0.size : Int)), (7, .string a0), (6, .int .i64 (IntKind.wrap .i64 (a1 + 1))), (5, .int .i64 a1)] <| OJ.join (b := decide ((IntKind.wrap .i64 (a1 + 1)) < (a0.size : Int))) [6, 7, 8, 9, 10] [11, 12, 13, 14, 15, 16, 17, 18] [0, 1, 15] (fun y3 => [(0, .string a0), (1, .int .i64 a1), (15, .bool y3)]) [] [] (t := 10) decide_eq_true_iff (fun hp_ => ?_) (fun hp_ => ?_) (fun _ _ _ _ _ _ h_ => h_) (fun y3 => ?_)
 ·refine OJ.go 2 [(12, .int .i64 a1), (11, .string a0)] <| OJ.idxT (d := 13) (T := 9) (y := .tmp 11) (j := .tmp 12) (k := .i64) (fun hb1 hb2 => ?_)
  exact OJ.go 2 [(15, .bool ((sb a0 a1) == 58)), (14, .bool ((sb a0 a1) == 58))] <| OJ.x0
 ·exact OJ.go 5 [(15, .bool false), (14, undef), (13, undef), (12, undef), (11, undef)] <| OJ.x0
 ·refine OJ.go 1 [(16, .bool y3)] <| OJ.join (b := y3) [12, 13, 14, 15, 16, 17] [18] [22] (fun y6 => [(22, .bool y6)]) [] [] (t := 16) Iff.rfl (fun hp_ => ?_) (fun hp_ => ?_) (fun _ _ _ _ _ _ h_ => h_) (fun y6 => ?_)
  ·refine OJ.go 3 [(19, .int .i64 (IntKind.wrap .i64 (a1 + 1))), (18, .int .i64 a1), (17, .string a0)] <| OJ.idxT (d := 20) (T := 9) (y := .tmp 17) (j := .tmp 19) (k := .i64) (fun hb4 hb5 => ?_)
   exact OJ.go 2 [(22, .bool ((sb a0 (IntKind.wrap .i64 (a1 + 1))) == 58)), (21, .bool ((sb a0 (IntKind.wrap .i64 (a1 + 1))) == 58))] <| OJ.x0
  ·exact OJ.go 6 [(22, .bool false), (21, undef), (20, undef), (19, undef), (18, undef), (17, undef)] <| OJ.x0
  ·exact OJ.go 1 [(4, .bool y6)] <| OJ.nil <| SJ.r1 (.bool y6) rfl rfl

/-! ### weir/weirref4.digit: function 82 -/
noncomputable def weirref4_digit.B : Code := (Tryd.f82.body).getD .skip
noncomputable def weirref4_digit.cx : Fx := ⟨Tryd.prog, 82, Tryd.f82, none⟩
noncomputable def weirref4_digit.out (r_ : Bool) : Value := .bool r_
noncomputable def weirref4_digit.F0 (r_ : Bool) : Reach := .ret (weirref4_digit.out r_)
noncomputable def weirref4_digit (a0 : Int) : M Bool :=
 (if a0 ≥ 48 then
   pure (decide (a0 ≤ 57))
  else
   pure false) >>= fun y1 =>
 pure y1
theorem weirref4_digit_ok (a0 : Int) : Ref Tryd.prog 82 [.int .u8 a0] (weirref4_digit a0) weirref4_digit.out := by
 refine Ref.of (cd := weirref4_digit.B) Tryd.func82 ?_
 show SJ weirref4_digit.cx [.code weirref4_digit.B] [(0, .int .u8 a0)] [] (weirref4_digit a0) weirref4_digit.F0
 unfold weirref4_digit
 refine SJ.sr 1 <| OJ.go 1 [(2, .bool false)] <| OJ.nil <| SJ.sr 7 <| OJ.go 3 [(5, .bool (decide (a0 ≥ 48))), (4, .bool (decide (a0 ≥ 48))), (3, .int .u8 a0)] <| OJ.join (b := decide (a0 ≥ 48)) [3, 4, 5] [6] [8] (fun y1 => [(8, .bool y1)]) [] [] (t := 5) decide_eq_true_iff (fun hp_ => ?_) (fun hp_ => ?_) (fun _ _ _ _ _ _ h_ => h_) (fun y1 => ?_)
 ·exact OJ.go 3 [(8, .bool (decide (a0 ≤ 57))), (7, .bool (decide (a0 ≤ 57))), (6, .int .u8 a0)] <| OJ.x0
 ·exact OJ.go 3 [(8, .bool false), (7, undef), (6, undef)] <| OJ.x0
 ·exact OJ.go 1 [(2, .bool y1)] <| OJ.nil <| SJ.r1 (.bool y1) rfl rfl

/-! ### weir/weirref4.worth: function 98 -/
noncomputable def weirref4_worth.B : Code := (Tryd.f98.body).getD .skip
noncomputable def weirref4_worth.cx : Fx := ⟨Tryd.prog, 98, Tryd.f98, none⟩
noncomputable def weirref4_worth.out (r_ : Int) : Value := .int .i64 r_
noncomputable def weirref4_worth.F0 (r_ : Int) : Reach := .ret (weirref4_worth.out r_)
noncomputable def weirref4_worth (a0 : Int) : M Int :=
 weirref4_digit a0 >>= fun r1 =>
 if r1 = true then
  pure (IntKind.wrap .i64 (IntKind.wrap .u8 (a0 - 48)))
 else
  (if a0 ≥ 97 then
    pure (decide (a0 ≤ 102))
   else
    pure false) >>= fun y2 =>
  if y2 = true then
   pure (IntKind.wrap .i64 ((IntKind.wrap .i64 (IntKind.wrap .u8 (a0 - 97))) + 10))
  else
   (if a0 ≥ 65 then
     pure (decide (a0 ≤ 70))
    else
     pure false) >>= fun y3 =>
   if y3 = true then
    pure (IntKind.wrap .i64 ((IntKind.wrap .i64 (IntKind.wrap .u8 (a0 - 65))) + 10))
   else
    pure (-1)
theorem weirref4_worth_ok (a0 : Int) : Ref Tryd.prog 98 [.int .u8 a0] (weirref4_worth a0) weirref4_worth.out := by
 refine Ref.of (cd := weirref4_worth.B) Tryd.func98 ?_
 show SJ weirref4_worth.cx [.code weirref4_worth.B] [(0, .int .u8 a0)] [] (weirref4_worth a0) weirref4_worth.F0
 unfold weirref4_worth
 refine SJ.sr 1 <| OJ.go 1 [(2, .int .i64 0)] <| OJ.nil <| SJ.seq <| SJ.sr 2 <| OJ.go 1 [(3, .int .u8 a0)] <| OJ.call (d := 4) (g := 82) (ats := #[5]) (args := [.tmp 3]) (owed := []) F82 (weirref4_digit_ok a0) (fun r1 => ?_)
 refine OW.nil <| OJ.nil <| SJ.cond (t := (.tmp 4)) (b := r1) Iff.rfl (fun hc6 => ?_) (fun hc6 => ?_)
 ·exact SJ.sr 4 <| OJ.go 4 [(2, .int .i64 (IntKind.wrap .i64 (IntKind.wrap .u8 (a0 - 48)))), (7, .int .i64 (IntKind.wrap .i64 (IntKind.wrap .u8 (a0 - 48)))), (6, .int .u8 (IntKind.wrap .u8 (a0 - 48))), (5, .int .u8 a0)] <| OJ.nil <| SJ.r1 (.int .i64 (IntKind.wrap .i64 (IntKind.wrap .u8 (a0 - 48)))) rfl rfl
 ·refine SJ.skip <| SJ.seq <| SJ.sr 6 <| OJ.go 3 [(10, .bool (decide (a0 ≥ 97))), (9, .bool (decide (a0 ≥ 97))), (8, .int .u8 a0)] <| OJ.join (b := decide (a0 ≥ 97)) [3, 4, 5] [] [0, 13] (fun y2 => [(0, .int .u8 a0), (13, .bool y2)]) [] [] (t := 10) decide_eq_true_iff (fun hp_ => ?_) (fun hp_ => ?_) (fun _ _ _ _ _ _ h_ => h_) (fun y2 => ?_)
  ·exact OJ.go 3 [(13, .bool (decide (a0 ≤ 102))), (12, .bool (decide (a0 ≤ 102))), (11, .int .u8 a0)] <| OJ.x0
  ·exact OJ.go 3 [(13, .bool false), (12, undef), (11, undef)] <| OJ.x0
  ·refine OJ.nil <| SJ.cond (t := (.tmp 13)) (b := y2) Iff.rfl (fun hc5 => ?_) (fun hc5 => ?_)
   ·exact SJ.sr 5 <| OJ.go 5 [(2, .int .i64 (IntKind.wrap .i64 ((IntKind.wrap .i64 (IntKind.wrap .u8 (a0 - 97))) + 10))), (17, .int .i64 (IntKind.wrap .i64 ((IntKind.wrap .i64 (IntKind.wrap .u8 (a0 - 97))) + 10))), (16, .int .i64 (IntKind.wrap .i64 (IntKind.wrap .u8 (a0 - 97)))), (15, .int .u8 (IntKind.wrap .u8 (a0 - 97))), (14, .int .u8 a0)] <| OJ.nil <| SJ.r1 (.int .i64 (IntKind.wrap .i64 ((IntKind.wrap .i64 (IntKind.wrap .u8 (a0 - 97))) + 10))) rfl rfl
   ·refine SJ.skip <| SJ.seq <| SJ.sr 6 <| OJ.go 3 [(20, .bool (decide (a0 ≥ 65))), (19, .bool (decide (a0 ≥ 65))), (18, .int .u8 a0)] <| OJ.join (b := decide (a0 ≥ 65)) [3, 4, 5] [] [0, 23] (fun y3 => [(0, .int .u8 a0), (23, .bool y3)]) [] [] (t := 20) decide_eq_true_iff (fun hp_ => ?_) (fun hp_ => ?_) (fun _ _ _ _ _ _ h_ => h_) (fun y3 => ?_)
    ·exact OJ.go 3 [(23, .bool (decide (a0 ≤ 70))), (22, .bool (decide (a0 ≤ 70))), (21, .int .u8 a0)] <| OJ.x0
    ·exact OJ.go 3 [(23, .bool false), (22, undef), (21, undef)] <| OJ.x0
    ·refine OJ.nil <| SJ.cond (t := (.tmp 23)) (b := y3) Iff.rfl (fun hc4 => ?_) (fun hc4 => ?_)
     ·exact SJ.sr 5 <| OJ.go 5 [(2, .int .i64 (IntKind.wrap .i64 ((IntKind.wrap .i64 (IntKind.wrap .u8 (a0 - 65))) + 10))), (27, .int .i64 (IntKind.wrap .i64 ((IntKind.wrap .i64 (IntKind.wrap .u8 (a0 - 65))) + 10))), (26, .int .i64 (IntKind.wrap .i64 (IntKind.wrap .u8 (a0 - 65)))), (25, .int .u8 (IntKind.wrap .u8 (a0 - 65))), (24, .int .u8 a0)] <| OJ.nil <| SJ.r1 (.int .i64 (IntKind.wrap .i64 ((IntKind.wrap .i64 (IntKind.wrap .u8 (a0 - 65))) + 10))) rfl rfl
     ·exact SJ.skip <| SJ.sr 1 <| OJ.go 1 [(2, .int .i64 (-1))] <| OJ.nil <| SJ.r1 (.int .i64 (-1)) rfl rfl

/-! ### weir/weirref4.here: function 83 -/
noncomputable def weirref4_here.B : Code := (Tryd.f83.body).getD .skip
noncomputable def weirref4_here.cx : Fx := ⟨Tryd.prog, 83, Tryd.f83, none⟩
noncomputable def weirref4_here.out (r_ : (Int × Int)) : Value := .tuple #[.int .i64 r_.1, .int .i64 r_.2]
noncomputable def weirref4_here.F0 (r_ : (Int × Int)) : Reach := .ret (weirref4_here.out r_)
noncomputable def weirref4_here (a0 : ByteArray) (a1 : Int) : M (Int × Int) :=
 if a1 ≥ (a0.size : Int) then
  pure (42, (a0.size : Int))
 else
  pure (41, a1)
theorem weirref4_here_ok (a0 : ByteArray) (a1 : Int) : Ref Tryd.prog 83 [.string a0, .int .i64 a1] (weirref4_here a0 a1) weirref4_here.out := by
 refine Ref.of (cd := weirref4_here.B) Tryd.func83 ?_
 show SJ weirref4_here.cx [.code weirref4_here.B] [(0, .string a0), (1, .int .i64 a1)] [] (weirref4_here a0 a1) weirref4_here.F0
 unfold weirref4_here
 refine SJ.sr 2 <| OJ.go 2 [(5, .int .i64 0), (4, .int .i64 0)] <| OJ.nil <| SJ.seq <| SJ.sr 4 <| OJ.go 4 [(9, .bool (decide (a1 ≥ (a0.size : Int)))), (8, .int .i64 (a0.size : Int)), (7, .string a0), (6, .int .i64 a1)] <| OJ.nil <| SJ.cond (t := (.tmp 9)) (b := decide (a1 ≥ (a0.size : Int))) decide_eq_true_iff (fun hc1 => ?_) (fun hc1 => ?_)
 ·exact SJ.sr 4 <| OJ.go 4 [(5, .int .i64 (a0.size : Int)), (4, .int .i64 42), (11, .int .i64 (a0.size : Int)), (10, .string a0)] <| OJ.nil <| SJ.r2 (.int .i64 42) (.int .i64 (a0.size : Int)) rfl rfl
 ·exact SJ.skip <| SJ.sr 3 <| OJ.go 3 [(5, .int .i64 a1), (4, .int .i64 41), (12, .int .i64 a1)] <| OJ.nil <| SJ.r2 (.int .i64 41) (.int .i64 a1) rfl rfl

/-! ### (*weir/weirref4.six).fail: function 97 -/
noncomputable def weirref4_six_fail.B : Code := (Tryd.f97.body).getD .skip
noncomputable def weirref4_six_fail.cx : Fx := ⟨Tryd.prog, 97, Tryd.f97, none⟩
noncomputable def weirref4_six_fail.out (r_ : Unit) : Value := .tuple #[]
noncomputable def weirref4_six_fail.F0 (r_ : Unit) : Reach := .ret (weirref4_six_fail.out r_)
noncomputable def weirref4_six_fail (a0 : (Option Addr)) (a1 : Int) (a2 : Int) : M Unit :=
 nilck a0 >>= fun p1 =>
 ld (cI .i64) (Addr.add p1 4) >>= fun x2 =>
 if x2 = 0 then
  nilck a0 >>= fun p5 =>
  st (cI .i64) (Addr.add p5 4) a1 >>= fun _ =>
  nilck a0 >>= fun p6 =>
  st (cI .i64) (Addr.add p6 5) a2 >>= fun _ =>
  pure ()
 else
  pure ()
theorem weirref4_six_fail_ok (a0 : (Option Addr)) (a1 : Int) (a2 : Int) : Ref Tryd.prog 97 [.pointer a0, .int .i64 a1, .int .i64 a2] (weirref4_six_fail a0 a1 a2) weirref4_six_fail.out := by
 refine Ref.of (cd := weirref4_six_fail.B) Tryd.func97 ?_
 show SJ weirref4_six_fail.cx [.code weirref4_six_fail.B] [(0, .pointer a0), (1, .int .i64 a1), (2, .int .i64 a2)] [] (weirref4_six_fail a0 a1 a2) weirref4_six_fail.F0
 unfold weirref4_six_fail
 refine SJ.sr 5 <| OJ.go 1 [(6, .pointer a0)] <| OJ.nilck (d := 7) (y := .tmp 6) (fun p1 => ?_)
 refine OJ.go 1 [(8, .pointer (some (Addr.add p1 4)))] <| OJ.ld (d := 9) (y := .tmp 8) (pend2 := fun x2 => []) Ty3 (fun _ => rfl) (fun x2 => ?_)
 refine OJ.go 1 [(10, .bool (x2 == 0))] <| OJ.nil <| SJ.cond (t := (.tmp 10)) (b := (x2 == 0)) beq_iff_eq (fun hc7 => ?_) (fun hc7 => ?_)
 ·refine SJ.sr 5 <| OJ.go 2 [(12, .int .i64 a1), (11, .pointer a0)] <| OJ.nilck (d := 13) (y := .tmp 11) (fun p5 => ?_)
  refine OJ.go 1 [(14, .pointer (some (Addr.add p5 4)))] <| OJ.st (y := .tmp 14) (z := .tmp 12) (owed := []) Ty3 ?_
  refine OW.nil <| OJ.nil <| SJ.rg 5 <| OJ.go 2 [(16, .int .i64 a2), (15, .pointer a0)] <| OJ.nilck (d := 17) (y := .tmp 15) (fun p6 => ?_)
  refine OJ.go 1 [(18, .pointer (some (Addr.add p6 5)))] <| OJ.st (y := .tmp 18) (z := .tmp 16) (owed := []) Ty3 ?_
  exact OW.nil <| OJ.nil <| SJ.end_ rfl (Res.run (ys := []) .nil rfl)
 ·exact SJ.skip <| SJ.end_ rfl (Res.run (ys := []) .nil rfl)

/-! ### (*weir/weirref4.six).room: function 99 -/
noncomputable def weirref4_six_room.B : Code := (Tryd.f99.body).getD .skip
noncomputable def weirref4_six_room.cx : Fx := ⟨Tryd.prog, 99, Tryd.f99, none⟩
noncomputable def weirref4_six_room.out (r_ : Int) : Value := .int .i64 r_
noncomputable def weirref4_six_room.F0 (r_ : Int) : Reach := .ret (weirref4_six_room.out r_)
noncomputable def weirref4_six_room (a0 : (Option Addr)) : M Int :=
 nilck a0 >>= fun p1 =>
 ld (cI .i64) (Addr.add p1 2) >>= fun x2 =>
 if x2 ≥ 0 then
  pure 7
 else
  pure 8
theorem weirref4_six_room_ok (a0 : (Option Addr)) : Ref Tryd.prog 99 [.pointer a0] (weirref4_six_room a0) weirref4_six_room.out := by
 refine Ref.of (cd := weirref4_six_room.B) Tryd.func99 ?_
 show SJ weirref4_six_room.cx [.code weirref4_six_room.B] [(0, .pointer a0)] [] (weirref4_six_room a0) weirref4_six_room.F0
 unfold weirref4_six_room
 refine SJ.sr 1 <| OJ.go 1 [(2, .int .i64 0)] <| OJ.nil <| SJ.seq <| SJ.sr 5 <| OJ.go 1 [(3, .pointer a0)] <| OJ.nilck (d := 4) (y := .tmp 3) (fun p1 => ?_)
 refine OJ.go 1 [(5, .pointer (some (Addr.add p1 2)))] <| OJ.ld (d := 6) (y := .tmp 5) (pend2 := fun x2 => []) Ty3 (fun _ => rfl) (fun x2 => ?_)
 refine OJ.go 1 [(7, .bool (decide (x2 ≥ 0)))] <| OJ.nil <| SJ.cond (t := (.tmp 7)) (b := decide (x2 ≥ 0)) decide_eq_true_iff (fun hc3 => ?_) (fun hc3 => ?_)
 ·exact SJ.sr 1 <| OJ.go 1 [(2, .int .i64 7)] <| OJ.nil <| SJ.r1 (.int .i64 7) rfl rfl
 ·exact SJ.skip <| SJ.sr 1 <| OJ.go 1 [(2, .int .i64 8)] <| OJ.nil <| SJ.r1 (.int .i64 8) rfl rfl

/-! ### weir/weirref4.decimal: function 84 -/
noncomputable def weirref4_decimal.B : Code := (Tryd.f84.body).getD .skip
noncomputable def weirref4_decimal.cx : Fx := ⟨Tryd.prog, 84, Tryd.f84, none⟩
noncomputable def weirref4_decimal.out (r_ : Int) : Value := .int .i64 r_
noncomputable def weirref4_decimal.F0 (r_ : Int) : Reach := .ret (weirref4_decimal.out r_)
noncomputable def weirref4_decimal.F1 (a0 : ByteArray) (a2 : Int) (a3 : Int) : (LS (Int × Int) Int) → Reach := loopF [.inLoop (c1 (c1 (c2 (c1 (c2 (c2 (c2 weirref4_decimal.B))))))), .inBlock 0, .code (c2 (c2 (c2 (c2 weirref4_decimal.B))))] (fun s_ : (Int × Int) => [(0, .string a0), (2, .int .i64 a2), (3, .int .i64 a3), (9, .int .i64 s_.1), (10, .int .i64 s_.2)]) (fun s_ : (Int × Int) => []) weirref4_decimal.F0
noncomputable def weirref4_decimal.L1 (a0 : ByteArray) (a2 : Int) (a3 : Int) (s5 : Int) (s6 : Int) : M (LS (Int × Int) Int) :=
 if s6 < a2 then
  chk ((0 : Int) ≤ s6 ∧ s6 < (a0.size : Int)) >>= fun _ =>
  pure (LS.next (IntKind.wrap .i64 ((IntKind.wrap .i64 (10 * s5)) + (IntKind.wrap .i64 (IntKind.wrap .u8 ((sb a0 s6) - 48)))), IntKind.wrap .i64 (s6 + 1)))
 else
  if s5 > a3 then
   pure (LS.done (-1))
  else
   pure (LS.done s5)
theorem weirref4_decimal.L1_ok (a0 : ByteArray) (a2 : Int) (a3 : Int) (s5 : Int) (s6 : Int) :
  SJ weirref4_decimal.cx [.code (c1 (c1 (c2 (c1 (c2 (c2 (c2 weirref4_decimal.B))))))), .inLoop (c1 (c1 (c2 (c1 (c2 (c2 (c2 weirref4_decimal.B))))))), .inBlock 0, .code (c2 (c2 (c2 (c2 weirref4_decimal.B))))] [(0, .string a0), (2, .int .i64 a2), (3, .int .i64 a3), (9, .int .i64 s5), (10, .int .i64 s6)] [] (weirref4_decimal.L1 a0 a2 a3 s5 s6) (weirref4_decimal.F1 a0 a2 a3) := by
 unfold weirref4_decimal.L1
 refine SJ.seq <| SJ.sr 3 <| OJ.go 3 [(30, .bool (decide (s6 < a2))), (29, .int .i64 a2), (28, .int .i64 s6)] <| OJ.nil <| SJ.cond (t := (.tmp 30)) (b := decide (s6 < a2)) decide_eq_true_iff (fun hc14 => ?_) (fun hc14 => ?_)
 ·refine SJ.skip <| SJ.seq <| SJ.block (id := 1) <| SJ.rg 9 <| OJ.go 4 [(36, .int .i64 s6), (35, .string a0), (34, .int .i64 (IntKind.wrap .i64 (10 * s5))), (33, .int .i64 s5)] <| OJ.idxT (d := 37) (T := 9) (y := .tmp 35) (j := .tmp 36) (k := .i64) (fun hb11 hb12 => ?_)
  exact OJ.go 4 [(9, .int .i64 (IntKind.wrap .i64 ((IntKind.wrap .i64 (10 * s5)) + (IntKind.wrap .i64 (IntKind.wrap .u8 ((sb a0 s6) - 48)))))), (40, .int .i64 (IntKind.wrap .i64 ((IntKind.wrap .i64 (10 * s5)) + (IntKind.wrap .i64 (IntKind.wrap .u8 ((sb a0 s6) - 48)))))), (39, .int .i64 (IntKind.wrap .i64 (IntKind.wrap .u8 ((sb a0 s6) - 48)))), (38, .int .u8 (IntKind.wrap .u8 ((sb a0 s6) - 48)))] <| OJ.nil <| SJ.inBlock <| SJ.rg 3 <| OJ.go 3 [(10, .int .i64 (IntKind.wrap .i64 (s6 + 1))), (32, .int .i64 (IntKind.wrap .i64 (s6 + 1))), (31, .int .i64 s6)] <| OJ.nil <| SJ.at_ [0, 2, 3, 9, 10] rfl
 ·refine SJ.exit (id := 0) (by rfl) <| SJ.seq <| SJ.sr 3 <| OJ.go 3 [(43, .bool (decide (s5 > a3))), (42, .int .i64 a3), (41, .int .i64 s5)] <| OJ.nil <| SJ.cond (t := (.tmp 43)) (b := decide (s5 > a3)) decide_eq_true_iff (fun hc13 => ?_) (fun hc13 => ?_)
  ·exact SJ.sr 1 <| OJ.go 1 [(8, .int .i64 (-1))] <| OJ.nil <| SJ.r1 (.int .i64 (-1)) rfl rfl
  ·exact SJ.skip <| SJ.sr 2 <| OJ.go 2 [(8, .int .i64 s5), (44, .int .i64 s5)] <| OJ.nil <| SJ.r1 (.int .i64 s5) rfl rfl
noncomputable def weirref4_decimal (a0 : ByteArray) (a1 : Int) (a2 : Int) (a3 : Int) : M Int :=
 (if (IntKind.wrap .i64 (a2 - a1)) > 3 then
   pure true
  else
   (if (IntKind.wrap .i64 (a2 - a1)) > 1 then
     chk ((0 : Int) ≤ a1 ∧ a1 < (a0.size : Int)) >>= fun _ =>
     pure ((sb a0 a1) == 48)
    else
     pure false) >>= fun y3 =>
   pure y3) >>= fun y4 =>
 if y4 = true then
  pure (-1)
 else
  loopM (fun s_ : (Int × Int) => weirref4_decimal.L1 a0 a2 a3 s_.1 s_.2) (0, a1)
theorem weirref4_decimal_ok (a0 : ByteArray) (a1 : Int) (a2 : Int) (a3 : Int) : Ref Tryd.prog 84 [.string a0, .int .i64 a1, .int .i64 a2, .int .i64 a3] (weirref4_decimal a0 a1 a2 a3) weirref4_decimal.out := by
 refine Ref.of (cd := weirref4_decimal.B) Tryd.func84 ?_
 show SJ weirref4_decimal.cx [.code weirref4_decimal.B] [(0, .string a0), (1, .int .i64 a1), (2, .int .i64 a2), (3, .int .i64 a3)] [] (weirref4_decimal a0 a1 a2 a3) weirref4_decimal.F0
 unfold weirref4_decimal
 refine SJ.sr 1 <| OJ.go 1 [(8, .int .i64 0)] <| OJ.nil <| SJ.seq <| SJ.sr 16 <| OJ.go 5 [(15, .bool (decide ((IntKind.wrap .i64 (a2 - a1)) > 3))), (14, .bool (decide ((IntKind.wrap .i64 (a2 - a1)) > 3))), (13, .int .i64 (IntKind.wrap .i64 (a2 - a1))), (12, .int .i64 a1), (11, .int .i64 a2)] <| OJ.join (b := decide ((IntKind.wrap .i64 (a2 - a1)) > 3)) [5, 6, 7, 8, 9, 10, 11, 12, 13, 14, 15] [] [0, 1, 2, 3, 26] (fun y4 => [(0, .string a0), (1, .int .i64 a1), (2, .int .i64 a2), (3, .int .i64 a3), (26, .bool y4)]) [] [] (t := 15) decide_eq_true_iff (fun hp_ => ?_) (fun hp_ => ?_) (fun _ _ _ _ _ _ h_ => h_) (fun y4 => ?_)
 ·exact OJ.go 11 [(26, .bool true), (25, undef), (24, undef), (23, undef), (22, undef), (21, undef), (20, undef), (19, undef), (18, undef), (17, undef), (16, undef)] <| OJ.x0
 ·refine OJ.go 5 [(20, .bool (decide ((IntKind.wrap .i64 (a2 - a1)) > 1))), (19, .bool (decide ((IntKind.wrap .i64 (a2 - a1)) > 1))), (18, .int .i64 (IntKind.wrap .i64 (a2 - a1))), (17, .int .i64 a1), (16, .int .i64 a2)] <| OJ.join (b := decide ((IntKind.wrap .i64 (a2 - a1)) > 1)) [10, 11, 12, 13, 14] [15] [0, 1, 2, 3, 15, 25] (fun y3 => [(0, .string a0), (1, .int .i64 a1), (2, .int .i64 a2), (3, .int .i64 a3), (15, .bool false), (25, .bool y3)]) [] [] (t := 20) decide_eq_true_iff (fun hp_ => ?_) (fun hp_ => ?_) (fun _ _ _ _ _ hq_ h_ => ⟨fun e_ he_ => (hq_ e_ he_).elim (fun h => h_.1 e_ h) (fun h => nomatch h), h_.2⟩) (fun y3 => ?_)
  ·refine OJ.go 2 [(22, .int .i64 a1), (21, .string a0)] <| OJ.idxT (d := 23) (T := 9) (y := .tmp 21) (j := .tmp 22) (k := .i64) (fun hb1 hb2 => ?_)
   exact OJ.go 2 [(25, .bool ((sb a0 a1) == 48)), (24, .bool ((sb a0 a1) == 48))] <| OJ.x0
  ·exact OJ.go 5 [(25, .bool false), (24, undef), (23, undef), (22, undef), (21, undef)] <| OJ.x0
  ·exact OJ.go 1 [(26, .bool y3)] <| OJ.x0
 ·refine OJ.nil <| SJ.cond (t := (.tmp 26)) (b := y4) Iff.rfl (fun hc15 => ?_) (fun hc15 => ?_)
  ·exact SJ.sr 1 <| OJ.go 1 [(8, .int .i64 (-1))] <| OJ.nil <| SJ.r1 (.int .i64 (-1)) rfl rfl
  ·exact SJ.skip <| SJ.sr 1 <| OJ.go 1 [(9, .int .i64 0)] <| OJ.nil <| SJ.seq <| SJ.sr 2 <| OJ.go 2 [(10, .int .i64 a1), (27, .int .i64 a1)] <| OJ.nil <| SJ.block (id := 0) <| SJ.loop (fun s_ : (Int × Int) => [(0, .string a0), (2, .int .i64 a2), (3, .int .i64 a3), (9, .int .i64 s_.1), (10, .int .i64 s_.2)]) (fun s_ : (Int × Int) => []) [0, 2, 3, 9, 10] rfl (fun _ _ => rfl) (fun s_ => weirref4_decimal.L1_ok a0 a2 a3 s_.1 s_.2)

/-! ### weir/weirref4.dotted: function 92 -/
noncomputable def weirref4_dotted.B : Code := (Tryd.f92.body).getD .skip
noncomputable def weirref4_dotted.cx : Fx := ⟨Tryd.prog, 92, Tryd.f92, none⟩
noncomputable def weirref4_dotted.out (r_ : (Sl × Int × Int)) : Value := .tuple #[Sl.v r_.1, .int .i64 r_.2.1, .int .i64 r_.2.2]
noncomputable def weirref4_dotted.F0 (r_ : (Sl × Int × Int)) : Reach := .ret (weirref4_dotted.out r_)
noncomputable def weirref4_dotted.F1 (a0 : ByteArray) : (LS (Int × Sl) (Sl × Int × Int)) → Reach := loopF [.inLoop (c1 (c1 (c1 (c2 (c2 weirref4_dotted.B))))), .inBlock 0, .code (c2 (c2 (c2 weirref4_dotted.B)))] (fun s_ : (Int × Sl) => [(0, .string a0), (1, .int .i64 s_.1), (7, Sl.v s_.2)]) (fun s_ : (Int × Sl) => []) weirref4_dotted.F0
noncomputable def weirref4_dotted.K1 (a0 : ByteArray) (s1 : Int) (s2 : Sl) (s36 : Int) : M (LS (Int × Sl) (Sl × Int × Int)) :=
 if s36 = s1 then
  weirref4_here a0 s1 >>= fun r43 =>
  pure (LS.done (Sl.nil, r43.1, r43.2))
 else
  weirref4_decimal a0 s1 s36 255 >>= fun r44 =>
  if r44 < 0 then
   pure (LS.done (Sl.nil, 43, s1))
  else
   slot 5 >>= fun b45 =>
   appl (cI .u8) 5 1 0 s2 [IntKind.wrap .u8 r44] >>= fun r46 =>
   if (r46.len : Int) < 4 then
    (if s36 ≥ (a0.size : Int) then
      pure true
     else
      chk ((0 : Int) ≤ s36 ∧ s36 < (a0.size : Int)) >>= fun _ =>
      pure ((sb a0 s36) != 46)) >>= fun y55 =>
    if y55 = true then
     weirref4_here a0 s36 >>= fun r57 =>
     pure (LS.done (Sl.nil, r57.1, r57.2))
    else
     pure (LS.next (IntKind.wrap .i64 (s36 + 1), r46))
   else
    pure (LS.next (s36, r46))
theorem weirref4_dotted.K1_ok (a0 : ByteArray) (s1 : Int) (s2 : Sl) (s36 : Int) :
  SJ weirref4_dotted.cx [.code (c2 (c2 (c1 (c2 (c1 (c1 (c1 (c2 (c2 weirref4_dotted.B))))))))), .inBlock 1, .inLoop (c1 (c1 (c1 (c2 (c2 weirref4_dotted.B))))), .inBlock 0, .code (c2 (c2 (c2 weirref4_dotted.B)))] [(0, .string a0), (1, .int .i64 s1), (7, Sl.v s2), (8, .int .i64 s36)] [] (weirref4_dotted.K1 a0 s1 s2 s36) (weirref4_dotted.F1 a0) := by
 unfold weirref4_dotted.K1
 refine SJ.seq <| SJ.sr 3 <| OJ.go 3 [(32, .bool (s36 == s1)), (31, .int .i64 s1), (30, .int .i64 s36)] <| OJ.nil <| SJ.cond (t := (.tmp 32)) (b := (s36 == s1)) beq_iff_eq (fun hc61 => ?_) (fun hc61 => ?_)
 ·refine SJ.sr 8 <| OJ.go 2 [(35, .int .i64 s1), (34, .string a0)] <| OJ.call (d := 36) (g := 83) (ats := #[9, 3]) (args := [.tmp 34, .tmp 35]) (owed := []) F83 (weirref4_here_ok a0 s1) (fun r43 => ?_)
  exact OW.nil <| OJ.go 5 [(10, .int .i64 r43.2), (9, .int .i64 r43.1), (38, .int .i64 r43.2), (37, .int .i64 r43.1), (33, .tuple #[.int .i64 r43.1, .int .i64 r43.2])] <| OJ.nil <| SJ.sr 5 <| OJ.go 5 [(6, .int .i64 r43.2), (5, .int .i64 r43.1), (4, Sl.v Sl.nil), (40, .int .i64 r43.2), (39, .int .i64 r43.1)] <| OJ.nil <| SJ.r3 (Sl.v Sl.nil) (.int .i64 r43.1) (.int .i64 r43.2) rfl rfl
 ·refine SJ.skip <| SJ.sr 5 <| OJ.go 3 [(43, .int .i64 s36), (42, .int .i64 s1), (41, .string a0)] <| OJ.call (d := 44) (g := 84) (ats := #[9, 3, 3, 3]) (args := [.tmp 41, .tmp 42, .tmp 43, .const (.int .i64 255)]) (owed := []) F84 (weirref4_decimal_ok a0 s1 s36 255) (fun r44 => ?_)
  refine OW.nil <| OJ.go 1 [(11, .int .i64 r44)] <| OJ.nil <| SJ.seq <| SJ.sr 2 <| OJ.go 2 [(46, .bool (decide (r44 < 0))), (45, .int .i64 r44)] <| OJ.nil <| SJ.cond (t := (.tmp 46)) (b := decide (r44 < 0)) decide_eq_true_iff (fun hc60 => ?_) (fun hc60 => ?_)
  ·exact SJ.sr 4 <| OJ.go 4 [(6, .int .i64 s1), (5, .int .i64 43), (4, Sl.v Sl.nil), (47, .int .i64 s1)] <| OJ.nil <| SJ.r3 (Sl.v Sl.nil) (.int .i64 43) (.int .i64 s1) rfl rfl
  ·refine SJ.skip <| SJ.sr 6 <| OJ.go 3 [(50, .int .u8 (IntKind.wrap .u8 r44)), (49, .int .i64 r44), (48, Sl.v s2)] <| OJ.rowSlot (d := 51) (t := 114) (parts := [(0, .tmp 50)]) (ps := [(0, (cI .u8).val (IntKind.wrap .u8 r44))]) (cd := (cI .u8)) (⟨[IntKind.wrap .u8 r44], rfl⟩ : Vec Int 1) (owed := []) Ty5 (Filled.cons (cd := (cI .u8)) (q := (IntKind.wrap .u8 r44)) (o := 0) rfl (Upd.arr (i := 0) (by decide) (by decide)) Filled.nil) (fun b45 => ?_)
   refine OW.nil <| OJ.appl (d := 52) (t := 114) (u := 114) (so := .tmp 48) (xo := .tmp 51) (j := 0) (b := b45) (l := ((cI .u8).arr 1).enc (⟨[IntKind.wrap .u8 r44], rfl⟩ : Vec Int 1)) (n := 1) (k := 1) [IntKind.wrap .u8 r44] (owed := []) Ty5 (by rfl) (Cod.arr_enc _ _ _) (by rfl) (fun r46 => ?_)
   refine OW.nil <| OJ.go 1 [(7, Sl.v r46)] <| OJ.nil <| SJ.sr 2 <| OJ.go 2 [(1, .int .i64 s36), (53, .int .i64 s36)] <| OJ.nil <| SJ.sr 3 <| OJ.go 3 [(56, .bool (decide ((r46.len : Int) < 4))), (55, .int .i64 (r46.len : Int)), (54, Sl.v r46)] <| OJ.nil <| SJ.cond (t := (.tmp 56)) (b := decide ((r46.len : Int) < 4)) decide_eq_true_iff (fun hc59 => ?_) (fun hc59 => ?_)
   ·refine SJ.seq <| SJ.sr 10 <| OJ.go 5 [(61, .bool (decide (s36 ≥ (a0.size : Int)))), (60, .bool (decide (s36 ≥ (a0.size : Int)))), (59, .int .i64 (a0.size : Int)), (58, .string a0), (57, .int .i64 s36)] <| OJ.join (b := decide (s36 ≥ (a0.size : Int))) [5, 6, 7, 8, 9] [] [0, 7, 1, 66] (fun y55 => [(0, .string a0), (7, Sl.v r46), (1, .int .i64 s36), (66, .bool y55)]) [] [] (t := 61) decide_eq_true_iff (fun hp_ => ?_) (fun hp_ => ?_) (fun _ _ _ _ _ _ h_ => h_) (fun y55 => ?_)
    ·exact OJ.go 5 [(66, .bool true), (65, undef), (64, undef), (63, undef), (62, undef)] <| OJ.x0
    ·refine OJ.go 2 [(63, .int .i64 s36), (62, .string a0)] <| OJ.idxT (d := 64) (T := 9) (y := .tmp 62) (j := .tmp 63) (k := .i64) (fun hb53 hb54 => ?_)
     exact OJ.go 2 [(66, .bool ((sb a0 s36) != 46)), (65, .bool ((sb a0 s36) != 46))] <| OJ.x0
    ·refine OJ.nil <| SJ.cond (t := (.tmp 66)) (b := y55) Iff.rfl (fun hc58 => ?_) (fun hc58 => ?_)
     ·refine SJ.sr 8 <| OJ.go 2 [(69, .int .i64 s36), (68, .string a0)] <| OJ.call (d := 70) (g := 83) (ats := #[9, 3]) (args := [.tmp 68, .tmp 69]) (owed := []) F83 (weirref4_here_ok a0 s36) (fun r57 => ?_)
      exact OW.nil <| OJ.go 5 [(13, .int .i64 r57.2), (12, .int .i64 r57.1), (72, .int .i64 r57.2), (71, .int .i64 r57.1), (67, .tuple #[.int .i64 r57.1, .int .i64 r57.2])] <| OJ.nil <| SJ.sr 5 <| OJ.go 5 [(6, .int .i64 r57.2), (5, .int .i64 r57.1), (4, Sl.v Sl.nil), (74, .int .i64 r57.2), (73, .int .i64 r57.1)] <| OJ.nil <| SJ.r3 (Sl.v Sl.nil) (.int .i64 r57.1) (.int .i64 r57.2) rfl rfl
     ·refine SJ.skip <| SJ.rg 3 <| OJ.go 3 [(1, .int .i64 (IntKind.wrap .i64 (s36 + 1))), (76, .int .i64 (IntKind.wrap .i64 (s36 + 1))), (75, .int .i64 s36)] <| OJ.nil <| SJ.inBlock <| SJ.forget (List.Sublist.cons _ List.Sublist.slnil) ?_
      exact SJ.at_ [0, 1, 7] rfl
   ·refine SJ.skip <| SJ.inBlock <| SJ.forget (List.Sublist.cons _ List.Sublist.slnil) ?_
    exact SJ.at_ [0, 1, 7] rfl
noncomputable def weirref4_dotted.F2 (a0 : ByteArray) (s1 : Int) (s2 : Sl) : (LS Int (LS (Int × Sl) (Sl × Int × Int))) → Reach := loopF [.inLoop (c1 (c1 (c1 (c2 (c1 (c2 (c1 (c1 (c1 (c2 (c2 weirref4_dotted.B))))))))))), .inBlock 2, .code (c2 (c2 (c1 (c2 (c1 (c1 (c1 (c2 (c2 weirref4_dotted.B))))))))), .inBlock 1, .inLoop (c1 (c1 (c1 (c2 (c2 weirref4_dotted.B))))), .inBlock 0, .code (c2 (c2 (c2 weirref4_dotted.B)))] (fun s_ : Int => [(0, .string a0), (1, .int .i64 s1), (7, Sl.v s2), (8, .int .i64 s_)]) (fun s_ : Int => []) (weirref4_dotted.F1 a0)
noncomputable def weirref4_dotted.L2 (a0 : ByteArray) (s1 : Int) (s2 : Sl) (s36 : Int) : M (LS Int (LS (Int × Sl) (Sl × Int × Int))) :=
 (if s36 < (a0.size : Int) then
   chk ((0 : Int) ≤ s36 ∧ s36 < (a0.size : Int)) >>= fun _ =>
   weirref4_digit (sb a0 s36) >>= fun r64 =>
   pure r64
  else
   pure false) >>= fun y65 =>
 if y65 = true then
  pure (LS.next (IntKind.wrap .i64 (s36 + 1)))
 else
  (weirref4_dotted.K1 a0 s1 s2 s36) >>= fun b => pure (LS.done b)
theorem weirref4_dotted.L2_ok (a0 : ByteArray) (s1 : Int) (s2 : Sl) (s36 : Int) :
  SJ weirref4_dotted.cx [.code (c1 (c1 (c1 (c2 (c1 (c2 (c1 (c1 (c1 (c2 (c2 weirref4_dotted.B))))))))))), .inLoop (c1 (c1 (c1 (c2 (c1 (c2 (c1 (c1 (c1 (c2 (c2 weirref4_dotted.B))))))))))), .inBlock 2, .code (c2 (c2 (c1 (c2 (c1 (c1 (c1 (c2 (c2 weirref4_dotted.B))))))))), .inBlock 1, .inLoop (c1 (c1 (c1 (c2 (c2 weirref4_dotted.B))))), .inBlock 0, .code (c2 (c2 (c2 weirref4_dotted.B)))] [(0, .string a0), (1, .int .i64 s1), (7, Sl.v s2), (8, .int .i64 s36)] [] (weirref4_dotted.L2 a0 s1 s2 s36) (weirref4_dotted.F2 a0 s1 s2) := by
 unfold weirref4_dotted.L2
 refine SJ.seq <| SJ.sr 10 <| OJ.go 5 [(22, .bool (decide (s36 < (a0.size : Int)))), (21, .bool (decide (s36 < (a0.size : Int)))), (20, .int .i64 (a0.size : Int)), (19, .string a0), (18, .int .i64 s36)] <| OJ.join (b := decide (s36 < (a0.size : Int))) [5, 6, 7, 8, 9] [] [0, 1, 7, 8, 27] (fun y65 => [(0, .string a0), (1, .int .i64 s1), (7, Sl.v s2), (8, .int .i64 s36), (27, .bool y65)]) [] [] (t := 22) decide_eq_true_iff (fun hp_ => ?_) (fun hp_ => ?_) (fun _ _ _ _ _ _ h_ => h_) (fun y65 => ?_)
 ·refine OJ.go 2 [(24, .int .i64 s36), (23, .string a0)] <| OJ.idxT (d := 25) (T := 9) (y := .tmp 23) (j := .tmp 24) (k := .i64) (fun hb62 hb63 => ?_)
  refine OJ.call (d := 26) (g := 82) (ats := #[5]) (args := [.tmp 25]) (owed := []) F82 (weirref4_digit_ok (sb a0 s36)) (fun r64 => ?_)
  exact OW.nil <| OJ.go 1 [(27, .bool r64)] <| OJ.x0
 ·exact OJ.go 5 [(27, .bool false), (26, undef), (25, undef), (24, undef), (23, undef)] <| OJ.x0
 ·refine OJ.nil <| SJ.cond (t := (.tmp 27)) (b := y65) Iff.rfl (fun hc66 => ?_) (fun hc66 => ?_)
  ·exact SJ.skip <| SJ.block (id := 3) <| SJ.rg 3 <| OJ.go 3 [(8, .int .i64 (IntKind.wrap .i64 (s36 + 1))), (29, .int .i64 (IntKind.wrap .i64 (s36 + 1))), (28, .int .i64 s36)] <| OJ.nil <| SJ.inBlock <| SJ.at_ [0, 1, 7, 8] rfl
  ·refine SJ.exit (id := 2) (by rfl) <| SJ.less [0, 1, 7, 8] (m' := [(0, .string a0), (1, .int .i64 s1), (7, Sl.v s2), (8, .int .i64 s36)]) ?_
   refine SJ.done ?_
   exact weirref4_dotted.K1_ok a0 s1 s2 s36
noncomputable def weirref4_dotted.L1 (a0 : ByteArray) (s1 : Int) (s2 : Sl) : M (LS (Int × Sl) (Sl × Int × Int)) :=
 if (s2.len : Int) < 4 then
  loopM (fun s_ : Int => weirref4_dotted.L2 a0 s1 s2 s_) s1
 else
  if s1 < (a0.size : Int) then
   pure (LS.done (Sl.nil, 41, s1))
  else
   pure (LS.done (s2, 0, 0))
theorem weirref4_dotted.L1_ok (a0 : ByteArray) (s1 : Int) (s2 : Sl) :
  SJ weirref4_dotted.cx [.code (c1 (c1 (c1 (c2 (c2 weirref4_dotted.B))))), .inLoop (c1 (c1 (c1 (c2 (c2 weirref4_dotted.B))))), .inBlock 0, .code (c2 (c2 (c2 weirref4_dotted.B)))] [(0, .string a0), (1, .int .i64 s1), (7, Sl.v s2)] [] (weirref4_dotted.L1 a0 s1 s2) (weirref4_dotted.F1 a0) := by
 unfold weirref4_dotted.L1
 refine SJ.seq <| SJ.sr 3 <| OJ.go 3 [(16, .bool (decide ((s2.len : Int) < 4))), (15, .int .i64 (s2.len : Int)), (14, Sl.v s2)] <| OJ.nil <| SJ.cond (t := (.tmp 16)) (b := decide ((s2.len : Int) < 4)) decide_eq_true_iff (fun hc68 => ?_) (fun hc68 => ?_)
 ·exact SJ.skip <| SJ.block (id := 1) <| SJ.sr 2 <| OJ.go 2 [(8, .int .i64 s1), (17, .int .i64 s1)] <| OJ.nil <| SJ.seq <| SJ.block (id := 2) <| SJ.loop (fun s_ : Int => [(0, .string a0), (1, .int .i64 s1), (7, Sl.v s2), (8, .int .i64 s_)]) (fun s_ : Int => []) [0, 1, 7, 8] rfl (fun _ _ => rfl) (fun s_ => weirref4_dotted.L2_ok a0 s1 s2 s_)
 ·refine SJ.exit (id := 0) (by rfl) <| SJ.seq <| SJ.sr 4 <| OJ.go 4 [(80, .bool (decide (s1 < (a0.size : Int)))), (79, .int .i64 (a0.size : Int)), (78, .string a0), (77, .int .i64 s1)] <| OJ.nil <| SJ.cond (t := (.tmp 80)) (b := decide (s1 < (a0.size : Int))) decide_eq_true_iff (fun hc67 => ?_) (fun hc67 => ?_)
  ·exact SJ.sr 4 <| OJ.go 4 [(6, .int .i64 s1), (5, .int .i64 41), (4, Sl.v Sl.nil), (81, .int .i64 s1)] <| OJ.nil <| SJ.r3 (Sl.v Sl.nil) (.int .i64 41) (.int .i64 s1) rfl rfl
  ·exact SJ.skip <| SJ.sr 4 <| OJ.go 4 [(6, .int .i64 0), (5, .int .i64 0), (4, Sl.v s2), (82, Sl.v s2)] <| OJ.nil <| SJ.r3 (Sl.v s2) (.int .i64 0) (.int .i64 0) rfl rfl
noncomputable def weirref4_dotted (a0 : ByteArray) (a1 : Int) : M (Sl × Int × Int) :=
 loopM (fun s_ : (Int × Sl) => weirref4_dotted.L1 a0 s_.1 s_.2) (a1, Sl.nil)
theorem weirref4_dotted_ok (a0 : ByteArray) (a1 : Int) : Ref Tryd.prog 92 [.string a0, .int .i64 a1] (weirref4_dotted a0 a1) weirref4_dotted.out := by
 refine Ref.of (cd := weirref4_dotted.B) Tryd.func92 ?_
 show SJ weirref4_dotted.cx [.code weirref4_dotted.B] [(0, .string a0), (1, .int .i64 a1)] [] (weirref4_dotted a0 a1) weirref4_dotted.F0
 unfold weirref4_dotted
 exact SJ.sr 3 <| OJ.go 3 [(6, .int .i64 0), (5, .int .i64 0), (4, Sl.v Sl.nil)] <| OJ.nil <| SJ.sr 1 <| OJ.go 1 [(7, Sl.v Sl.nil)] <| OJ.nil <| SJ.seq <| SJ.block (id := 0) <| SJ.loop (fun s_ : (Int × Sl) => [(0, .string a0), (1, .int .i64 s_.1), (7, Sl.v s_.2)]) (fun s_ : (Int × Sl) => []) [0, 1, 7] rfl (fun _ _ => rfl) (fun s_ => weirref4_dotted.L1_ok a0 s_.1 s_.2)
end Go.Proofs.YtfgcobigollfjaaDoor.Lx
