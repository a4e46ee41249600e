/- Programs of the M-world for Go functions, each with the proof that the Go text does what it says. Printed by lxgen.py. -/
import Derived.Test.YtddmmgcfanpmmaaGreatDoorLxT
import Derived.Test.YtddmmgcfanpmmaaGreatDoorLxP0
import Derived.Test.YtddmmgcfanpmmaaGreatDoorLxP1
set_option linter.unusedVariables false
set_option linter.unusedSimpArgs false
namespace Go.Proofs.YtddmmgcfanpmmaaGreatDoor.Lx
open Go Go.Proofs
/-! ### internal/stringslite.Cut: function 98 -/
noncomputable def stringslite_Cut.B : Code := (Tryz.f98.body).getD .skip
noncomputable def stringslite_Cut.cx : Fx := ⟨Tryz.prog, 98, Tryz.f98⟩
noncomputable def stringslite_Cut.out (r_ : (ByteArray × ByteArray × Bool)) : Value := .tuple #[.string r_.1, .string r_.2.1, .bool r_.2.2]
noncomputable def stringslite_Cut.F0 (r_ : (ByteArray × ByteArray × Bool)) : Reach := .ret (stringslite_Cut.out r_)
noncomputable def stringslite_Cut (a0 : ByteArray) (a1 : ByteArray) : M (ByteArray × ByteArray × Bool) :=
  stringslite_Index a0 a1 >>= fun r1 =>
  if r1 ≥ 0 then
    draw >>= fun _ =>
    chk (0 ≤ (0 : Int) ∧ (0 : Int) ≤ r1 ∧ r1 ≤ (a0.size : Int)) >>= fun _ =>
    chk (0 ≤ ((IntKind.wrap .i64 (r1 + (a1.size : Int))) : Int) ∧ ((IntKind.wrap .i64 (r1 + (a1.size : Int))) : Int) ≤ (a0.size : Int) ∧ (a0.size : Int) ≤ (a0.size : Int)) >>= fun _ =>
    pure ((ByteArray.extract a0 (Int.toNat 0) (Int.toNat r1)), (ByteArray.extract a0 (Int.toNat (IntKind.wrap .i64 (r1 + (a1.size : Int)))) (Int.toNat (a0.size : Int))), true)
  else
    pure (a0, ByteArray.empty, false)
theorem stringslite_Cut_ok (a0 : ByteArray) (a1 : ByteArray) : Ref Tryz.prog 98 [.string a0, .string a1] (stringslite_Cut a0 a1) stringslite_Cut.out := by
  refine Ref.of (cd := stringslite_Cut.B) Tryz.func98 ?_
  show SJ stringslite_Cut.cx [.code stringslite_Cut.B] [(0, .string a0), (1, .string a1)] [] (stringslite_Cut a0 a1) stringslite_Cut.F0
  unfold stringslite_Cut
  refine SJ.sr 3 ?_
  refine OJ.go 3 [(6, .bool false), (5, .string ByteArray.empty), (4, .string ByteArray.empty)] ?_
  refine OJ.nil ?_
  refine SJ.seq ?_
  refine SJ.sr 4 ?_
  refine OJ.go 2 [(9, .string a1), (8, .string a0)] ?_
  refine OJ.call (d := 10) (g := 84) (ats := #[9, 9]) (args := [.tmp 8, .tmp 9]) (owed := []) F84 (stringslite_Index_ok a0 a1) (fun r1 => ?_)
  refine OW.nil ?_
  refine OJ.go 1 [(7, .int .i64 r1)] ?_
  refine OJ.nil ?_
  refine SJ.sr 2 ?_
  refine OJ.go 2 [(12, .bool (decide (r1 ≥ 0))), (11, .int .i64 r1)] ?_
  refine OJ.nil ?_
  refine SJ.cond (t := (.tmp 12)) (b := decide (r1 ≥ 0)) decide_eq_true_iff (fun hc2 => ?_) (fun hc2 => ?_)
  · refine SJ.seq ?_
    refine SJ.draw (id := 3) (kd := [0, 0, 0, 0, 0, 0, 0, 0, 0, 0, 0, 0]) (bef := [0, 0, 3, 0, 0, 0, 32, 112, 248, 7, 1023, 2047]) (ord := [0, 1, 2, 3, 4, 5, 6, 7, 8, 9, 10, 11]) mixed ?_
    refine OJ.go 2 [(14, .int .i64 r1), (13, .string a0)] ?_
    refine OJ.cutT (d := 15) (t := 9) (y := .tmp 13) (lo := none) (hi := (some (.tmp 14))) (lo' := none) (hi' := some (.i64, r1)) ?_
    refine OJ.go 5 [(20, .int .i64 (IntKind.wrap .i64 (r1 + (a1.size : Int)))), (19, .int .i64 (a1.size : Int)), (18, .string a1), (17, .int .i64 r1), (16, .string a0)] ?_
    refine OJ.cutT (d := 21) (t := 9) (y := .tmp 16) (lo := (some (.tmp 20))) (hi := none) (lo' := some (.i64, IntKind.wrap .i64 (r1 + (a1.size : Int)))) (hi' := none) ?_
    refine OJ.go 3 [(6, .bool true), (5, .string (ByteArray.extract a0 (Int.toNat (IntKind.wrap .i64 (r1 + (a1.size : Int)))) (Int.toNat (a0.size : Int)))), (4, .string (ByteArray.extract a0 (Int.toNat 0) (Int.toNat r1)))] ?_
    refine OJ.nil ?_
    exact SJ.ret rfl (Res.run (ys := [.string (ByteArray.extract a0 (Int.toNat 0) (Int.toNat r1)), .string (ByteArray.extract a0 (Int.toNat (IntKind.wrap .i64 (r1 + (a1.size : Int)))) (Int.toNat (a0.size : Int))), .bool true]) (.tmp (by kernel_rfl) (.tmp (by kernel_rfl) (.tmp (by kernel_rfl) .nil))) rfl)
  · refine SJ.skip ?_
    refine SJ.sr 4 ?_
    refine OJ.go 4 [(6, .bool false), (5, .string ByteArray.empty), (4, .string a0), (22, .string a0)] ?_
    refine OJ.nil ?_
    exact SJ.ret rfl (Res.run (ys := [.string a0, .string ByteArray.empty, .bool false]) (.tmp (by kernel_rfl) (.tmp (by kernel_rfl) (.tmp (by kernel_rfl) .nil))) rfl)

/-! ### strings.Cut: function 69 -/
noncomputable def strings_Cut.B : Code := (Tryz.f69.body).getD .skip
noncomputable def strings_Cut.cx : Fx := ⟨Tryz.prog, 69, Tryz.f69⟩
noncomputable def strings_Cut.out (r_ : (ByteArray × ByteArray × Bool)) : Value := .tuple #[.string r_.1, .string r_.2.1, .bool r_.2.2]
noncomputable def strings_Cut.F0 (r_ : (ByteArray × ByteArray × Bool)) : Reach := .ret (strings_Cut.out r_)
noncomputable def strings_Cut (a0 : ByteArray) (a1 : ByteArray) : M (ByteArray × ByteArray × Bool) :=
  stringslite_Cut a0 a1 >>= fun r1 =>
  pure (r1.1, r1.2.1, r1.2.2)
theorem strings_Cut_ok (a0 : ByteArray) (a1 : ByteArray) : Ref Tryz.prog 69 [.string a0, .string a1] (strings_Cut a0 a1) strings_Cut.out := by
  refine Ref.of (cd := strings_Cut.B) Tryz.func69 ?_
  show SJ strings_Cut.cx [.code strings_Cut.B] [(0, .string a0), (1, .string a1)] [] (strings_Cut a0 a1) strings_Cut.F0
  unfold strings_Cut
  refine SJ.sr 3 ?_
  refine OJ.go 3 [(6, .bool false), (5, .string ByteArray.empty), (4, .string ByteArray.empty)] ?_
  refine OJ.nil ?_
  refine SJ.sr 9 ?_
  refine OJ.go 2 [(8, .string a1), (7, .string a0)] ?_
  refine OJ.call (d := 9) (g := 98) (ats := #[9, 9]) (args := [.tmp 7, .tmp 8]) (owed := []) F98 (stringslite_Cut_ok a0 a1) (fun r1 => ?_)
  refine OW.nil ?_
  refine OJ.go 6 [(6, .bool r1.2.2), (5, .string r1.2.1), (4, .string r1.1), (12, .bool r1.2.2), (11, .string r1.2.1), (10, .string r1.1)] ?_
  refine OJ.nil ?_
  exact SJ.ret rfl (Res.run (ys := [.string r1.1, .string r1.2.1, .bool r1.2.2]) (.tmp (by kernel_rfl) (.tmp (by kernel_rfl) (.tmp (by kernel_rfl) .nil))) rfl)

/-! ### weir/addr.ValidPrefix: function 47 -/
noncomputable def addr_ValidPrefix.B : Code := (Tryz.f47.body).getD .skip
noncomputable def addr_ValidPrefix.cx : Fx := ⟨Tryz.prog, 47, Tryz.f47⟩
noncomputable def addr_ValidPrefix.out (r_ : Int) : Value := .int .i64 r_
noncomputable def addr_ValidPrefix.F0 (r_ : Int) : Reach := .ret (addr_ValidPrefix.out r_)
noncomputable def addr_ValidPrefix (a0 : api_Prefix) : M Int :=
  slot 38 >>= fun b1 =>
  addr_size a0.IP >>= fun r2 =>
  if r2 = 0 then
    pure 40
  else
    (if a0.Len < 0 then
        pure true
      else
        pure (decide (a0.Len > r2))) >>= fun y9 =>
    if y9 = true then
      pure 45
    else
      draw >>= fun _ =>
      addr_masked a0.IP.A a0.Len >>= fun r12 =>
      if ¬ (r12 = a0.IP.A) then
        pure 46
      else
        pure 0
theorem addr_ValidPrefix_ok (a0 : api_Prefix) : Ref Tryz.prog 47 [c_api_Prefix.val a0] (addr_ValidPrefix a0) addr_ValidPrefix.out := by
  refine Ref.of (cd := addr_ValidPrefix.B) Tryz.func47 ?_
  show SJ addr_ValidPrefix.cx [.code addr_ValidPrefix.B] [(0, c_api_Prefix.val a0)] [] (addr_ValidPrefix a0) addr_ValidPrefix.F0
  unfold addr_ValidPrefix
  refine SJ.sr 2 ?_
  refine OJ.slotOf (d := 1) (op := (.box 38 (.tmp 0))) (cd := c_api_Prefix) (u := a0) (owed := []) (box_run (by kernel_rfl)) (fun b1 => ?_)
  refine OW.nil ?_
  refine OJ.go 1 [(2, .int .i64 0)] ?_
  refine OJ.nil ?_
  refine SJ.seq ?_
  refine SJ.sr 4 ?_
  refine OJ.go 1 [(4, .pointer (some (pt b1 0)))] ?_
  refine OJ.kld (d := 5) (y := .tmp 4) (cd := c_api_IP) (j := 0) (b := b1) (o := 0) a0.IP (pend2 := []) Ty28 rfl (At_api_Prefix_IP a0) rfl ?_
  refine OJ.call (d := 6) (g := 32) (ats := #[28]) (args := [.tmp 5]) (owed := []) F32 (addr_size_ok a0.IP) (fun r2 => ?_)
  refine OW.nil ?_
  refine OJ.go 1 [(3, .int .i64 r2)] ?_
  refine OJ.nil ?_
  refine SJ.block (id := 0) ?_
  refine SJ.sr 3 ?_
  refine OJ.go 3 [(7, .bool (r2 == 0)), (9, .bool (r2 == 0)), (8, .int .i64 r2)] ?_
  refine OJ.nil ?_
  refine SJ.cond (t := (.tmp 7)) (b := (r2 == 0)) beq_iff_eq (fun hc15 => ?_) (fun hc15 => ?_)
  · refine SJ.sr 1 ?_
    refine OJ.go 1 [(2, .int .i64 40)] ?_
    refine OJ.nil ?_
    exact SJ.ret rfl (Res.run (ys := [.int .i64 40]) (.tmp (by kernel_rfl) .nil) rfl)
  · refine SJ.sr 10 ?_
    refine OJ.go 1 [(11, .pointer (some (pt b1 17)))] ?_
    refine OJ.kld (d := 12) (y := .tmp 11) (cd := (cI .i64)) (j := 0) (b := b1) (o := 17) a0.Len (pend2 := []) Ty3 rfl (At_api_Prefix_Len a0) rfl ?_
    refine OJ.go 2 [(14, .bool (decide (a0.Len < 0))), (13, .bool (decide (a0.Len < 0)))] ?_
    refine OJ.join (b := decide (a0.Len < 0)) [4, 5, 6, 7, 8] [9] [1, 19] (fun y9 => [(1, .pointer (some (pt b1 0))), (19, .bool y9)]) [] [] (t := 14) decide_eq_true_iff (fun hp_ => ?_) (fun hp_ => ?_) (fun _ _ _ _ _ _ h_ => h_) (fun y9 => ?_)
    · refine OJ.go 5 [(19, .bool true), (18, undef), (17, undef), (16, undef), (15, undef)] ?_
      exact OJ.nil ⟨(Cov.mem Cov.nil), rfl, _, rfl, by kernel_rfl⟩
    · refine OJ.go 1 [(15, .pointer (some (pt b1 17)))] ?_
      refine OJ.kld (d := 16) (y := .tmp 15) (cd := (cI .i64)) (j := 0) (b := b1) (o := 17) a0.Len (pend2 := []) Ty3 rfl (At_api_Prefix_Len a0) rfl ?_
      refine OJ.go 3 [(19, .bool (decide (a0.Len > r2))), (18, .bool (decide (a0.Len > r2))), (17, .int .i64 r2)] ?_
      exact OJ.nil ⟨(Cov.mem Cov.nil), rfl, _, rfl, by kernel_rfl⟩
    · refine OJ.go 1 [(10, .bool y9)] ?_
      refine OJ.nil ?_
      refine SJ.cond (t := (.tmp 10)) (b := y9) Iff.rfl (fun hc14 => ?_) (fun hc14 => ?_)
      · refine SJ.sr 1 ?_
        refine OJ.go 1 [(2, .int .i64 45)] ?_
        refine OJ.nil ?_
        exact SJ.ret rfl (Res.run (ys := [.int .i64 45]) (.tmp (by kernel_rfl) .nil) rfl)
      · refine SJ.seq ?_
        refine SJ.draw (id := 6) (kd := [0, 0, 1, 0, 1, 2, 0, 0, 1, 0, 0]) (bef := [0, 1, 3, 0, 8, 31, 0, 64, 192, 511, 1023]) (ord := [0, 1, 2, 3, 4, 6, 7, 8, 5, 9, 10]) mixed ?_
        refine OJ.go 2 [(22, .pointer (some (pt b1 1))), (21, .pointer (some (pt b1 0)))] ?_
        refine OJ.kld (d := 23) (y := .tmp 22) (cd := ((cI .u8).arr 16)) (j := 0) (b := b1) (o := 1) a0.IP.A (pend2 := [⟨2, 26, (pt b1 1), ((cI .u8).arr 16).val a0.IP.A⟩]) Ty26 rfl (At.trans (At_api_Prefix_IP a0) (At_api_IP_A a0.IP)) rfl ?_
        refine OJ.go 1 [(24, .pointer (some (pt b1 17)))] ?_
        refine OJ.kld (d := 25) (y := .tmp 24) (cd := (cI .i64)) (j := 0) (b := b1) (o := 17) a0.Len (pend2 := [⟨4, 3, (pt b1 17), (cI .i64).val a0.Len⟩, ⟨2, 26, (pt b1 1), ((cI .u8).arr 16).val a0.IP.A⟩]) Ty3 rfl (At_api_Prefix_Len a0) rfl ?_
        refine OJ.go 2 [(28, .pointer (some (pt b1 1))), (27, .pointer (some (pt b1 0)))] ?_
        refine OJ.kld (d := 29) (y := .tmp 28) (cd := ((cI .u8).arr 16)) (j := 0) (b := b1) (o := 1) a0.IP.A (pend2 := [⟨8, 26, (pt b1 1), ((cI .u8).arr 16).val a0.IP.A⟩, ⟨4, 3, (pt b1 17), (cI .i64).val a0.Len⟩, ⟨2, 26, (pt b1 1), ((cI .u8).arr 16).val a0.IP.A⟩]) Ty26 rfl (At.trans (At_api_Prefix_IP a0) (At_api_IP_A a0.IP)) rfl ?_
        refine OJ.call (d := 26) (g := 20) (ats := #[26, 3]) (args := [.tmp 23, .tmp 25]) (owed := [⟨8, 26, (pt b1 1), ((cI .u8).arr 16).val a0.IP.A⟩]) F20 (addr_masked_ok a0.IP.A a0.Len) (fun r12 => ?_)
        refine OW.known (j := 0) (q := a0.IP.A) Ty26 rfl (At.trans (At_api_Prefix_IP a0) (At_api_IP_A a0.IP)) ?_
        refine OW.nil ?_
        refine OJ.neq (d := 30) (T := 26) (yT := 26) (y := .tmp 26) (z := .tmp 29) (cd := ((cI .u8).arr 16)) (p := r12) (q := a0.IP.A) rfl Eq26 ?_
        refine OJ.go 1 [(20, .bool (!eqv r12 a0.IP.A))] ?_
        refine OJ.nil ?_
        refine SJ.cond (t := (.tmp 20)) (b := (!eqv r12 a0.IP.A)) (bnot_iff eqv_iff) (fun hc13 => ?_) (fun hc13 => ?_)
        · refine SJ.sr 1 ?_
          refine OJ.go 1 [(2, .int .i64 46)] ?_
          refine OJ.nil ?_
          exact SJ.ret rfl (Res.run (ys := [.int .i64 46]) (.tmp (by kernel_rfl) .nil) rfl)
        · refine SJ.skip ?_
          refine SJ.inBlock ?_
          refine SJ.sr 1 ?_
          refine OJ.go 1 [(2, .int .i64 0)] ?_
          refine OJ.nil ?_
          exact SJ.ret rfl (Res.run (ys := [.int .i64 0]) (.tmp (by kernel_rfl) .nil) rfl)

/-! ### weir/weirref4.width: function 73 -/
noncomputable def weirref4_width.B : Code := (Tryz.f73.body).getD .skip
noncomputable def weirref4_width.cx : Fx := ⟨Tryz.prog, 73, Tryz.f73⟩
noncomputable def weirref4_width.out (r_ : Int) : Value := .int .i64 r_
noncomputable def weirref4_width.F0 (r_ : Int) : Reach := .ret (weirref4_width.out r_)
noncomputable def weirref4_width (a0 : api_IP) : M Int :=
  slot 28 >>= fun b1 =>
  if a0.V = 4 then
    pure 32
  else
    pure 128
theorem weirref4_width_ok (a0 : api_IP) : Ref Tryz.prog 73 [c_api_IP.val a0] (weirref4_width a0) weirref4_width.out := by
  refine Ref.of (cd := weirref4_width.B) Tryz.func73 ?_
  show SJ weirref4_width.cx [.code weirref4_width.B] [(0, c_api_IP.val a0)] [] (weirref4_width a0) weirref4_width.F0
  unfold weirref4_width
  refine SJ.sr 2 ?_
  refine OJ.slotOf (d := 1) (op := (.box 28 (.tmp 0))) (cd := c_api_IP) (u := a0) (owed := []) (box_run (by kernel_rfl)) (fun b1 => ?_)
  refine OW.nil ?_
  refine OJ.go 1 [(2, .int .i64 0)] ?_
  refine OJ.nil ?_
  refine SJ.seq ?_
  refine SJ.sr 3 ?_
  refine OJ.go 1 [(3, .pointer (some (pt b1 0)))] ?_
  refine OJ.kld (d := 4) (y := .tmp 3) (cd := (cI .i64)) (j := 0) (b := b1) (o := 0) a0.V (pend2 := []) Ty3 rfl (At_api_IP_V a0) rfl ?_
  refine OJ.go 1 [(5, .bool (a0.V == 4))] ?_
  refine OJ.nil ?_
  refine SJ.cond (t := (.tmp 5)) (b := (a0.V == 4)) beq_iff_eq (fun hc2 => ?_) (fun hc2 => ?_)
  · refine SJ.sr 1 ?_
    refine OJ.go 1 [(2, .int .i64 32)] ?_
    refine OJ.nil ?_
    exact SJ.ret rfl (Res.run (ys := [.int .i64 32]) (.tmp (by kernel_rfl) .nil) rfl)
  · refine SJ.skip ?_
    refine SJ.sr 1 ?_
    refine OJ.go 1 [(2, .int .i64 128)] ?_
    refine OJ.nil ?_
    exact SJ.ret rfl (Res.run (ys := [.int .i64 128]) (.tmp (by kernel_rfl) .nil) rfl)

/-! ### weir/weirref4.Valid: function 46 -/
noncomputable def weirref4_Valid.B : Code := (Tryz.f46.body).getD .skip
noncomputable def weirref4_Valid.cx : Fx := ⟨Tryz.prog, 46, Tryz.f46⟩
noncomputable def weirref4_Valid.out (r_ : Bool) : Value := .bool r_
noncomputable def weirref4_Valid.F0 (r_ : Bool) : Reach := .ret (weirref4_Valid.out r_)
noncomputable def weirref4_Valid.F1 (a0 : api_IP) (b1 : Nat) : (LS Int Bool) → Reach := loopF [.inLoop (c1 (c1 (c2 (c1 (c2 (c2 weirref4_Valid.B)))))), .inBlock 0, .code (c2 (c2 (c2 weirref4_Valid.B)))] (fun s_ : Int => [(1, .pointer (some (pt b1 0))), (3, .int .i64 s_)]) (fun s_ : Int => [(b1, c_api_IP.enc a0)]) weirref4_Valid.F0
noncomputable def weirref4_Valid.L1 (a0 : api_IP) (s2 : Int) : M (LS Int Bool) :=
  if s2 < 16 then
    chk ((0 : Int) ≤ s2 ∧ s2 < (16 : Nat)) >>= fun _ =>
    if (Vec.g a0.A s2 0) ≠ 0 then
      pure (LS.done false)
    else
      pure (LS.next (IntKind.wrap .i64 (s2 + 1)))
  else
    pure (LS.done true)
theorem weirref4_Valid.L1_ok (a0 : api_IP) (b1 : Nat) (s2 : Int) :
    SJ weirref4_Valid.cx [.code (c1 (c1 (c2 (c1 (c2 (c2 weirref4_Valid.B)))))), .inLoop (c1 (c1 (c2 (c1 (c2 (c2 weirref4_Valid.B)))))), .inBlock 0, .code (c2 (c2 (c2 weirref4_Valid.B)))] [(1, .pointer (some (pt b1 0))), (3, .int .i64 s2)] [(b1, c_api_IP.enc a0)] (weirref4_Valid.L1 a0 s2) (weirref4_Valid.F1 a0 b1) := by
  unfold weirref4_Valid.L1
  refine SJ.seq ?_
  refine SJ.sr 2 ?_
  refine OJ.go 2 [(11, .bool (decide (s2 < 16))), (10, .int .i64 s2)] ?_
  refine OJ.nil ?_
  refine SJ.cond (t := (.tmp 11)) (b := decide (s2 < 16)) decide_eq_true_iff (fun hc10 => ?_) (fun hc10 => ?_)
  · refine SJ.skip ?_
    refine SJ.seq ?_
    refine SJ.block (id := 1) ?_
    refine SJ.sr 5 ?_
    refine OJ.go 2 [(15, .pointer (some (pt b1 1))), (14, .int .i64 s2)] ?_
    refine OJ.idxK (d := 16) (T := 26) (y := .tmp 15) (j := .tmp 14) (E := 5) (sz := 1) (b := b1) (o := 1) (k := .i64) (fun hb7 hb8 => ?_)
    refine OJ.kld (d := 17) (y := .tmp 16) (cd := (cI .u8)) (j := 0) (b := b1) (o := (1 + s2.toNat * 1)) (Vec.g a0.A s2 0) (pend2 := []) Ty5 rfl (At.trans (At_api_IP_A a0) (At.arr (z := 0) hb7 hb8)) rfl ?_
    refine OJ.go 1 [(18, .bool ((Vec.g a0.A s2 0) != 0))] ?_
    refine OJ.nil ?_
    refine SJ.cond (t := (.tmp 18)) (b := ((Vec.g a0.A s2 0) != 0)) bne_iff_ne (fun hc9 => ?_) (fun hc9 => ?_)
    · refine SJ.sr 1 ?_
      refine OJ.go 1 [(2, .bool false)] ?_
      refine OJ.nil ?_
      exact SJ.ret rfl (Res.run (ys := [.bool false]) (.tmp (by kernel_rfl) .nil) rfl)
    · refine SJ.skip ?_
      refine SJ.inBlock ?_
      refine SJ.rg 3 ?_
      refine OJ.go 3 [(3, .int .i64 (IntKind.wrap .i64 (s2 + 1))), (13, .int .i64 (IntKind.wrap .i64 (s2 + 1))), (12, .int .i64 s2)] ?_
      refine OJ.nil ?_
      exact SJ.at_ [1, 3] rfl
  · refine SJ.exit (id := 0) (by rfl) ?_
    refine SJ.sr 1 ?_
    refine OJ.go 1 [(2, .bool true)] ?_
    refine OJ.nil ?_
    exact SJ.ret rfl (Res.run (ys := [.bool true]) (.tmp (by kernel_rfl) .nil) rfl)
noncomputable def weirref4_Valid (a0 : api_IP) : M Bool :=
  slot 28 >>= fun b1 =>
  if a0.V ≠ 4 then
    pure (a0.V == 6)
  else
    loopM (fun s_ : Int => weirref4_Valid.L1 a0 s_) 4
theorem weirref4_Valid_ok (a0 : api_IP) : Ref Tryz.prog 46 [c_api_IP.val a0] (weirref4_Valid a0) weirref4_Valid.out := by
  refine Ref.of (cd := weirref4_Valid.B) Tryz.func46 ?_
  show SJ weirref4_Valid.cx [.code weirref4_Valid.B] [(0, c_api_IP.val a0)] [] (weirref4_Valid a0) weirref4_Valid.F0
  unfold weirref4_Valid
  refine SJ.sr 2 ?_
  refine OJ.slotOf (d := 1) (op := (.box 28 (.tmp 0))) (cd := c_api_IP) (u := a0) (owed := []) (box_run (by kernel_rfl)) (fun b1 => ?_)
  refine OW.nil ?_
  refine OJ.go 1 [(2, .bool false)] ?_
  refine OJ.nil ?_
  refine SJ.seq ?_
  refine SJ.sr 3 ?_
  refine OJ.go 1 [(4, .pointer (some (pt b1 0)))] ?_
  refine OJ.kld (d := 5) (y := .tmp 4) (cd := (cI .i64)) (j := 0) (b := b1) (o := 0) a0.V (pend2 := []) Ty3 rfl (At_api_IP_V a0) rfl ?_
  refine OJ.go 1 [(6, .bool (a0.V != 4))] ?_
  refine OJ.nil ?_
  refine SJ.cond (t := (.tmp 6)) (b := (a0.V != 4)) bne_iff_ne (fun hc11 => ?_) (fun hc11 => ?_)
  · refine SJ.sr 4 ?_
    refine OJ.go 1 [(7, .pointer (some (pt b1 0)))] ?_
    refine OJ.kld (d := 8) (y := .tmp 7) (cd := (cI .i64)) (j := 0) (b := b1) (o := 0) a0.V (pend2 := []) Ty3 rfl (At_api_IP_V a0) rfl ?_
    refine OJ.go 2 [(2, .bool (a0.V == 6)), (9, .bool (a0.V == 6))] ?_
    refine OJ.nil ?_
    exact SJ.ret rfl (Res.run (ys := [.bool (a0.V == 6)]) (.tmp (by kernel_rfl) .nil) rfl)
  · refine SJ.skip ?_
    refine SJ.seq ?_
    refine SJ.sr 1 ?_
    refine OJ.go 1 [(3, .int .i64 4)] ?_
    refine OJ.nil ?_
    refine SJ.block (id := 0) ?_
    exact SJ.loop (fun s_ : Int => [(1, .pointer (some (pt b1 0))), (3, .int .i64 s_)]) (fun s_ : Int => [(b1, c_api_IP.enc a0)]) [1, 3] rfl (fun _ _ => rfl) (fun s_ => weirref4_Valid.L1_ok a0 b1 s_)

/-! ### weir/weirref4.bit: function 82 -/
noncomputable def weirref4_bit.B : Code := (Tryz.f82.body).getD .skip
noncomputable def weirref4_bit.cx : Fx := ⟨Tryz.prog, 82, Tryz.f82⟩
noncomputable def weirref4_bit.out (r_ : Int) : Value := .int .i64 r_
noncomputable def weirref4_bit.F0 (r_ : Int) : Reach := .ret (weirref4_bit.out r_)
noncomputable def weirref4_bit.F1  : (LS (Int × Int) Int) → Reach := loopF [.inLoop (c1 (c1 (c2 (c1 (c2 (c2 weirref4_bit.B)))))), .inBlock 0, .code (c2 (c2 (c2 weirref4_bit.B)))] (fun s_ : (Int × Int) => [(5, .int .i64 s_.1), (6, .int .i64 s_.2)]) (fun s_ : (Int × Int) => []) weirref4_bit.F0
noncomputable def weirref4_bit.L1 (s4 : Int) (s5 : Int) : M (LS (Int × Int) Int) :=
  if s5 < 7 then
    pure (LS.next (IntKind.wrap .i64 (Int.tdiv s4 2), IntKind.wrap .i64 (s5 + 1)))
  else
    pure (LS.done (Int.tmod s4 2))
theorem weirref4_bit.L1_ok (s4 : Int) (s5 : Int) :
    SJ weirref4_bit.cx [.code (c1 (c1 (c2 (c1 (c2 (c2 weirref4_bit.B)))))), .inLoop (c1 (c1 (c2 (c1 (c2 (c2 weirref4_bit.B)))))), .inBlock 0, .code (c2 (c2 (c2 weirref4_bit.B)))] [(5, .int .i64 s4), (6, .int .i64 s5)] [] (weirref4_bit.L1 s4 s5) weirref4_bit.F1 := by
  unfold weirref4_bit.L1
  refine SJ.seq ?_
  refine SJ.sr 2 ?_
  refine OJ.go 2 [(16, .bool (decide (s5 < 7))), (15, .int .i64 s5)] ?_
  refine OJ.nil ?_
  refine SJ.cond (t := (.tmp 16)) (b := decide (s5 < 7)) decide_eq_true_iff (fun hc7 => ?_) (fun hc7 => ?_)
  · refine SJ.skip ?_
    refine SJ.seq ?_
    refine SJ.block (id := 1) ?_
    refine SJ.rg 3 ?_
    refine OJ.go 3 [(5, .int .i64 (IntKind.wrap .i64 (Int.tdiv s4 2))), (20, .int .i64 (IntKind.wrap .i64 (Int.tdiv s4 2))), (19, .int .i64 s4)] ?_
    refine OJ.nil ?_
    refine SJ.inBlock ?_
    refine SJ.rg 3 ?_
    refine OJ.go 3 [(6, .int .i64 (IntKind.wrap .i64 (s5 + 1))), (18, .int .i64 (IntKind.wrap .i64 (s5 + 1))), (17, .int .i64 s5)] ?_
    refine OJ.nil ?_
    exact SJ.at_ [5, 6] rfl
  · refine SJ.exit (id := 0) (by rfl) ?_
    refine SJ.sr 3 ?_
    refine OJ.go 3 [(4, .int .i64 (Int.tmod s4 2)), (22, .int .i64 (Int.tmod s4 2)), (21, .int .i64 s4)] ?_
    refine OJ.nil ?_
    exact SJ.ret rfl (Res.run (ys := [.int .i64 (Int.tmod s4 2)]) (.tmp (by kernel_rfl) .nil) rfl)
noncomputable def weirref4_bit (a0 : api_IP) (a1 : Int) : M Int :=
  slot 28 >>= fun b1 =>
  chk ((0 : Int) ≤ (IntKind.wrap .i64 (Int.tdiv a1 8)) ∧ (IntKind.wrap .i64 (Int.tdiv a1 8)) < (16 : Nat)) >>= fun _ =>
  loopM (fun s_ : (Int × Int) => weirref4_bit.L1 s_.1 s_.2) (IntKind.wrap .i64 (Vec.g a0.A (IntKind.wrap .i64 (Int.tdiv a1 8)) 0), Int.tmod a1 8)
theorem weirref4_bit_ok (a0 : api_IP) (a1 : Int) : Ref Tryz.prog 82 [c_api_IP.val a0, .int .i64 a1] (weirref4_bit a0 a1) weirref4_bit.out := by
  refine Ref.of (cd := weirref4_bit.B) Tryz.func82 ?_
  show SJ weirref4_bit.cx [.code weirref4_bit.B] [(0, c_api_IP.val a0), (1, .int .i64 a1)] [] (weirref4_bit a0 a1) weirref4_bit.F0
  unfold weirref4_bit
  refine SJ.sr 2 ?_
  refine OJ.slotOf (d := 2) (op := (.box 28 (.tmp 0))) (cd := c_api_IP) (u := a0) (owed := []) (box_run (by kernel_rfl)) (fun b1 => ?_)
  refine OW.nil ?_
  refine OJ.go 1 [(4, .int .i64 0)] ?_
  refine OJ.nil ?_
  refine SJ.sr 7 ?_
  refine OJ.go 3 [(9, .pointer (some (pt b1 1))), (8, .int .i64 (IntKind.wrap .i64 (Int.tdiv a1 8))), (7, .int .i64 a1)] ?_
  refine OJ.idxK (d := 10) (T := 26) (y := .tmp 9) (j := .tmp 8) (E := 5) (sz := 1) (b := b1) (o := 1) (k := .i64) (fun hb2 hb3 => ?_)
  refine OJ.kld (d := 11) (y := .tmp 10) (cd := (cI .u8)) (j := 0) (b := b1) (o := (1 + (IntKind.wrap .i64 (Int.tdiv a1 8)).toNat * 1)) (Vec.g a0.A (IntKind.wrap .i64 (Int.tdiv a1 8)) 0) (pend2 := []) Ty5 rfl (At.trans (At_api_IP_A a0) (At.arr (z := 0) hb2 hb3)) rfl ?_
  refine OJ.go 2 [(5, .int .i64 (IntKind.wrap .i64 (Vec.g a0.A (IntKind.wrap .i64 (Int.tdiv a1 8)) 0))), (12, .int .i64 (IntKind.wrap .i64 (Vec.g a0.A (IntKind.wrap .i64 (Int.tdiv a1 8)) 0)))] ?_
  refine OJ.nil ?_
  refine SJ.seq ?_
  refine SJ.sr 3 ?_
  refine OJ.go 3 [(6, .int .i64 (Int.tmod a1 8)), (14, .int .i64 (Int.tmod a1 8)), (13, .int .i64 a1)] ?_
  refine OJ.nil ?_
  refine SJ.block (id := 0) ?_
  refine SJ.forget (List.Sublist.cons _ List.Sublist.slnil) ?_
  exact SJ.loop (fun s_ : (Int × Int) => [(5, .int .i64 s_.1), (6, .int .i64 s_.2)]) (fun s_ : (Int × Int) => []) [5, 6] rfl (fun _ _ => rfl) (fun s_ => weirref4_bit.L1_ok s_.1 s_.2)

/-! ### weir/weirref4.ValidPrefix: function 48 -/
noncomputable def weirref4_ValidPrefix.B : Code := (Tryz.f48.body).getD .skip
noncomputable def weirref4_ValidPrefix.cx : Fx := ⟨Tryz.prog, 48, Tryz.f48⟩
noncomputable def weirref4_ValidPrefix.out (r_ : Int) : Value := .int .i64 r_
noncomputable def weirref4_ValidPrefix.F0 (r_ : Int) : Reach := .ret (weirref4_ValidPrefix.out r_)
noncomputable def weirref4_ValidPrefix.F1 (a0 : api_Prefix) (b1 : Nat) (r3 : Int) : (LS Int Int) → Reach := loopF [.inLoop (c1 (c1 (c2 (c1 (c2 (c2 (c2 (c2 (c2 weirref4_ValidPrefix.B))))))))), .inBlock 0, .code (c2 (c2 (c2 (c2 (c2 (c2 weirref4_ValidPrefix.B))))))] (fun s_ : Int => [(1, .pointer (some (pt b1 0))), (4, .int .i64 r3), (5, .int .i64 s_)]) (fun s_ : Int => [(b1, c_api_Prefix.enc a0)]) weirref4_ValidPrefix.F0
noncomputable def weirref4_ValidPrefix.L1 (a0 : api_Prefix) (r3 : Int) (s5 : Int) : M (LS Int Int) :=
  if s5 < r3 then
    weirref4_bit a0.IP s5 >>= fun r9 =>
    if r9 = 1 then
      pure (LS.done 46)
    else
      pure (LS.next (IntKind.wrap .i64 (s5 + 1)))
  else
    pure (LS.done 0)
theorem weirref4_ValidPrefix.L1_ok (a0 : api_Prefix) (b1 : Nat) (r3 : Int) (s5 : Int) :
    SJ weirref4_ValidPrefix.cx [.code (c1 (c1 (c2 (c1 (c2 (c2 (c2 (c2 (c2 weirref4_ValidPrefix.B))))))))), .inLoop (c1 (c1 (c2 (c1 (c2 (c2 (c2 (c2 (c2 weirref4_ValidPrefix.B))))))))), .inBlock 0, .code (c2 (c2 (c2 (c2 (c2 (c2 weirref4_ValidPrefix.B))))))] [(1, .pointer (some (pt b1 0))), (4, .int .i64 r3), (5, .int .i64 s5)] [(b1, c_api_Prefix.enc a0)] (weirref4_ValidPrefix.L1 a0 r3 s5) (weirref4_ValidPrefix.F1 a0 b1 r3) := by
  unfold weirref4_ValidPrefix.L1
  refine SJ.seq ?_
  refine SJ.sr 3 ?_
  refine OJ.go 3 [(27, .bool (decide (s5 < r3))), (26, .int .i64 r3), (25, .int .i64 s5)] ?_
  refine OJ.nil ?_
  refine SJ.cond (t := (.tmp 27)) (b := decide (s5 < r3)) decide_eq_true_iff (fun hc11 => ?_) (fun hc11 => ?_)
  · refine SJ.skip ?_
    refine SJ.seq ?_
    refine SJ.block (id := 1) ?_
    refine SJ.sr 5 ?_
    refine OJ.go 1 [(30, .pointer (some (pt b1 0)))] ?_
    refine OJ.kld (d := 31) (y := .tmp 30) (cd := c_api_IP) (j := 0) (b := b1) (o := 0) a0.IP (pend2 := []) Ty28 rfl (At_api_Prefix_IP a0) rfl ?_
    refine OJ.go 1 [(32, .int .i64 s5)] ?_
    refine OJ.call (d := 33) (g := 82) (ats := #[28, 3]) (args := [.tmp 31, .tmp 32]) (owed := []) F82 (weirref4_bit_ok a0.IP s5) (fun r9 => ?_)
    refine OW.nil ?_
    refine OJ.go 1 [(34, .bool (r9 == 1))] ?_
    refine OJ.nil ?_
    refine SJ.cond (t := (.tmp 34)) (b := (r9 == 1)) beq_iff_eq (fun hc10 => ?_) (fun hc10 => ?_)
    · refine SJ.sr 1 ?_
      refine OJ.go 1 [(2, .int .i64 46)] ?_
      refine OJ.nil ?_
      exact SJ.ret rfl (Res.run (ys := [.int .i64 46]) (.tmp (by kernel_rfl) .nil) rfl)
    · refine SJ.skip ?_
      refine SJ.inBlock ?_
      refine SJ.rg 3 ?_
      refine OJ.go 3 [(5, .int .i64 (IntKind.wrap .i64 (s5 + 1))), (29, .int .i64 (IntKind.wrap .i64 (s5 + 1))), (28, .int .i64 s5)] ?_
      refine OJ.nil ?_
      exact SJ.at_ [1, 4, 5] rfl
  · refine SJ.exit (id := 0) (by rfl) ?_
    refine SJ.sr 1 ?_
    refine OJ.go 1 [(2, .int .i64 0)] ?_
    refine OJ.nil ?_
    exact SJ.ret rfl (Res.run (ys := [.int .i64 0]) (.tmp (by kernel_rfl) .nil) rfl)
noncomputable def weirref4_ValidPrefix (a0 : api_Prefix) : M Int :=
  slot 38 >>= fun b1 =>
  weirref4_Valid a0.IP >>= fun r2 =>
  if ¬ (r2 = true) then
    pure 40
  else
    weirref4_width a0.IP >>= fun r3 =>
    (if a0.Len < 0 then
        pure true
      else
        pure (decide (a0.Len > r3))) >>= fun y4 =>
    if y4 = true then
      pure 45
    else
      loopM (fun s_ : Int => weirref4_ValidPrefix.L1 a0 r3 s_) a0.Len
theorem weirref4_ValidPrefix_ok (a0 : api_Prefix) : Ref Tryz.prog 48 [c_api_Prefix.val a0] (weirref4_ValidPrefix a0) weirref4_ValidPrefix.out := by
  refine Ref.of (cd := weirref4_ValidPrefix.B) Tryz.func48 ?_
  show SJ weirref4_ValidPrefix.cx [.code weirref4_ValidPrefix.B] [(0, c_api_Prefix.val a0)] [] (weirref4_ValidPrefix a0) weirref4_ValidPrefix.F0
  unfold weirref4_ValidPrefix
  refine SJ.sr 2 ?_
  refine OJ.slotOf (d := 1) (op := (.box 38 (.tmp 0))) (cd := c_api_Prefix) (u := a0) (owed := []) (box_run (by kernel_rfl)) (fun b1 => ?_)
  refine OW.nil ?_
  refine OJ.go 1 [(2, .int .i64 0)] ?_
  refine OJ.nil ?_
  refine SJ.sr 4 ?_
  refine OJ.go 1 [(6, .pointer (some (pt b1 0)))] ?_
  refine OJ.kld (d := 7) (y := .tmp 6) (cd := c_api_IP) (j := 0) (b := b1) (o := 0) a0.IP (pend2 := []) Ty28 rfl (At_api_Prefix_IP a0) rfl ?_
  refine OJ.call (d := 8) (g := 46) (ats := #[28]) (args := [.tmp 7]) (owed := []) F46 (weirref4_Valid_ok a0.IP) (fun r2 => ?_)
  refine OW.nil ?_
  refine OJ.go 1 [(3, .bool r2)] ?_
  refine OJ.nil ?_
  refine SJ.seq ?_
  refine SJ.sr 2 ?_
  refine OJ.go 2 [(10, .bool (!r2)), (9, .bool r2)] ?_
  refine OJ.nil ?_
  refine SJ.cond (t := (.tmp 10)) (b := (!r2)) (bnot_iff Iff.rfl) (fun hc13 => ?_) (fun hc13 => ?_)
  · refine SJ.sr 1 ?_
    refine OJ.go 1 [(2, .int .i64 40)] ?_
    refine OJ.nil ?_
    exact SJ.ret rfl (Res.run (ys := [.int .i64 40]) (.tmp (by kernel_rfl) .nil) rfl)
  · refine SJ.skip ?_
    refine SJ.sr 4 ?_
    refine OJ.go 1 [(11, .pointer (some (pt b1 0)))] ?_
    refine OJ.kld (d := 12) (y := .tmp 11) (cd := c_api_IP) (j := 0) (b := b1) (o := 0) a0.IP (pend2 := []) Ty28 rfl (At_api_Prefix_IP a0) rfl ?_
    refine OJ.call (d := 13) (g := 73) (ats := #[28]) (args := [.tmp 12]) (owed := []) F73 (weirref4_width_ok a0.IP) (fun r3 => ?_)
    refine OW.nil ?_
    refine OJ.go 1 [(4, .int .i64 r3)] ?_
    refine OJ.nil ?_
    refine SJ.seq ?_
    refine SJ.sr 9 ?_
    refine OJ.go 1 [(14, .pointer (some (pt b1 17)))] ?_
    refine OJ.kld (d := 15) (y := .tmp 14) (cd := (cI .i64)) (j := 0) (b := b1) (o := 17) a0.Len (pend2 := []) Ty3 rfl (At_api_Prefix_Len a0) rfl ?_
    refine OJ.go 2 [(17, .bool (decide (a0.Len < 0))), (16, .bool (decide (a0.Len < 0)))] ?_
    refine OJ.join (b := decide (a0.Len < 0)) [4, 5, 6, 7, 8] [] [1, 4, 22] (fun y4 => [(1, .pointer (some (pt b1 0))), (4, .int .i64 r3), (22, .bool y4)]) [] [] (t := 17) decide_eq_true_iff (fun hp_ => ?_) (fun hp_ => ?_) (fun _ _ _ _ _ _ h_ => h_) (fun y4 => ?_)
    · refine OJ.go 5 [(22, .bool true), (21, undef), (20, undef), (19, undef), (18, undef)] ?_
      exact OJ.nil ⟨(Cov.mem Cov.nil), rfl, _, rfl, by kernel_rfl⟩
    · refine OJ.go 1 [(18, .pointer (some (pt b1 17)))] ?_
      refine OJ.kld (d := 19) (y := .tmp 18) (cd := (cI .i64)) (j := 0) (b := b1) (o := 17) a0.Len (pend2 := []) Ty3 rfl (At_api_Prefix_Len a0) rfl ?_
      refine OJ.go 3 [(22, .bool (decide (a0.Len > r3))), (21, .bool (decide (a0.Len > r3))), (20, .int .i64 r3)] ?_
      exact OJ.nil ⟨(Cov.mem Cov.nil), rfl, _, rfl, by kernel_rfl⟩
    · refine OJ.nil ?_
      refine SJ.cond (t := (.tmp 22)) (b := y4) Iff.rfl (fun hc12 => ?_) (fun hc12 => ?_)
      · refine SJ.sr 1 ?_
        refine OJ.go 1 [(2, .int .i64 45)] ?_
        refine OJ.nil ?_
        exact SJ.ret rfl (Res.run (ys := [.int .i64 45]) (.tmp (by kernel_rfl) .nil) rfl)
      · refine SJ.skip ?_
        refine SJ.seq ?_
        refine SJ.sr 3 ?_
        refine OJ.go 1 [(23, .pointer (some (pt b1 17)))] ?_
        refine OJ.kld (d := 24) (y := .tmp 23) (cd := (cI .i64)) (j := 0) (b := b1) (o := 17) a0.Len (pend2 := []) Ty3 rfl (At_api_Prefix_Len a0) rfl ?_
        refine OJ.go 1 [(5, .int .i64 a0.Len)] ?_
        refine OJ.nil ?_
        refine SJ.block (id := 0) ?_
        exact SJ.loop (fun s_ : Int => [(1, .pointer (some (pt b1 0))), (4, .int .i64 r3), (5, .int .i64 s_)]) (fun s_ : Int => [(b1, c_api_Prefix.enc a0)]) [1, 4, 5] rfl (fun _ _ => rfl) (fun s_ => weirref4_ValidPrefix.L1_ok a0 b1 r3 s_)

/-! ### weir/weirref4.number: function 80 -/
noncomputable def weirref4_number.B : Code := (Tryz.f80.body).getD .skip
noncomputable def weirref4_number.cx : Fx := ⟨Tryz.prog, 80, Tryz.f80⟩
noncomputable def weirref4_number.out (r_ : ByteArray) : Value := .string r_
noncomputable def weirref4_number.F0 (r_ : ByteArray) : Reach := .ret (weirref4_number.out r_)
noncomputable def weirref4_number.body (rec_ : Int → M ByteArray) (a0 : Int) : M ByteArray :=
  if a0 < 10 then
    newv 5 ((cI .u8).arr 1) (⟨[IntKind.wrap .u8 (IntKind.wrap .i64 (48 + a0))], rfl⟩ : Vec Int 1) >>= fun b3 =>
    toStr (⟨some (pt b3 0), 1, 1⟩ : Sl) >>= fun r4 =>
    pure r4
  else
    draws 80 3 (opsOf (c1 (c2 (c2 weirref4_number.B)))) >>= fun o5 =>
    if bfr o5 2 7 = true then
      rec_ (IntKind.wrap .i64 (Int.tdiv a0 10)) >>= fun r18 =>
      newv 5 ((cI .u8).arr 1) (⟨[IntKind.wrap .u8 (IntKind.wrap .i64 (48 + (Int.tmod a0 10)))], rfl⟩ : Vec Int 1) >>= fun b19 =>
      toStr (⟨some (pt b19 0), 1, 1⟩ : Sl) >>= fun r20 =>
      chk (((r18.size + r20.size : Nat) : Int) ≤ 9223372036854775807) >>= fun _ =>
      pure (r18 ++ r20)
    else
      if bfr o5 2 8 = true then
        newv 5 ((cI .u8).arr 1) (⟨[IntKind.wrap .u8 (IntKind.wrap .i64 (48 + (Int.tmod a0 10)))], rfl⟩ : Vec Int 1) >>= fun b22 =>
        rec_ (IntKind.wrap .i64 (Int.tdiv a0 10)) >>= fun r23 =>
        toStr (⟨some (pt b22 0), 1, 1⟩ : Sl) >>= fun r24 =>
        chk (((r23.size + r24.size : Nat) : Int) ≤ 9223372036854775807) >>= fun _ =>
        pure (r23 ++ r24)
      else
        newv 5 ((cI .u8).arr 1) (⟨[IntKind.wrap .u8 (IntKind.wrap .i64 (48 + (Int.tmod a0 10)))], rfl⟩ : Vec Int 1) >>= fun b25 =>
        toStr (⟨some (pt b25 0), 1, 1⟩ : Sl) >>= fun r26 =>
        rec_ (IntKind.wrap .i64 (Int.tdiv a0 10)) >>= fun r27 =>
        chk (((r27.size + r26.size : Nat) : Int) ≤ 9223372036854775807) >>= fun _ =>
        pure (r27 ++ r26)
theorem weirref4_number.body_ok  (rec_ : Int → M ByteArray) (h_rec_ : ∀ (x0_ : Int), Ref Tryz.prog 80 [.int .i64 x0_] (rec_ x0_) weirref4_number.out) (a0 : Int) : Ref Tryz.prog 80 [.int .i64 a0] (weirref4_number.body rec_ a0) weirref4_number.out := by
  refine Ref.of (cd := weirref4_number.B) Tryz.func80 ?_
  show SJ weirref4_number.cx [.code weirref4_number.B] [(0, .int .i64 a0)] [] (weirref4_number.body rec_ a0) weirref4_number.F0
  unfold weirref4_number.body
  refine SJ.sr 1 ?_
  refine OJ.go 1 [(2, .string ByteArray.empty)] ?_
  refine OJ.nil ?_
  refine SJ.seq ?_
  refine SJ.sr 2 ?_
  refine OJ.go 2 [(4, .bool (decide (a0 < 10))), (3, .int .i64 a0)] ?_
  refine OJ.nil ?_
  refine SJ.cond (t := (.tmp 4)) (b := decide (a0 < 10)) decide_eq_true_iff (fun hc28 => ?_) (fun hc28 => ?_)
  · refine SJ.sr 6 ?_
    refine OJ.go 3 [(7, .int .u8 (IntKind.wrap .u8 (IntKind.wrap .i64 (48 + a0)))), (6, .int .i64 (IntKind.wrap .i64 (48 + a0))), (5, .int .i64 a0)] ?_
    refine OJ.rowNew (d := 8) (t := 51) (parts := [(0, .tmp 7)]) (ps := [(0, (cI .u8).val (IntKind.wrap .u8 (IntKind.wrap .i64 (48 + a0))))]) (cd := (cI .u8)) (owed := []) Ty5 (Filled.cons (cd := (cI .u8)) (q := (IntKind.wrap .u8 (IntKind.wrap .i64 (48 + a0)))) (o := 0) rfl (Upd.arr (i := 0) (by decide) (by decide)) Filled.nil) (fun b3 => ?_)
    refine OW.nil ?_
    refine OJ.toStr (d := 9) (t := 51) (u := 9) (E := 5) (x := .tmp 8) (owed := []) (fun r4 => ?_)
    refine OW.nil ?_
    refine OJ.go 1 [(2, .string r4)] ?_
    refine OJ.nil ?_
    exact SJ.ret rfl (Res.run (ys := [.string r4]) (.tmp (by kernel_rfl) .nil) rfl)
  · refine SJ.skip ?_
    refine SJ.seq ?_
    refine SJ.draws (id := 3) (kd := [0, 0, 2, 0, 0, 0, 0, 2, 2, 0, 0]) (bef := [0, 1, 3, 0, 8, 24, 56, 120, 248, 511, 1023]) (ord := [0, 1, 2, 3, 4, 5, 6, 7, 8, 9, 10]) (E := [(2, 7), (2, 8)]) mixed (fun o5 hg_ => ?_)
    refine SJ.bfr hg_ (by decide) (fun ho17 => ?_) (fun ho17 => ?_)
    · refine SJ.leaf hg_ (kd := [0, 0, 2, 0, 0, 0, 0, 2, 2, 0, 0]) (bef := [0, 1, 3, 0, 8, 24, 56, 120, 248, 511, 1023]) (ord := [0, 1, 2, 3, 4, 5, 6, 7, 8, 9, 10]) (E := [(2, 7), (2, 8)]) (allB.cons ho17 (allB.cons (bfr_trans ho17 (hg_.dep' _ (x := 7) (y := 8) (by kernel_rfl))) allB.nil)) ?_
      refine OJ.go 2 [(11, .int .i64 (IntKind.wrap .i64 (Int.tdiv a0 10))), (10, .int .i64 a0)] ?_
      refine OJ.call (d := 12) (g := 80) (ats := #[3]) (args := [.tmp 11]) (owed := []) F80 (h_rec_ (IntKind.wrap .i64 (Int.tdiv a0 10))) (fun r18 => ?_)
      refine OW.nil ?_
      refine OJ.go 4 [(16, .int .u8 (IntKind.wrap .u8 (IntKind.wrap .i64 (48 + (Int.tmod a0 10))))), (15, .int .i64 (IntKind.wrap .i64 (48 + (Int.tmod a0 10)))), (14, .int .i64 (Int.tmod a0 10)), (13, .int .i64 a0)] ?_
      refine OJ.rowNew (d := 17) (t := 51) (parts := [(0, .tmp 16)]) (ps := [(0, (cI .u8).val (IntKind.wrap .u8 (IntKind.wrap .i64 (48 + (Int.tmod a0 10)))))]) (cd := (cI .u8)) (owed := []) Ty5 (Filled.cons (cd := (cI .u8)) (q := (IntKind.wrap .u8 (IntKind.wrap .i64 (48 + (Int.tmod a0 10))))) (o := 0) rfl (Upd.arr (i := 0) (by decide) (by decide)) Filled.nil) (fun b19 => ?_)
      refine OW.nil ?_
      refine OJ.toStr (d := 18) (t := 51) (u := 9) (E := 5) (x := .tmp 17) (owed := []) (fun r20 => ?_)
      refine OW.nil ?_
      refine OJ.cat (d := 19) (T := 9) (yT := 9) (y := .tmp 12) (z := .tmp 18) (p := r18) (q := r20) ?_
      refine OJ.go 1 [(2, .string (r18 ++ r20))] ?_
      refine OJ.nil ?_
      exact SJ.ret rfl (Res.run (ys := [.string (r18 ++ r20)]) (.tmp (by kernel_rfl) .nil) rfl)
    · refine SJ.bfr hg_ (by decide) (fun ho21 => ?_) (fun ho21 => ?_)
      · refine SJ.leaf hg_ (kd := [0, 0, 2, 0, 0, 0, 0, 2, 2, 0, 0]) (bef := [0, 1, 3, 0, 8, 24, 56, 120, 248, 511, 1023]) (ord := [0, 1, 3, 4, 5, 6, 7, 2, 8, 9, 10]) (E := [(7, 2), (2, 8)]) (allB.cons ho17 (allB.cons ho21 allB.nil)) ?_
        refine OJ.go 6 [(16, .int .u8 (IntKind.wrap .u8 (IntKind.wrap .i64 (48 + (Int.tmod a0 10))))), (15, .int .i64 (IntKind.wrap .i64 (48 + (Int.tmod a0 10)))), (14, .int .i64 (Int.tmod a0 10)), (13, .int .i64 a0), (11, .int .i64 (IntKind.wrap .i64 (Int.tdiv a0 10))), (10, .int .i64 a0)] ?_
        refine OJ.rowNew (d := 17) (t := 51) (parts := [(0, .tmp 16)]) (ps := [(0, (cI .u8).val (IntKind.wrap .u8 (IntKind.wrap .i64 (48 + (Int.tmod a0 10)))))]) (cd := (cI .u8)) (owed := []) Ty5 (Filled.cons (cd := (cI .u8)) (q := (IntKind.wrap .u8 (IntKind.wrap .i64 (48 + (Int.tmod a0 10))))) (o := 0) rfl (Upd.arr (i := 0) (by decide) (by decide)) Filled.nil) (fun b22 => ?_)
        refine OW.nil ?_
        refine OJ.call (d := 12) (g := 80) (ats := #[3]) (args := [.tmp 11]) (owed := []) F80 (h_rec_ (IntKind.wrap .i64 (Int.tdiv a0 10))) (fun r23 => ?_)
        refine OW.nil ?_
        refine OJ.toStr (d := 18) (t := 51) (u := 9) (E := 5) (x := .tmp 17) (owed := []) (fun r24 => ?_)
        refine OW.nil ?_
        refine OJ.cat (d := 19) (T := 9) (yT := 9) (y := .tmp 12) (z := .tmp 18) (p := r23) (q := r24) ?_
        refine OJ.go 1 [(2, .string (r23 ++ r24))] ?_
        refine OJ.nil ?_
        exact SJ.ret rfl (Res.run (ys := [.string (r23 ++ r24)]) (.tmp (by kernel_rfl) .nil) rfl)
      · refine SJ.leaf hg_ (kd := [0, 0, 2, 0, 0, 0, 0, 2, 2, 0, 0]) (bef := [0, 1, 3, 0, 8, 24, 56, 120, 248, 511, 1023]) (ord := [0, 1, 3, 4, 5, 6, 7, 8, 2, 9, 10]) (E := [(7, 2), (8, 2)]) (allB.cons ho17 (allB.cons ho21 allB.nil)) ?_
        refine OJ.go 6 [(16, .int .u8 (IntKind.wrap .u8 (IntKind.wrap .i64 (48 + (Int.tmod a0 10))))), (15, .int .i64 (IntKind.wrap .i64 (48 + (Int.tmod a0 10)))), (14, .int .i64 (Int.tmod a0 10)), (13, .int .i64 a0), (11, .int .i64 (IntKind.wrap .i64 (Int.tdiv a0 10))), (10, .int .i64 a0)] ?_
        refine OJ.rowNew (d := 17) (t := 51) (parts := [(0, .tmp 16)]) (ps := [(0, (cI .u8).val (IntKind.wrap .u8 (IntKind.wrap .i64 (48 + (Int.tmod a0 10)))))]) (cd := (cI .u8)) (owed := []) Ty5 (Filled.cons (cd := (cI .u8)) (q := (IntKind.wrap .u8 (IntKind.wrap .i64 (48 + (Int.tmod a0 10))))) (o := 0) rfl (Upd.arr (i := 0) (by decide) (by decide)) Filled.nil) (fun b25 => ?_)
        refine OW.nil ?_
        refine OJ.toStr (d := 18) (t := 51) (u := 9) (E := 5) (x := .tmp 17) (owed := []) (fun r26 => ?_)
        refine OW.nil ?_
        refine OJ.call (d := 12) (g := 80) (ats := #[3]) (args := [.tmp 11]) (owed := []) F80 (h_rec_ (IntKind.wrap .i64 (Int.tdiv a0 10))) (fun r27 => ?_)
        refine OW.nil ?_
        refine OJ.cat (d := 19) (T := 9) (yT := 9) (y := .tmp 12) (z := .tmp 18) (p := r27) (q := r26) ?_
        refine OJ.go 1 [(2, .string (r27 ++ r26))] ?_
        refine OJ.nil ?_
        exact SJ.ret rfl (Res.run (ys := [.string (r27 ++ r26)]) (.tmp (by kernel_rfl) .nil) rfl)
noncomputable def weirref4_number.go  : Nat → Int → M ByteArray
  | 0 => fun a0 => fun _ => none
  | n + 1 => fun a0 => weirref4_number.body (weirref4_number.go  n) a0
theorem weirref4_number.go_ok  : ∀ (n : Nat) (a0 : Int), Ref Tryz.prog 80 [.int .i64 a0] (weirref4_number.go  n a0) weirref4_number.out
  | 0, a0 => fun v r v' e => by cases e
  | n + 1, a0 => weirref4_number.body_ok  (weirref4_number.go  n) (weirref4_number.go_ok  n) a0
noncomputable def weirref4_number (a0 : Int) : M ByteArray := weirref4_number.go  1000000000000 a0
theorem weirref4_number_ok (a0 : Int) : Ref Tryz.prog 80 [.int .i64 a0] (weirref4_number a0) weirref4_number.out := weirref4_number.go_ok  1000000000000 a0

/-! ### weir/weirref4.dots: function 76 -/
noncomputable def weirref4_dots.B : Code := (Tryz.f76.body).getD .skip
noncomputable def weirref4_dots.cx : Fx := ⟨Tryz.prog, 76, Tryz.f76⟩
noncomputable def weirref4_dots.out (r_ : ByteArray) : Value := .string r_
noncomputable def weirref4_dots.F0 (r_ : ByteArray) : Reach := .ret (weirref4_dots.out r_)
noncomputable def weirref4_dots (a0 : (Vec Int 16)) (a1 : Int) : M ByteArray :=
  slot 26 >>= fun b1 =>
  draw >>= fun _ =>
  chk ((0 : Int) ≤ a1 ∧ a1 < (16 : Nat)) >>= fun _ =>
  chk ((0 : Int) ≤ (IntKind.wrap .i64 (a1 + 1)) ∧ (IntKind.wrap .i64 (a1 + 1)) < (16 : Nat)) >>= fun _ =>
  chk ((0 : Int) ≤ (IntKind.wrap .i64 (a1 + 2)) ∧ (IntKind.wrap .i64 (a1 + 2)) < (16 : Nat)) >>= fun _ =>
  chk ((0 : Int) ≤ (IntKind.wrap .i64 (a1 + 3)) ∧ (IntKind.wrap .i64 (a1 + 3)) < (16 : Nat)) >>= fun _ =>
  weirref4_number (IntKind.wrap .i64 (Vec.g a0 a1 0)) >>= fun r10 =>
  chk (((r10.size + str8.size : Nat) : Int) ≤ 9223372036854775807) >>= fun _ =>
  weirref4_number (IntKind.wrap .i64 (Vec.g a0 (IntKind.wrap .i64 (a1 + 1)) 0)) >>= fun r11 =>
  chk ((((r10 ++ str8).size + r11.size : Nat) : Int) ≤ 9223372036854775807) >>= fun _ =>
  chk (((((r10 ++ str8) ++ r11).size + str8.size : Nat) : Int) ≤ 9223372036854775807) >>= fun _ =>
  weirref4_number (IntKind.wrap .i64 (Vec.g a0 (IntKind.wrap .i64 (a1 + 2)) 0)) >>= fun r12 =>
  chk ((((((r10 ++ str8) ++ r11) ++ str8).size + r12.size : Nat) : Int) ≤ 9223372036854775807) >>= fun _ =>
  chk (((((((r10 ++ str8) ++ r11) ++ str8) ++ r12).size + str8.size : Nat) : Int) ≤ 9223372036854775807) >>= fun _ =>
  weirref4_number (IntKind.wrap .i64 (Vec.g a0 (IntKind.wrap .i64 (a1 + 3)) 0)) >>= fun r13 =>
  chk ((((((((r10 ++ str8) ++ r11) ++ str8) ++ r12) ++ str8).size + r13.size : Nat) : Int) ≤ 9223372036854775807) >>= fun _ =>
  pure ((((((r10 ++ str8) ++ r11) ++ str8) ++ r12) ++ str8) ++ r13)
theorem weirref4_dots_ok (a0 : (Vec Int 16)) (a1 : Int) : Ref Tryz.prog 76 [((cI .u8).arr 16).val a0, .int .i64 a1] (weirref4_dots a0 a1) weirref4_dots.out := by
  refine Ref.of (cd := weirref4_dots.B) Tryz.func76 ?_
  show SJ weirref4_dots.cx [.code weirref4_dots.B] [(0, ((cI .u8).arr 16).val a0), (1, .int .i64 a1)] [] (weirref4_dots a0 a1) weirref4_dots.F0
  unfold weirref4_dots
  refine SJ.sr 2 ?_
  refine OJ.slotOf (d := 2) (op := (.box 26 (.tmp 0))) (cd := ((cI .u8).arr 16)) (u := a0) (owed := []) (box_run (by kernel_rfl)) (fun b1 => ?_)
  refine OW.nil ?_
  refine OJ.go 1 [(4, .string ByteArray.empty)] ?_
  refine OJ.nil ?_
  refine SJ.seq ?_
  refine SJ.draw (id := 1) (kd := [0, 0, 1, 0, 2, 0, 0, 0, 0, 1, 0, 2, 0, 0, 0, 0, 0, 1, 0, 2, 0, 0, 0, 0, 0, 1, 0, 2, 0, 0]) (bef := [0, 1, 3, 7, 15, 31, 0, 64, 192, 448, 960, 2015, 4095, 8191, 0, 16384, 49152, 114688, 245760, 511967, 1048575, 2097151, 0, 4194304, 12582912, 29360128, 62914560, 131059679, 268435455, 536870911]) (ord := [0, 1, 2, 3, 6, 7, 8, 9, 14, 15, 16, 17, 22, 23, 24, 25, 4, 5, 10, 11, 12, 13, 18, 19, 20, 21, 26, 27, 28, 29]) mixed ?_
  refine OJ.go 1 [(5, .int .i64 a1)] ?_
  refine OJ.idxK (d := 6) (T := 26) (y := .tmp 2) (j := .tmp 5) (E := 5) (sz := 1) (b := b1) (o := 0) (k := .i64) (fun hb2 hb3 => ?_)
  refine OJ.kld (d := 7) (y := .tmp 6) (cd := (cI .u8)) (j := 0) (b := b1) (o := (0 + a1.toNat * 1)) (Vec.g a0 a1 0) (pend2 := [⟨2, 5, (pt b1 (0 + a1.toNat * 1)), (cI .u8).val (Vec.g a0 a1 0)⟩]) Ty5 rfl (At.zero (At.arr (z := 0) hb2 hb3)) rfl ?_
  refine OJ.go 3 [(12, .int .i64 (IntKind.wrap .i64 (a1 + 1))), (11, .int .i64 a1), (8, .int .i64 (IntKind.wrap .i64 (Vec.g a0 a1 0)))] ?_
  refine OJ.idxK (d := 13) (T := 26) (y := .tmp 2) (j := .tmp 12) (E := 5) (sz := 1) (b := b1) (o := 0) (k := .i64) (fun hb4 hb5 => ?_)
  refine OJ.kld (d := 14) (y := .tmp 13) (cd := (cI .u8)) (j := 0) (b := b1) (o := (0 + (IntKind.wrap .i64 (a1 + 1)).toNat * 1)) (Vec.g a0 (IntKind.wrap .i64 (a1 + 1)) 0) (pend2 := [⟨9, 5, (pt b1 (0 + (IntKind.wrap .i64 (a1 + 1)).toNat * 1)), (cI .u8).val (Vec.g a0 (IntKind.wrap .i64 (a1 + 1)) 0)⟩, ⟨2, 5, (pt b1 (0 + a1.toNat * 1)), (cI .u8).val (Vec.g a0 a1 0)⟩]) Ty5 rfl (At.zero (At.arr (z := 0) hb4 hb5)) rfl ?_
  refine OJ.go 2 [(20, .int .i64 (IntKind.wrap .i64 (a1 + 2))), (19, .int .i64 a1)] ?_
  refine OJ.idxK (d := 21) (T := 26) (y := .tmp 2) (j := .tmp 20) (E := 5) (sz := 1) (b := b1) (o := 0) (k := .i64) (fun hb6 hb7 => ?_)
  refine OJ.kld (d := 22) (y := .tmp 21) (cd := (cI .u8)) (j := 0) (b := b1) (o := (0 + (IntKind.wrap .i64 (a1 + 2)).toNat * 1)) (Vec.g a0 (IntKind.wrap .i64 (a1 + 2)) 0) (pend2 := [⟨17, 5, (pt b1 (0 + (IntKind.wrap .i64 (a1 + 2)).toNat * 1)), (cI .u8).val (Vec.g a0 (IntKind.wrap .i64 (a1 + 2)) 0)⟩, ⟨9, 5, (pt b1 (0 + (IntKind.wrap .i64 (a1 + 1)).toNat * 1)), (cI .u8).val (Vec.g a0 (IntKind.wrap .i64 (a1 + 1)) 0)⟩, ⟨2, 5, (pt b1 (0 + a1.toNat * 1)), (cI .u8).val (Vec.g a0 a1 0)⟩]) Ty5 rfl (At.zero (At.arr (z := 0) hb6 hb7)) rfl ?_
  refine OJ.go 2 [(28, .int .i64 (IntKind.wrap .i64 (a1 + 3))), (27, .int .i64 a1)] ?_
  refine OJ.idxK (d := 29) (T := 26) (y := .tmp 2) (j := .tmp 28) (E := 5) (sz := 1) (b := b1) (o := 0) (k := .i64) (fun hb8 hb9 => ?_)
  refine OJ.kld (d := 30) (y := .tmp 29) (cd := (cI .u8)) (j := 0) (b := b1) (o := (0 + (IntKind.wrap .i64 (a1 + 3)).toNat * 1)) (Vec.g a0 (IntKind.wrap .i64 (a1 + 3)) 0) (pend2 := [⟨25, 5, (pt b1 (0 + (IntKind.wrap .i64 (a1 + 3)).toNat * 1)), (cI .u8).val (Vec.g a0 (IntKind.wrap .i64 (a1 + 3)) 0)⟩, ⟨17, 5, (pt b1 (0 + (IntKind.wrap .i64 (a1 + 2)).toNat * 1)), (cI .u8).val (Vec.g a0 (IntKind.wrap .i64 (a1 + 2)) 0)⟩, ⟨9, 5, (pt b1 (0 + (IntKind.wrap .i64 (a1 + 1)).toNat * 1)), (cI .u8).val (Vec.g a0 (IntKind.wrap .i64 (a1 + 1)) 0)⟩, ⟨2, 5, (pt b1 (0 + a1.toNat * 1)), (cI .u8).val (Vec.g a0 a1 0)⟩]) Ty5 rfl (At.zero (At.arr (z := 0) hb8 hb9)) rfl ?_
  refine OJ.call (d := 9) (g := 80) (ats := #[3]) (args := [.tmp 8]) (owed := [⟨25, 5, (pt b1 (0 + (IntKind.wrap .i64 (a1 + 3)).toNat * 1)), (cI .u8).val (Vec.g a0 (IntKind.wrap .i64 (a1 + 3)) 0)⟩, ⟨17, 5, (pt b1 (0 + (IntKind.wrap .i64 (a1 + 2)).toNat * 1)), (cI .u8).val (Vec.g a0 (IntKind.wrap .i64 (a1 + 2)) 0)⟩, ⟨9, 5, (pt b1 (0 + (IntKind.wrap .i64 (a1 + 1)).toNat * 1)), (cI .u8).val (Vec.g a0 (IntKind.wrap .i64 (a1 + 1)) 0)⟩]) F80 (weirref4_number_ok (IntKind.wrap .i64 (Vec.g a0 a1 0))) (fun r10 => ?_)
  refine OW.known (j := 0) (q := (Vec.g a0 (IntKind.wrap .i64 (a1 + 3)) 0)) Ty5 rfl (At.zero (At.arr (z := 0) hb8 hb9)) ?_
  refine OW.known (j := 0) (q := (Vec.g a0 (IntKind.wrap .i64 (a1 + 2)) 0)) Ty5 rfl (At.zero (At.arr (z := 0) hb6 hb7)) ?_
  refine OW.known (j := 0) (q := (Vec.g a0 (IntKind.wrap .i64 (a1 + 1)) 0)) Ty5 rfl (At.zero (At.arr (z := 0) hb4 hb5)) ?_
  refine OW.nil ?_
  refine OJ.cat (d := 10) (T := 9) (yT := 9) (y := .tmp 9) (z := .const (.string str8)) (p := r10) (q := str8) ?_
  refine OJ.go 1 [(15, .int .i64 (IntKind.wrap .i64 (Vec.g a0 (IntKind.wrap .i64 (a1 + 1)) 0)))] ?_
  refine OJ.call (d := 16) (g := 80) (ats := #[3]) (args := [.tmp 15]) (owed := [⟨25, 5, (pt b1 (0 + (IntKind.wrap .i64 (a1 + 3)).toNat * 1)), (cI .u8).val (Vec.g a0 (IntKind.wrap .i64 (a1 + 3)) 0)⟩, ⟨17, 5, (pt b1 (0 + (IntKind.wrap .i64 (a1 + 2)).toNat * 1)), (cI .u8).val (Vec.g a0 (IntKind.wrap .i64 (a1 + 2)) 0)⟩]) F80 (weirref4_number_ok (IntKind.wrap .i64 (Vec.g a0 (IntKind.wrap .i64 (a1 + 1)) 0))) (fun r11 => ?_)
  refine OW.known (j := 0) (q := (Vec.g a0 (IntKind.wrap .i64 (a1 + 3)) 0)) Ty5 rfl (At.zero (At.arr (z := 0) hb8 hb9)) ?_
  refine OW.known (j := 0) (q := (Vec.g a0 (IntKind.wrap .i64 (a1 + 2)) 0)) Ty5 rfl (At.zero (At.arr (z := 0) hb6 hb7)) ?_
  refine OW.nil ?_
  refine OJ.cat (d := 17) (T := 9) (yT := 9) (y := .tmp 10) (z := .tmp 16) (p := (r10 ++ str8)) (q := r11) ?_
  refine OJ.cat (d := 18) (T := 9) (yT := 9) (y := .tmp 17) (z := .const (.string str8)) (p := ((r10 ++ str8) ++ r11)) (q := str8) ?_
  refine OJ.go 1 [(23, .int .i64 (IntKind.wrap .i64 (Vec.g a0 (IntKind.wrap .i64 (a1 + 2)) 0)))] ?_
  refine OJ.call (d := 24) (g := 80) (ats := #[3]) (args := [.tmp 23]) (owed := [⟨25, 5, (pt b1 (0 + (IntKind.wrap .i64 (a1 + 3)).toNat * 1)), (cI .u8).val (Vec.g a0 (IntKind.wrap .i64 (a1 + 3)) 0)⟩]) F80 (weirref4_number_ok (IntKind.wrap .i64 (Vec.g a0 (IntKind.wrap .i64 (a1 + 2)) 0))) (fun r12 => ?_)
  refine OW.known (j := 0) (q := (Vec.g a0 (IntKind.wrap .i64 (a1 + 3)) 0)) Ty5 rfl (At.zero (At.arr (z := 0) hb8 hb9)) ?_
  refine OW.nil ?_
  refine OJ.cat (d := 25) (T := 9) (yT := 9) (y := .tmp 18) (z := .tmp 24) (p := (((r10 ++ str8) ++ r11) ++ str8)) (q := r12) ?_
  refine OJ.cat (d := 26) (T := 9) (yT := 9) (y := .tmp 25) (z := .const (.string str8)) (p := ((((r10 ++ str8) ++ r11) ++ str8) ++ r12)) (q := str8) ?_
  refine OJ.go 1 [(31, .int .i64 (IntKind.wrap .i64 (Vec.g a0 (IntKind.wrap .i64 (a1 + 3)) 0)))] ?_
  refine OJ.call (d := 32) (g := 80) (ats := #[3]) (args := [.tmp 31]) (owed := []) F80 (weirref4_number_ok (IntKind.wrap .i64 (Vec.g a0 (IntKind.wrap .i64 (a1 + 3)) 0))) (fun r13 => ?_)
  refine OW.nil ?_
  refine OJ.cat (d := 33) (T := 9) (yT := 9) (y := .tmp 26) (z := .tmp 32) (p := (((((r10 ++ str8) ++ r11) ++ str8) ++ r12) ++ str8)) (q := r13) ?_
  refine OJ.go 1 [(4, .string ((((((r10 ++ str8) ++ r11) ++ str8) ++ r12) ++ str8) ++ r13))] ?_
  refine OJ.nil ?_
  exact SJ.ret rfl (Res.run (ys := [.string ((((((r10 ++ str8) ++ r11) ++ str8) ++ r12) ++ str8) ++ r13)]) (.tmp (by kernel_rfl) .nil) rfl)

/-! ### weir/weirref4.zeros: function 78 -/
noncomputable def weirref4_zeros.B : Code := (Tryz.f78.body).getD .skip
noncomputable def weirref4_zeros.cx : Fx := ⟨Tryz.prog, 78, Tryz.f78⟩
noncomputable def weirref4_zeros.out (r_ : Int) : Value := .int .i64 r_
noncomputable def weirref4_zeros.F0 (r_ : Int) : Reach := .ret (weirref4_zeros.out r_)
noncomputable def weirref4_zeros.F1 (a0 : (Vec Int 16)) (a1 : Int) (b1 : Nat) : (LS Int Int) → Reach := loopF [.inLoop (c1 (c1 (c1 (c2 (c2 weirref4_zeros.B))))), .inBlock 0, .code (c2 (c2 (c2 weirref4_zeros.B)))] (fun s_ : Int => [(1, .int .i64 a1), (2, .pointer (some (pt b1 0))), (5, .int .i64 s_)]) (fun s_ : Int => [(b1, ((cI .u8).arr 16).enc a0)]) weirref4_zeros.F0
noncomputable def weirref4_zeros.L1 (a0 : (Vec Int 16)) (a1 : Int) (s2 : Int) : M (LS Int Int) :=
  (if (IntKind.wrap .i64 (a1 + s2)) < 8 then
      chk ((0 : Int) ≤ (IntKind.wrap .i64 (2 * (IntKind.wrap .i64 (a1 + s2)))) ∧ (IntKind.wrap .i64 (2 * (IntKind.wrap .i64 (a1 + s2)))) < (16 : Nat)) >>= fun _ =>
      pure ((Vec.g a0 (IntKind.wrap .i64 (2 * (IntKind.wrap .i64 (a1 + s2)))) 0) == 0)
    else
      pure false) >>= fun y12 =>
  (if y12 = true then
      chk ((0 : Int) ≤ (IntKind.wrap .i64 ((IntKind.wrap .i64 (2 * (IntKind.wrap .i64 (a1 + s2)))) + 1)) ∧ (IntKind.wrap .i64 ((IntKind.wrap .i64 (2 * (IntKind.wrap .i64 (a1 + s2)))) + 1)) < (16 : Nat)) >>= fun _ =>
      pure ((Vec.g a0 (IntKind.wrap .i64 ((IntKind.wrap .i64 (2 * (IntKind.wrap .i64 (a1 + s2)))) + 1)) 0) == 0)
    else
      pure false) >>= fun y15 =>
  if y15 = true then
    pure (LS.next (IntKind.wrap .i64 (s2 + 1)))
  else
    pure (LS.done s2)
theorem weirref4_zeros.L1_ok (a0 : (Vec Int 16)) (a1 : Int) (b1 : Nat) (s2 : Int) :
    SJ weirref4_zeros.cx [.code (c1 (c1 (c1 (c2 (c2 weirref4_zeros.B))))), .inLoop (c1 (c1 (c1 (c2 (c2 weirref4_zeros.B))))), .inBlock 0, .code (c2 (c2 (c2 weirref4_zeros.B)))] [(1, .int .i64 a1), (2, .pointer (some (pt b1 0))), (5, .int .i64 s2)] [(b1, ((cI .u8).arr 16).enc a0)] (weirref4_zeros.L1 a0 a1 s2) (weirref4_zeros.F1 a0 a1 b1) := by
  unfold weirref4_zeros.L1
  refine SJ.seq ?_
  refine SJ.sr 23 ?_
  refine OJ.go 5 [(10, .bool (decide ((IntKind.wrap .i64 (a1 + s2)) < 8))), (9, .bool (decide ((IntKind.wrap .i64 (a1 + s2)) < 8))), (8, .int .i64 (IntKind.wrap .i64 (a1 + s2))), (7, .int .i64 s2), (6, .int .i64 a1)] ?_
  refine OJ.join (b := decide ((IntKind.wrap .i64 (a1 + s2)) < 8)) [5, 6, 7, 8, 9, 10, 11, 12] [13, 14, 15, 16, 17, 18, 19, 20, 21, 22] [1, 2, 5, 18] (fun y12 => [(1, .int .i64 a1), (2, .pointer (some (pt b1 0))), (5, .int .i64 s2), (18, .bool y12)]) [] [] (t := 10) decide_eq_true_iff (fun hp_ => ?_) (fun hp_ => ?_) (fun _ _ _ _ _ _ h_ => h_) (fun y12 => ?_)
  · refine OJ.go 4 [(14, .int .i64 (IntKind.wrap .i64 (2 * (IntKind.wrap .i64 (a1 + s2))))), (13, .int .i64 (IntKind.wrap .i64 (a1 + s2))), (12, .int .i64 s2), (11, .int .i64 a1)] ?_
    refine OJ.idxK (d := 15) (T := 26) (y := .tmp 2) (j := .tmp 14) (E := 5) (sz := 1) (b := b1) (o := 0) (k := .i64) (fun hb10 hb11 => ?_)
    refine OJ.kld (d := 16) (y := .tmp 15) (cd := (cI .u8)) (j := 0) (b := b1) (o := (0 + (IntKind.wrap .i64 (2 * (IntKind.wrap .i64 (a1 + s2)))).toNat * 1)) (Vec.g a0 (IntKind.wrap .i64 (2 * (IntKind.wrap .i64 (a1 + s2)))) 0) (pend2 := []) Ty5 rfl (At.zero (At.arr (z := 0) hb10 hb11)) rfl ?_
    refine OJ.go 2 [(18, .bool ((Vec.g a0 (IntKind.wrap .i64 (2 * (IntKind.wrap .i64 (a1 + s2)))) 0) == 0)), (17, .bool ((Vec.g a0 (IntKind.wrap .i64 (2 * (IntKind.wrap .i64 (a1 + s2)))) 0) == 0))] ?_
    exact OJ.nil ⟨(Cov.mem Cov.nil), rfl, _, rfl, by kernel_rfl⟩
  · refine OJ.go 8 [(18, .bool false), (17, undef), (16, undef), (15, undef), (14, undef), (13, undef), (12, undef), (11, undef)] ?_
    exact OJ.nil ⟨(Cov.mem Cov.nil), rfl, _, rfl, by kernel_rfl⟩
  · refine OJ.go 1 [(19, .bool y12)] ?_
    refine OJ.join (b := y12) [14, 15, 16, 17, 18, 19, 20, 21, 22] [] [1, 2, 5, 28] (fun y15 => [(1, .int .i64 a1), (2, .pointer (some (pt b1 0))), (5, .int .i64 s2), (28, .bool y15)]) [] [] (t := 19) Iff.rfl (fun hp_ => ?_) (fun hp_ => ?_) (fun _ _ _ _ _ _ h_ => h_) (fun y15 => ?_)
    · refine OJ.go 5 [(24, .int .i64 (IntKind.wrap .i64 ((IntKind.wrap .i64 (2 * (IntKind.wrap .i64 (a1 + s2)))) + 1))), (23, .int .i64 (IntKind.wrap .i64 (2 * (IntKind.wrap .i64 (a1 + s2))))), (22, .int .i64 (IntKind.wrap .i64 (a1 + s2))), (21, .int .i64 s2), (20, .int .i64 a1)] ?_
      refine OJ.idxK (d := 25) (T := 26) (y := .tmp 2) (j := .tmp 24) (E := 5) (sz := 1) (b := b1) (o := 0) (k := .i64) (fun hb13 hb14 => ?_)
      refine OJ.kld (d := 26) (y := .tmp 25) (cd := (cI .u8)) (j := 0) (b := b1) (o := (0 + (IntKind.wrap .i64 ((IntKind.wrap .i64 (2 * (IntKind.wrap .i64 (a1 + s2)))) + 1)).toNat * 1)) (Vec.g a0 (IntKind.wrap .i64 ((IntKind.wrap .i64 (2 * (IntKind.wrap .i64 (a1 + s2)))) + 1)) 0) (pend2 := []) Ty5 rfl (At.zero (At.arr (z := 0) hb13 hb14)) rfl ?_
      refine OJ.go 2 [(28, .bool ((Vec.g a0 (IntKind.wrap .i64 ((IntKind.wrap .i64 (2 * (IntKind.wrap .i64 (a1 + s2)))) + 1)) 0) == 0)), (27, .bool ((Vec.g a0 (IntKind.wrap .i64 ((IntKind.wrap .i64 (2 * (IntKind.wrap .i64 (a1 + s2)))) + 1)) 0) == 0))] ?_
      exact OJ.nil ⟨(Cov.mem Cov.nil), rfl, _, rfl, by kernel_rfl⟩
    · refine OJ.go 9 [(28, .bool false), (27, undef), (26, undef), (25, undef), (24, undef), (23, undef), (22, undef), (21, undef), (20, undef)] ?_
      exact OJ.nil ⟨(Cov.mem Cov.nil), rfl, _, rfl, by kernel_rfl⟩
    · refine OJ.nil ?_
      refine SJ.cond (t := (.tmp 28)) (b := y15) Iff.rfl (fun hc16 => ?_) (fun hc16 => ?_)
      · refine SJ.skip ?_
        refine SJ.block (id := 1) ?_
        refine SJ.rg 3 ?_
        refine OJ.go 3 [(5, .int .i64 (IntKind.wrap .i64 (s2 + 1))), (30, .int .i64 (IntKind.wrap .i64 (s2 + 1))), (29, .int .i64 s2)] ?_
        refine OJ.nil ?_
        refine SJ.inBlock ?_
        exact SJ.at_ [1, 2, 5] rfl
      · refine SJ.exit (id := 0) (by rfl) ?_
        refine SJ.sr 2 ?_
        refine OJ.go 2 [(4, .int .i64 s2), (31, .int .i64 s2)] ?_
        refine OJ.nil ?_
        exact SJ.ret rfl (Res.run (ys := [.int .i64 s2]) (.tmp (by kernel_rfl) .nil) rfl)
noncomputable def weirref4_zeros (a0 : (Vec Int 16)) (a1 : Int) : M Int :=
  slot 26 >>= fun b1 =>
  loopM (fun s_ : Int => weirref4_zeros.L1 a0 a1 s_) 0
theorem weirref4_zeros_ok (a0 : (Vec Int 16)) (a1 : Int) : Ref Tryz.prog 78 [((cI .u8).arr 16).val a0, .int .i64 a1] (weirref4_zeros a0 a1) weirref4_zeros.out := by
  refine Ref.of (cd := weirref4_zeros.B) Tryz.func78 ?_
  show SJ weirref4_zeros.cx [.code weirref4_zeros.B] [(0, ((cI .u8).arr 16).val a0), (1, .int .i64 a1)] [] (weirref4_zeros a0 a1) weirref4_zeros.F0
  unfold weirref4_zeros
  refine SJ.sr 2 ?_
  refine OJ.slotOf (d := 2) (op := (.box 26 (.tmp 0))) (cd := ((cI .u8).arr 16)) (u := a0) (owed := []) (box_run (by kernel_rfl)) (fun b1 => ?_)
  refine OW.nil ?_
  refine OJ.go 1 [(4, .int .i64 0)] ?_
  refine OJ.nil ?_
  refine SJ.sr 1 ?_
  refine OJ.go 1 [(5, .int .i64 0)] ?_
  refine OJ.nil ?_
  refine SJ.seq ?_
  refine SJ.block (id := 0) ?_
  exact SJ.loop (fun s_ : Int => [(1, .int .i64 a1), (2, .pointer (some (pt b1 0))), (5, .int .i64 s_)]) (fun s_ : Int => [(b1, ((cI .u8).arr 16).enc a0)]) [1, 2, 5] rfl (fun _ _ => rfl) (fun s_ => weirref4_zeros.L1_ok a0 a1 b1 s_)

/-! ### weir/weirref4.mapped: function 77 -/
noncomputable def weirref4_mapped.B : Code := (Tryz.f77.body).getD .skip
noncomputable def weirref4_mapped.cx : Fx := ⟨Tryz.prog, 77, Tryz.f77⟩
noncomputable def weirref4_mapped.out (r_ : Bool) : Value := .bool r_
noncomputable def weirref4_mapped.F0 (r_ : Bool) : Reach := .ret (weirref4_mapped.out r_)
noncomputable def weirref4_mapped (a0 : (Vec Int 16)) : M Bool :=
  slot 26 >>= fun b1 =>
  weirref4_zeros a0 0 >>= fun r2 =>
  (if r2 = 5 then
      pure ((Vec.g a0 10 0) == 255)
    else
      pure false) >>= fun y3 =>
  (if y3 = true then
      pure ((Vec.g a0 11 0) == 255)
    else
      pure false) >>= fun y4 =>
  pure y4
theorem weirref4_mapped_ok (a0 : (Vec Int 16)) : Ref Tryz.prog 77 [((cI .u8).arr 16).val a0] (weirref4_mapped a0) weirref4_mapped.out := by
  refine Ref.of (cd := weirref4_mapped.B) Tryz.func77 ?_
  show SJ weirref4_mapped.cx [.code weirref4_mapped.B] [(0, ((cI .u8).arr 16).val a0)] [] (weirref4_mapped a0) weirref4_mapped.F0
  unfold weirref4_mapped
  refine SJ.sr 2 ?_
  refine OJ.slotOf (d := 1) (op := (.box 26 (.tmp 0))) (cd := ((cI .u8).arr 16)) (u := a0) (owed := []) (box_run (by kernel_rfl)) (fun b1 => ?_)
  refine OW.nil ?_
  refine OJ.go 1 [(2, .bool false)] ?_
  refine OJ.nil ?_
  refine SJ.sr 14 ?_
  refine OJ.kld (d := 3) (y := .tmp 1) (cd := ((cI .u8).arr 16)) (j := 0) (b := b1) (o := 0) a0 (pend2 := []) Ty26 rfl (At.whole _) rfl ?_
  refine OJ.call (d := 4) (g := 78) (ats := #[26, 3]) (args := [.tmp 3, .const (.int .i64 0)]) (owed := []) F78 (weirref4_zeros_ok a0 0) (fun r2 => ?_)
  refine OW.nil ?_
  refine OJ.go 2 [(6, .bool (r2 == 5)), (5, .bool (r2 == 5))] ?_
  refine OJ.join (b := (r2 == 5)) [4, 5, 6, 7] [8, 9, 10, 11, 12, 13] [1, 10] (fun y3 => [(1, .pointer (some (pt b1 0))), (10, .bool y3)]) [] [] (t := 6) beq_iff_eq (fun hp_ => ?_) (fun hp_ => ?_) (fun _ _ _ _ _ _ h_ => h_) (fun y3 => ?_)
  · refine OJ.go 1 [(7, .pointer (some (pt b1 10)))] ?_
    refine OJ.kld (d := 8) (y := .tmp 7) (cd := (cI .u8)) (j := 0) (b := b1) (o := 10) (Vec.g a0 10 0) (pend2 := []) Ty5 rfl (At.zero (At.arr (z := 0) (by decide) (by decide))) rfl ?_
    refine OJ.go 2 [(10, .bool ((Vec.g a0 10 0) == 255)), (9, .bool ((Vec.g a0 10 0) == 255))] ?_
    exact OJ.nil ⟨(Cov.mem Cov.nil), rfl, _, rfl, by kernel_rfl⟩
  · refine OJ.go 4 [(10, .bool false), (9, undef), (8, undef), (7, undef)] ?_
    exact OJ.nil ⟨(Cov.mem Cov.nil), rfl, _, rfl, by kernel_rfl⟩
  · refine OJ.go 1 [(11, .bool y3)] ?_
    refine OJ.join (b := y3) [9, 10, 11, 12] [13] [15] (fun y4 => [(15, .bool y4)]) [] [] (t := 11) Iff.rfl (fun hp_ => ?_) (fun hp_ => ?_) (fun _ _ _ _ _ _ h_ => h_) (fun y4 => ?_)
    · refine OJ.go 1 [(12, .pointer (some (pt b1 11)))] ?_
      refine OJ.kld (d := 13) (y := .tmp 12) (cd := (cI .u8)) (j := 0) (b := b1) (o := 11) (Vec.g a0 11 0) (pend2 := []) Ty5 rfl (At.zero (At.arr (z := 0) (by decide) (by decide))) rfl ?_
      refine OJ.go 2 [(15, .bool ((Vec.g a0 11 0) == 255)), (14, .bool ((Vec.g a0 11 0) == 255))] ?_
      exact OJ.nil ⟨(Cov.mem Cov.nil), rfl, _, rfl, by kernel_rfl⟩
    · refine OJ.go 4 [(15, .bool false), (14, undef), (13, undef), (12, undef)] ?_
      exact OJ.nil ⟨(Cov.mem Cov.nil), rfl, _, rfl, by kernel_rfl⟩
    · refine OJ.go 1 [(2, .bool y4)] ?_
      refine OJ.nil ?_
      exact SJ.ret rfl (Res.run (ys := [.bool y4]) (.tmp (by kernel_rfl) .nil) rfl)

/-! ### weir/weirref4.hex: function 79 -/
noncomputable def weirref4_hex.B : Code := (Tryz.f79.body).getD .skip
noncomputable def weirref4_hex.cx : Fx := ⟨Tryz.prog, 79, Tryz.f79⟩
noncomputable def weirref4_hex.out (r_ : ByteArray) : Value := .string r_
noncomputable def weirref4_hex.F0 (r_ : ByteArray) : Reach := .ret (weirref4_hex.out r_)
noncomputable def weirref4_hex.body (rec_ : Int → M ByteArray) (a0 : Int) : M ByteArray :=
  if a0 < 16 then
    chk ((0 : Int) ≤ a0 ∧ a0 < (str12.size : Int)) >>= fun _ =>
    newv 5 ((cI .u8).arr 1) (⟨[(sb str12 a0)], rfl⟩ : Vec Int 1) >>= fun b7 =>
    toStr (⟨some (pt b7 0), 1, 1⟩ : Sl) >>= fun r8 =>
    pure r8
  else
    draws 79 3 (opsOf (c1 (c2 (c2 weirref4_hex.B)))) >>= fun o9 =>
    if bfr o9 2 6 = true then
      rec_ (IntKind.wrap .i64 (Int.tdiv a0 16)) >>= fun r28 =>
      chk ((0 : Int) ≤ (Int.tmod a0 16) ∧ (Int.tmod a0 16) < (str12.size : Int)) >>= fun _ =>
      newv 5 ((cI .u8).arr 1) (⟨[(sb str12 (Int.tmod a0 16))], rfl⟩ : Vec Int 1) >>= fun b31 =>
      toStr (⟨some (pt b31 0), 1, 1⟩ : Sl) >>= fun r32 =>
      chk (((r28.size + r32.size : Nat) : Int) ≤ 9223372036854775807) >>= fun _ =>
      pure (r28 ++ r32)
    else
      if bfr o9 2 7 = true then
        chk ((0 : Int) ≤ (Int.tmod a0 16) ∧ (Int.tmod a0 16) < (str12.size : Int)) >>= fun _ =>
        newv 5 ((cI .u8).arr 1) (⟨[(sb str12 (Int.tmod a0 16))], rfl⟩ : Vec Int 1) >>= fun b36 =>
        rec_ (IntKind.wrap .i64 (Int.tdiv a0 16)) >>= fun r37 =>
        toStr (⟨some (pt b36 0), 1, 1⟩ : Sl) >>= fun r38 =>
        chk (((r37.size + r38.size : Nat) : Int) ≤ 9223372036854775807) >>= fun _ =>
        pure (r37 ++ r38)
      else
        chk ((0 : Int) ≤ (Int.tmod a0 16) ∧ (Int.tmod a0 16) < (str12.size : Int)) >>= fun _ =>
        newv 5 ((cI .u8).arr 1) (⟨[(sb str12 (Int.tmod a0 16))], rfl⟩ : Vec Int 1) >>= fun b41 =>
        toStr (⟨some (pt b41 0), 1, 1⟩ : Sl) >>= fun r42 =>
        rec_ (IntKind.wrap .i64 (Int.tdiv a0 16)) >>= fun r43 =>
        chk (((r43.size + r42.size : Nat) : Int) ≤ 9223372036854775807) >>= fun _ =>
        pure (r43 ++ r42)
theorem weirref4_hex.body_ok  (rec_ : Int → M ByteArray) (h_rec_ : ∀ (x0_ : Int), Ref Tryz.prog 79 [.int .i64 x0_] (rec_ x0_) weirref4_hex.out) (a0 : Int) : Ref Tryz.prog 79 [.int .i64 a0] (weirref4_hex.body rec_ a0) weirref4_hex.out := by
  refine Ref.of (cd := weirref4_hex.B) Tryz.func79 ?_
  show SJ weirref4_hex.cx [.code weirref4_hex.B] [(0, .int .i64 a0)] [] (weirref4_hex.body rec_ a0) weirref4_hex.F0
  unfold weirref4_hex.body
  refine SJ.sr 1 ?_
  refine OJ.go 1 [(2, .string ByteArray.empty)] ?_
  refine OJ.nil ?_
  refine SJ.seq ?_
  refine SJ.sr 2 ?_
  refine OJ.go 2 [(4, .bool (decide (a0 < 16))), (3, .int .i64 a0)] ?_
  refine OJ.nil ?_
  refine SJ.cond (t := (.tmp 4)) (b := decide (a0 < 16)) decide_eq_true_iff (fun hc44 => ?_) (fun hc44 => ?_)
  · refine SJ.sr 5 ?_
    refine OJ.go 1 [(5, .int .i64 a0)] ?_
    refine OJ.idxT (d := 6) (T := 9) (y := .const (.string str12)) (j := .tmp 5) (k := .i64) (fun hb5 hb6 => ?_)
    refine OJ.rowNew (d := 7) (t := 51) (parts := [(0, .tmp 6)]) (ps := [(0, (cI .u8).val (sb str12 a0))]) (cd := (cI .u8)) (owed := []) Ty5 (Filled.cons (cd := (cI .u8)) (q := (sb str12 a0)) (o := 0) rfl (Upd.arr (i := 0) (by decide) (by decide)) Filled.nil) (fun b7 => ?_)
    refine OW.nil ?_
    refine OJ.toStr (d := 8) (t := 51) (u := 9) (E := 5) (x := .tmp 7) (owed := []) (fun r8 => ?_)
    refine OW.nil ?_
    refine OJ.go 1 [(2, .string r8)] ?_
    refine OJ.nil ?_
    exact SJ.ret rfl (Res.run (ys := [.string r8]) (.tmp (by kernel_rfl) .nil) rfl)
  · refine SJ.skip ?_
    refine SJ.seq ?_
    refine SJ.draws (id := 3) (kd := [0, 0, 2, 0, 0, 0, 2, 2, 0, 0]) (bef := [0, 1, 3, 0, 8, 24, 56, 120, 255, 511]) (ord := [0, 1, 2, 3, 4, 5, 6, 7, 8, 9]) (E := [(2, 6), (2, 7)]) mixed (fun o9 hg_ => ?_)
    refine SJ.bfr hg_ (by decide) (fun ho27 => ?_) (fun ho27 => ?_)
    · refine SJ.leaf hg_ (kd := [0, 0, 2, 0, 0, 0, 2, 2, 0, 0]) (bef := [0, 1, 3, 0, 8, 24, 56, 120, 255, 511]) (ord := [0, 1, 2, 3, 4, 5, 6, 7, 8, 9]) (E := [(2, 6), (2, 7)]) (allB.cons ho27 (allB.cons (bfr_trans ho27 (hg_.dep' _ (x := 6) (y := 7) (by kernel_rfl))) allB.nil)) ?_
      refine OJ.go 2 [(10, .int .i64 (IntKind.wrap .i64 (Int.tdiv a0 16))), (9, .int .i64 a0)] ?_
      refine OJ.call (d := 11) (g := 79) (ats := #[3]) (args := [.tmp 10]) (owed := []) F79 (h_rec_ (IntKind.wrap .i64 (Int.tdiv a0 16))) (fun r28 => ?_)
      refine OW.nil ?_
      refine OJ.go 2 [(13, .int .i64 (Int.tmod a0 16)), (12, .int .i64 a0)] ?_
      refine OJ.idxT (d := 14) (T := 9) (y := .const (.string str12)) (j := .tmp 13) (k := .i64) (fun hb29 hb30 => ?_)
      refine OJ.rowNew (d := 15) (t := 51) (parts := [(0, .tmp 14)]) (ps := [(0, (cI .u8).val (sb str12 (Int.tmod a0 16)))]) (cd := (cI .u8)) (owed := []) Ty5 (Filled.cons (cd := (cI .u8)) (q := (sb str12 (Int.tmod a0 16))) (o := 0) rfl (Upd.arr (i := 0) (by decide) (by decide)) Filled.nil) (fun b31 => ?_)
      refine OW.nil ?_
      refine OJ.toStr (d := 16) (t := 51) (u := 9) (E := 5) (x := .tmp 15) (owed := []) (fun r32 => ?_)
      refine OW.nil ?_
      refine OJ.cat (d := 17) (T := 9) (yT := 9) (y := .tmp 11) (z := .tmp 16) (p := r28) (q := r32) ?_
      refine OJ.go 1 [(2, .string (r28 ++ r32))] ?_
      refine OJ.nil ?_
      exact SJ.ret rfl (Res.run (ys := [.string (r28 ++ r32)]) (.tmp (by kernel_rfl) .nil) rfl)
    · refine SJ.bfr hg_ (by decide) (fun ho33 => ?_) (fun ho33 => ?_)
      · refine SJ.leaf hg_ (kd := [0, 0, 2, 0, 0, 0, 2, 2, 0, 0]) (bef := [0, 1, 3, 0, 8, 24, 56, 120, 255, 511]) (ord := [0, 1, 3, 4, 5, 6, 2, 7, 8, 9]) (E := [(6, 2), (2, 7)]) (allB.cons ho27 (allB.cons ho33 allB.nil)) ?_
        refine OJ.go 4 [(13, .int .i64 (Int.tmod a0 16)), (12, .int .i64 a0), (10, .int .i64 (IntKind.wrap .i64 (Int.tdiv a0 16))), (9, .int .i64 a0)] ?_
        refine OJ.idxT (d := 14) (T := 9) (y := .const (.string str12)) (j := .tmp 13) (k := .i64) (fun hb34 hb35 => ?_)
        refine OJ.rowNew (d := 15) (t := 51) (parts := [(0, .tmp 14)]) (ps := [(0, (cI .u8).val (sb str12 (Int.tmod a0 16)))]) (cd := (cI .u8)) (owed := []) Ty5 (Filled.cons (cd := (cI .u8)) (q := (sb str12 (Int.tmod a0 16))) (o := 0) rfl (Upd.arr (i := 0) (by decide) (by decide)) Filled.nil) (fun b36 => ?_)
        refine OW.nil ?_
        refine OJ.call (d := 11) (g := 79) (ats := #[3]) (args := [.tmp 10]) (owed := []) F79 (h_rec_ (IntKind.wrap .i64 (Int.tdiv a0 16))) (fun r37 => ?_)
        refine OW.nil ?_
        refine OJ.toStr (d := 16) (t := 51) (u := 9) (E := 5) (x := .tmp 15) (owed := []) (fun r38 => ?_)
        refine OW.nil ?_
        refine OJ.cat (d := 17) (T := 9) (yT := 9) (y := .tmp 11) (z := .tmp 16) (p := r37) (q := r38) ?_
        refine OJ.go 1 [(2, .string (r37 ++ r38))] ?_
        refine OJ.nil ?_
        exact SJ.ret rfl (Res.run (ys := [.string (r37 ++ r38)]) (.tmp (by kernel_rfl) .nil) rfl)
      · refine SJ.leaf hg_ (kd := [0, 0, 2, 0, 0, 0, 2, 2, 0, 0]) (bef := [0, 1, 3, 0, 8, 24, 56, 120, 255, 511]) (ord := [0, 1, 3, 4, 5, 6, 7, 2, 8, 9]) (E := [(6, 2), (7, 2)]) (allB.cons ho27 (allB.cons ho33 allB.nil)) ?_
        refine OJ.go 4 [(13, .int .i64 (Int.tmod a0 16)), (12, .int .i64 a0), (10, .int .i64 (IntKind.wrap .i64 (Int.tdiv a0 16))), (9, .int .i64 a0)] ?_
        refine OJ.idxT (d := 14) (T := 9) (y := .const (.string str12)) (j := .tmp 13) (k := .i64) (fun hb39 hb40 => ?_)
        refine OJ.rowNew (d := 15) (t := 51) (parts := [(0, .tmp 14)]) (ps := [(0, (cI .u8).val (sb str12 (Int.tmod a0 16)))]) (cd := (cI .u8)) (owed := []) Ty5 (Filled.cons (cd := (cI .u8)) (q := (sb str12 (Int.tmod a0 16))) (o := 0) rfl (Upd.arr (i := 0) (by decide) (by decide)) Filled.nil) (fun b41 => ?_)
        refine OW.nil ?_
        refine OJ.toStr (d := 16) (t := 51) (u := 9) (E := 5) (x := .tmp 15) (owed := []) (fun r42 => ?_)
        refine OW.nil ?_
        refine OJ.call (d := 11) (g := 79) (ats := #[3]) (args := [.tmp 10]) (owed := []) F79 (h_rec_ (IntKind.wrap .i64 (Int.tdiv a0 16))) (fun r43 => ?_)
        refine OW.nil ?_
        refine OJ.cat (d := 17) (T := 9) (yT := 9) (y := .tmp 11) (z := .tmp 16) (p := r43) (q := r42) ?_
        refine OJ.go 1 [(2, .string (r43 ++ r42))] ?_
        refine OJ.nil ?_
        exact SJ.ret rfl (Res.run (ys := [.string (r43 ++ r42)]) (.tmp (by kernel_rfl) .nil) rfl)
noncomputable def weirref4_hex.go  : Nat → Int → M ByteArray
  | 0 => fun a0 => fun _ => none
  | n + 1 => fun a0 => weirref4_hex.body (weirref4_hex.go  n) a0
theorem weirref4_hex.go_ok  : ∀ (n : Nat) (a0 : Int), Ref Tryz.prog 79 [.int .i64 a0] (weirref4_hex.go  n a0) weirref4_hex.out
  | 0, a0 => fun v r v' e => by cases e
  | n + 1, a0 => weirref4_hex.body_ok  (weirref4_hex.go  n) (weirref4_hex.go_ok  n) a0
noncomputable def weirref4_hex (a0 : Int) : M ByteArray := weirref4_hex.go  1000000000000 a0
theorem weirref4_hex_ok (a0 : Int) : Ref Tryz.prog 79 [.int .i64 a0] (weirref4_hex a0) weirref4_hex.out := weirref4_hex.go_ok  1000000000000 a0

/-! ### weir/weirref4.PrintIP: function 41 -/
noncomputable def weirref4_PrintIP.B : Code := (Tryz.f41.body).getD .skip
noncomputable def weirref4_PrintIP.cx : Fx := ⟨Tryz.prog, 41, Tryz.f41⟩
noncomputable def weirref4_PrintIP.out (r_ : (ByteArray × Int)) : Value := .tuple #[.string r_.1, .int .i64 r_.2]
noncomputable def weirref4_PrintIP.F0 (r_ : (ByteArray × Int)) : Reach := .ret (weirref4_PrintIP.out r_)
noncomputable def weirref4_PrintIP.F1 (a0 : api_IP) (b1 : Nat) (s8 : Int) (s9 : Int) : (LS (ByteArray × Int) (ByteArray × Int)) → Reach := loopF [.inLoop (c1 (c1 (c2 (c1 (c2 (c2 (c2 (c2 (c2 (c2 (c2 (c2 (c2 weirref4_PrintIP.B))))))))))))), .inBlock 2, .code (c2 (c2 (c2 (c2 (c2 (c2 (c2 (c2 (c2 (c2 weirref4_PrintIP.B))))))))))] (fun s_ : (ByteArray × Int) => [(1, .pointer (some (pt b1 0))), (5, .int .i64 s8), (6, .int .i64 s9), (9, .string s_.1), (10, .int .i64 s_.2)]) (fun s_ : (ByteArray × Int) => [(b1, c_api_IP.enc a0)]) weirref4_PrintIP.F0
noncomputable def weirref4_PrintIP.K1 (a0 : api_IP) (s15 : Int) (j102 : ByteArray) : M (LS (ByteArray × Int) (ByteArray × Int)) :=
  draw >>= fun _ =>
  chk ((0 : Int) ≤ (IntKind.wrap .i64 (2 * s15)) ∧ (IntKind.wrap .i64 (2 * s15)) < (16 : Nat)) >>= fun _ =>
  chk ((0 : Int) ≤ (IntKind.wrap .i64 ((IntKind.wrap .i64 (2 * s15)) + 1)) ∧ (IntKind.wrap .i64 ((IntKind.wrap .i64 (2 * s15)) + 1)) < (16 : Nat)) >>= fun _ =>
  weirref4_hex (IntKind.wrap .i64 ((IntKind.wrap .i64 (256 * (IntKind.wrap .i64 (Vec.g a0.A (IntKind.wrap .i64 (2 * s15)) 0)))) + (IntKind.wrap .i64 (Vec.g a0.A (IntKind.wrap .i64 ((IntKind.wrap .i64 (2 * s15)) + 1)) 0)))) >>= fun r107 =>
  chk (((j102.size + r107.size : Nat) : Int) ≤ 9223372036854775807) >>= fun _ =>
  pure (LS.next ((j102 ++ r107), IntKind.wrap .i64 (s15 + 1)))
theorem weirref4_PrintIP.K1_ok (a0 : api_IP) (b1 : Nat) (s8 : Int) (s9 : Int) (s15 : Int) (j102 : ByteArray) :
    SJ weirref4_PrintIP.cx [.code (c2 (c2 (c2 (c2 (c2 (c1 (c1 (c1 (c2 (c1 (c1 (c2 (c1 (c2 (c2 (c2 (c2 (c2 (c2 (c2 (c2 (c2 weirref4_PrintIP.B)))))))))))))))))))))), .inBlock 4, .inBlock 3, .code (c2 (c2 (c1 (c1 (c2 (c1 (c2 (c2 (c2 (c2 (c2 (c2 (c2 (c2 (c2 weirref4_PrintIP.B))))))))))))))), .inLoop (c1 (c1 (c2 (c1 (c2 (c2 (c2 (c2 (c2 (c2 (c2 (c2 (c2 weirref4_PrintIP.B))))))))))))), .inBlock 2, .code (c2 (c2 (c2 (c2 (c2 (c2 (c2 (c2 (c2 (c2 weirref4_PrintIP.B))))))))))] [(1, .pointer (some (pt b1 0))), (5, .int .i64 s8), (6, .int .i64 s9), (9, .string j102), (10, .int .i64 s15)] [(b1, c_api_IP.enc a0)] (weirref4_PrintIP.K1 a0 s15 j102) (weirref4_PrintIP.F1 a0 b1 s8 s9) := by
  unfold weirref4_PrintIP.K1
  refine SJ.draw (id := 23) (kd := [0, 0, 0, 0, 0, 1, 0, 0, 0, 0, 0, 0, 0, 1, 0, 0, 2, 0, 0]) (bef := [0, 0, 2, 0, 14, 30, 62, 126, 0, 256, 768, 0, 3840, 7936, 16128, 32766, 65534, 131071, 262143]) (ord := [0, 1, 2, 3, 4, 5, 6, 7, 8, 9, 10, 11, 12, 13, 14, 15, 16, 17, 18]) mixed ?_
  refine OJ.go 4 [(67, .pointer (some (pt b1 1))), (66, .int .i64 (IntKind.wrap .i64 (2 * s15))), (65, .int .i64 s15), (64, .string j102)] ?_
  refine OJ.idxK (d := 68) (T := 26) (y := .tmp 67) (j := .tmp 66) (E := 5) (sz := 1) (b := b1) (o := 1) (k := .i64) (fun hb103 hb104 => ?_)
  refine OJ.kld (d := 69) (y := .tmp 68) (cd := (cI .u8)) (j := 0) (b := b1) (o := (1 + (IntKind.wrap .i64 (2 * s15)).toNat * 1)) (Vec.g a0.A (IntKind.wrap .i64 (2 * s15)) 0) (pend2 := [⟨5, 5, (pt b1 (1 + (IntKind.wrap .i64 (2 * s15)).toNat * 1)), (cI .u8).val (Vec.g a0.A (IntKind.wrap .i64 (2 * s15)) 0)⟩]) Ty5 rfl (At.trans (At_api_IP_A a0) (At.arr (z := 0) hb103 hb104)) rfl ?_
  refine OJ.go 6 [(75, .pointer (some (pt b1 1))), (74, .int .i64 (IntKind.wrap .i64 ((IntKind.wrap .i64 (2 * s15)) + 1))), (73, .int .i64 (IntKind.wrap .i64 (2 * s15))), (72, .int .i64 s15), (71, .int .i64 (IntKind.wrap .i64 (256 * (IntKind.wrap .i64 (Vec.g a0.A (IntKind.wrap .i64 (2 * s15)) 0))))), (70, .int .i64 (IntKind.wrap .i64 (Vec.g a0.A (IntKind.wrap .i64 (2 * s15)) 0)))] ?_
  refine OJ.idxK (d := 76) (T := 26) (y := .tmp 75) (j := .tmp 74) (E := 5) (sz := 1) (b := b1) (o := 1) (k := .i64) (fun hb105 hb106 => ?_)
  refine OJ.kld (d := 77) (y := .tmp 76) (cd := (cI .u8)) (j := 0) (b := b1) (o := (1 + (IntKind.wrap .i64 ((IntKind.wrap .i64 (2 * s15)) + 1)).toNat * 1)) (Vec.g a0.A (IntKind.wrap .i64 ((IntKind.wrap .i64 (2 * s15)) + 1)) 0) (pend2 := [⟨13, 5, (pt b1 (1 + (IntKind.wrap .i64 ((IntKind.wrap .i64 (2 * s15)) + 1)).toNat * 1)), (cI .u8).val (Vec.g a0.A (IntKind.wrap .i64 ((IntKind.wrap .i64 (2 * s15)) + 1)) 0)⟩, ⟨5, 5, (pt b1 (1 + (IntKind.wrap .i64 (2 * s15)).toNat * 1)), (cI .u8).val (Vec.g a0.A (IntKind.wrap .i64 (2 * s15)) 0)⟩]) Ty5 rfl (At.trans (At_api_IP_A a0) (At.arr (z := 0) hb105 hb106)) rfl ?_
  refine OJ.go 2 [(79, .int .i64 (IntKind.wrap .i64 ((IntKind.wrap .i64 (256 * (IntKind.wrap .i64 (Vec.g a0.A (IntKind.wrap .i64 (2 * s15)) 0)))) + (IntKind.wrap .i64 (Vec.g a0.A (IntKind.wrap .i64 ((IntKind.wrap .i64 (2 * s15)) + 1)) 0))))), (78, .int .i64 (IntKind.wrap .i64 (Vec.g a0.A (IntKind.wrap .i64 ((IntKind.wrap .i64 (2 * s15)) + 1)) 0)))] ?_
  refine OJ.call (d := 80) (g := 79) (ats := #[3]) (args := [.tmp 79]) (owed := []) F79 (weirref4_hex_ok (IntKind.wrap .i64 ((IntKind.wrap .i64 (256 * (IntKind.wrap .i64 (Vec.g a0.A (IntKind.wrap .i64 (2 * s15)) 0)))) + (IntKind.wrap .i64 (Vec.g a0.A (IntKind.wrap .i64 ((IntKind.wrap .i64 (2 * s15)) + 1)) 0))))) (fun r107 => ?_)
  refine OW.nil ?_
  refine OJ.cat (d := 81) (T := 9) (yT := 9) (y := .tmp 64) (z := .tmp 80) (p := j102) (q := r107) ?_
  refine OJ.go 1 [(9, .string (j102 ++ r107))] ?_
  refine OJ.nil ?_
  refine SJ.inBlock ?_
  refine SJ.inBlock ?_
  refine SJ.rg 3 ?_
  refine OJ.go 3 [(10, .int .i64 (IntKind.wrap .i64 (s15 + 1))), (44, .int .i64 (IntKind.wrap .i64 (s15 + 1))), (43, .int .i64 s15)] ?_
  refine OJ.nil ?_
  exact SJ.at_ [1, 5, 6, 9, 10] rfl
noncomputable def weirref4_PrintIP.L1 (a0 : api_IP) (s8 : Int) (s9 : Int) (s14 : ByteArray) (s15 : Int) : M (LS (ByteArray × Int) (ByteArray × Int)) :=
  if s15 < 8 then
    if s15 = s8 then
      chk (((s14.size + str0.size : Nat) : Int) ≤ 9223372036854775807) >>= fun _ =>
      pure (LS.next ((s14 ++ str0), IntKind.wrap .i64 (s15 + 1)))
    else
      (if s8 ≥ 0 then
          pure (decide (s15 > s8))
        else
          pure false) >>= fun y87 =>
      (if y87 = true then
          pure (decide (s15 < (IntKind.wrap .i64 (s8 + s9))))
        else
          pure false) >>= fun y88 =>
      if y88 = true then
        pure (LS.next (s14, IntKind.wrap .i64 (s15 + 1)))
      else
        (if s15 > 0 then
            pure (s15 != (IntKind.wrap .i64 (s8 + s9)))
          else
            pure false) >>= fun y99 =>
        (if y99 = true then
            pure true
          else
            (if s15 > 0 then
                pure (decide (s8 < 0))
              else
                pure false) >>= fun y100 =>
            pure y100) >>= fun y101 =>
        if y101 = true then
          chk (((s14.size + str1.size : Nat) : Int) ≤ 9223372036854775807) >>= fun _ =>
          weirref4_PrintIP.K1 a0 s15 (s14 ++ str1)
        else
          weirref4_PrintIP.K1 a0 s15 s14
  else
    pure (LS.done (s14, 0))
theorem weirref4_PrintIP.L1_ok (a0 : api_IP) (b1 : Nat) (s8 : Int) (s9 : Int) (s14 : ByteArray) (s15 : Int) :
    SJ weirref4_PrintIP.cx [.code (c1 (c1 (c2 (c1 (c2 (c2 (c2 (c2 (c2 (c2 (c2 (c2 (c2 weirref4_PrintIP.B))))))))))))), .inLoop (c1 (c1 (c2 (c1 (c2 (c2 (c2 (c2 (c2 (c2 (c2 (c2 (c2 weirref4_PrintIP.B))))))))))))), .inBlock 2, .code (c2 (c2 (c2 (c2 (c2 (c2 (c2 (c2 (c2 (c2 weirref4_PrintIP.B))))))))))] [(1, .pointer (some (pt b1 0))), (5, .int .i64 s8), (6, .int .i64 s9), (9, .string s14), (10, .int .i64 s15)] [(b1, c_api_IP.enc a0)] (weirref4_PrintIP.L1 a0 s8 s9 s14 s15) (weirref4_PrintIP.F1 a0 b1 s8 s9) := by
  unfold weirref4_PrintIP.L1
  refine SJ.seq ?_
  refine SJ.sr 2 ?_
  refine OJ.go 2 [(42, .bool (decide (s15 < 8))), (41, .int .i64 s15)] ?_
  refine OJ.nil ?_
  refine SJ.cond (t := (.tmp 42)) (b := decide (s15 < 8)) decide_eq_true_iff (fun hc111 => ?_) (fun hc111 => ?_)
  · refine SJ.skip ?_
    refine SJ.seq ?_
    refine SJ.block (id := 3) ?_
    refine SJ.block (id := 4) ?_
    refine SJ.sr 4 ?_
    refine OJ.go 4 [(82, .bool (s15 == s8)), (85, .bool (s15 == s8)), (84, .int .i64 s8), (83, .int .i64 s15)] ?_
    refine OJ.nil ?_
    refine SJ.cond (t := (.tmp 82)) (b := (s15 == s8)) beq_iff_eq (fun hc110 => ?_) (fun hc110 => ?_)
    · refine SJ.rg 3 ?_
      refine OJ.go 1 [(86, .string s14)] ?_
      refine OJ.cat (d := 87) (T := 9) (yT := 9) (y := .tmp 86) (z := .const (.string str0)) (p := s14) (q := str0) ?_
      refine OJ.go 1 [(9, .string (s14 ++ str0))] ?_
      refine OJ.nil ?_
      refine SJ.inBlock ?_
      refine SJ.inBlock ?_
      refine SJ.rg 3 ?_
      refine OJ.go 3 [(10, .int .i64 (IntKind.wrap .i64 (s15 + 1))), (44, .int .i64 (IntKind.wrap .i64 (s15 + 1))), (43, .int .i64 s15)] ?_
      refine OJ.nil ?_
      exact SJ.at_ [1, 5, 6, 9, 10] rfl
    · refine SJ.sr 15 ?_
      refine OJ.go 3 [(91, .bool (decide (s8 ≥ 0))), (90, .bool (decide (s8 ≥ 0))), (89, .int .i64 s8)] ?_
      refine OJ.join (b := decide (s8 ≥ 0)) [3, 4, 5, 6] [7, 8, 9, 10, 11, 12, 13, 14] [1, 5, 6, 9, 10, 95] (fun y87 => [(1, .pointer (some (pt b1 0))), (5, .int .i64 s8), (6, .int .i64 s9), (9, .string s14), (10, .int .i64 s15), (95, .bool y87)]) [] [] (t := 91) decide_eq_true_iff (fun hp_ => ?_) (fun hp_ => ?_) (fun _ _ _ _ _ _ h_ => h_) (fun y87 => ?_)
      · refine OJ.go 4 [(95, .bool (decide (s15 > s8))), (94, .bool (decide (s15 > s8))), (93, .int .i64 s8), (92, .int .i64 s15)] ?_
        exact OJ.nil ⟨(Cov.mem Cov.nil), rfl, _, rfl, by kernel_rfl⟩
      · refine OJ.go 4 [(95, .bool false), (94, undef), (93, undef), (92, undef)] ?_
        exact OJ.nil ⟨(Cov.mem Cov.nil), rfl, _, rfl, by kernel_rfl⟩
      · refine OJ.go 1 [(96, .bool y87)] ?_
        refine OJ.join (b := y87) [8, 9, 10, 11, 12, 13] [14] [1, 5, 6, 9, 10, 102] (fun y88 => [(1, .pointer (some (pt b1 0))), (5, .int .i64 s8), (6, .int .i64 s9), (9, .string s14), (10, .int .i64 s15), (102, .bool y88)]) [] [] (t := 96) Iff.rfl (fun hp_ => ?_) (fun hp_ => ?_) (fun _ _ _ _ _ _ h_ => h_) (fun y88 => ?_)
        · refine OJ.go 6 [(102, .bool (decide (s15 < (IntKind.wrap .i64 (s8 + s9))))), (101, .bool (decide (s15 < (IntKind.wrap .i64 (s8 + s9))))), (100, .int .i64 (IntKind.wrap .i64 (s8 + s9))), (99, .int .i64 s9), (98, .int .i64 s8), (97, .int .i64 s15)] ?_
          exact OJ.nil ⟨(Cov.mem Cov.nil), rfl, _, rfl, by kernel_rfl⟩
        · refine OJ.go 6 [(102, .bool false), (101, undef), (100, undef), (99, undef), (98, undef), (97, undef)] ?_
          exact OJ.nil ⟨(Cov.mem Cov.nil), rfl, _, rfl, by kernel_rfl⟩
        · refine OJ.go 1 [(88, .bool y88)] ?_
          refine OJ.nil ?_
          refine SJ.cond (t := (.tmp 88)) (b := y88) Iff.rfl (fun hc109 => ?_) (fun hc109 => ?_)
          · refine SJ.skip ?_
            refine SJ.inBlock ?_
            refine SJ.inBlock ?_
            refine SJ.rg 3 ?_
            refine OJ.go 3 [(10, .int .i64 (IntKind.wrap .i64 (s15 + 1))), (44, .int .i64 (IntKind.wrap .i64 (s15 + 1))), (43, .int .i64 s15)] ?_
            refine OJ.nil ?_
            exact SJ.at_ [1, 5, 6, 9, 10] rfl
          · refine SJ.seq ?_
            refine SJ.sr 17 ?_
            refine OJ.go 3 [(47, .bool (decide (s15 > 0))), (46, .bool (decide (s15 > 0))), (45, .int .i64 s15)] ?_
            refine OJ.join (b := decide (s15 > 0)) [3, 4, 5, 6, 7, 8] [9, 10, 11, 12, 13, 14, 15, 16] [1, 5, 6, 9, 10, 53] (fun y99 => [(1, .pointer (some (pt b1 0))), (5, .int .i64 s8), (6, .int .i64 s9), (9, .string s14), (10, .int .i64 s15), (53, .bool y99)]) [] [] (t := 47) decide_eq_true_iff (fun hp_ => ?_) (fun hp_ => ?_) (fun _ _ _ _ _ _ h_ => h_) (fun y99 => ?_)
            · refine OJ.go 6 [(53, .bool (s15 != (IntKind.wrap .i64 (s8 + s9)))), (52, .bool (s15 != (IntKind.wrap .i64 (s8 + s9)))), (51, .int .i64 (IntKind.wrap .i64 (s8 + s9))), (50, .int .i64 s9), (49, .int .i64 s8), (48, .int .i64 s15)] ?_
              exact OJ.nil ⟨(Cov.mem Cov.nil), rfl, _, rfl, by kernel_rfl⟩
            · refine OJ.go 6 [(53, .bool false), (52, undef), (51, undef), (50, undef), (49, undef), (48, undef)] ?_
              exact OJ.nil ⟨(Cov.mem Cov.nil), rfl, _, rfl, by kernel_rfl⟩
            · refine OJ.go 1 [(54, .bool y99)] ?_
              refine OJ.join (b := y99) [10, 11, 12, 13, 14, 15, 16] [] [1, 5, 6, 9, 10, 61] (fun y101 => [(1, .pointer (some (pt b1 0))), (5, .int .i64 s8), (6, .int .i64 s9), (9, .string s14), (10, .int .i64 s15), (61, .bool y101)]) [] [] (t := 54) Iff.rfl (fun hp_ => ?_) (fun hp_ => ?_) (fun _ _ _ _ _ _ h_ => h_) (fun y101 => ?_)
              · refine OJ.go 7 [(61, .bool true), (60, undef), (59, undef), (58, undef), (57, undef), (56, undef), (55, undef)] ?_
                exact OJ.nil ⟨(Cov.mem Cov.nil), rfl, _, rfl, by kernel_rfl⟩
              · refine OJ.go 3 [(57, .bool (decide (s15 > 0))), (56, .bool (decide (s15 > 0))), (55, .int .i64 s15)] ?_
                refine OJ.join (b := decide (s15 > 0)) [13, 14, 15] [16] [1, 5, 6, 9, 10, 54, 60] (fun y100 => [(1, .pointer (some (pt b1 0))), (5, .int .i64 s8), (6, .int .i64 s9), (9, .string s14), (10, .int .i64 s15), (54, .bool false), (60, .bool y100)]) [] [] (t := 57) decide_eq_true_iff (fun hp_ => ?_) (fun hp_ => ?_) (fun _ _ _ _ _ hq_ h_ => ⟨fun e_ he_ => (hq_ e_ he_).elim (fun h => h_.1 e_ h) (fun h => nomatch h), h_.2⟩) (fun y100 => ?_)
                · refine OJ.go 3 [(60, .bool (decide (s8 < 0))), (59, .bool (decide (s8 < 0))), (58, .int .i64 s8)] ?_
                  exact OJ.nil ⟨(Cov.mem Cov.nil), rfl, _, rfl, by kernel_rfl⟩
                · refine OJ.go 3 [(60, .bool false), (59, undef), (58, undef)] ?_
                  exact OJ.nil ⟨(Cov.mem Cov.nil), rfl, _, rfl, by kernel_rfl⟩
                · refine OJ.go 1 [(61, .bool y100)] ?_
                  exact OJ.nil ⟨(Cov.mem Cov.nil), rfl, _, rfl, by kernel_rfl⟩
              · refine OJ.nil ?_
                refine SJ.cond (t := (.tmp 61)) (b := y101) Iff.rfl (fun hc108 => ?_) (fun hc108 => ?_)
                · refine SJ.rg 3 ?_
                  refine OJ.go 1 [(62, .string s14)] ?_
                  refine OJ.cat (d := 63) (T := 9) (yT := 9) (y := .tmp 62) (z := .const (.string str1)) (p := s14) (q := str1) ?_
                  refine OJ.go 1 [(9, .string (s14 ++ str1))] ?_
                  refine OJ.nil ?_
                  refine SJ.less [1, 5, 6, 9, 10] (m' := [(1, .pointer (some (pt b1 0))), (5, .int .i64 s8), (6, .int .i64 s9), (9, .string (s14 ++ str1)), (10, .int .i64 s15)]) ?_
                  exact weirref4_PrintIP.K1_ok a0 b1 s8 s9 s15 (s14 ++ str1)
                · refine SJ.skip ?_
                  refine SJ.less [1, 5, 6, 9, 10] (m' := [(1, .pointer (some (pt b1 0))), (5, .int .i64 s8), (6, .int .i64 s9), (9, .string s14), (10, .int .i64 s15)]) ?_
                  exact weirref4_PrintIP.K1_ok a0 b1 s8 s9 s15 s14
  · refine SJ.exit (id := 2) (by rfl) ?_
    refine SJ.sr 3 ?_
    refine OJ.go 3 [(3, .int .i64 0), (2, .string s14), (103, .string s14)] ?_
    refine OJ.nil ?_
    exact SJ.ret rfl (Res.run (ys := [.string s14, .int .i64 0]) (.tmp (by kernel_rfl) (.tmp (by kernel_rfl) .nil)) rfl)
noncomputable def weirref4_PrintIP.K2 (a0 : api_IP) (s8 : Int) (s9 : Int) : M (ByteArray × Int) :=
  loopM (fun s_ : (ByteArray × Int) => weirref4_PrintIP.L1 a0 s8 s9 s_.1 s_.2) (ByteArray.empty, 0)
theorem weirref4_PrintIP.K2_ok (a0 : api_IP) (b1 : Nat) (s8 : Int) (s9 : Int) :
    SJ weirref4_PrintIP.cx [.code (c2 (c2 (c2 (c2 (c2 (c2 (c2 (c2 weirref4_PrintIP.B))))))))] [(1, .pointer (some (pt b1 0))), (5, .int .i64 s8), (6, .int .i64 s9)] [(b1, c_api_IP.enc a0)] (weirref4_PrintIP.K2 a0 s8 s9) weirref4_PrintIP.F0 := by
  unfold weirref4_PrintIP.K2
  refine SJ.sr 1 ?_
  refine OJ.go 1 [(9, .string ByteArray.empty)] ?_
  refine OJ.nil ?_
  refine SJ.seq ?_
  refine SJ.sr 1 ?_
  refine OJ.go 1 [(10, .int .i64 0)] ?_
  refine OJ.nil ?_
  refine SJ.block (id := 2) ?_
  exact SJ.loop (fun s_ : (ByteArray × Int) => [(1, .pointer (some (pt b1 0))), (5, .int .i64 s8), (6, .int .i64 s9), (9, .string s_.1), (10, .int .i64 s_.2)]) (fun s_ : (ByteArray × Int) => [(b1, c_api_IP.enc a0)]) [1, 5, 6, 9, 10] rfl (fun _ _ => rfl) (fun s_ => weirref4_PrintIP.L1_ok a0 b1 s8 s9 s_.1 s_.2)
noncomputable def weirref4_PrintIP.F2 (a0 : api_IP) (b1 : Nat) : (LS (Int × Int × Int) (ByteArray × Int)) → Reach := loopF [.inLoop (c1 (c1 (c2 (c1 (c2 (c2 (c2 (c2 (c2 (c2 (c2 weirref4_PrintIP.B))))))))))), .inBlock 0, .code (c2 (c2 (c2 (c2 (c2 (c2 (c2 (c2 weirref4_PrintIP.B))))))))] (fun s_ : (Int × Int × Int) => [(1, .pointer (some (pt b1 0))), (5, .int .i64 s_.1), (6, .int .i64 s_.2.1), (7, .int .i64 s_.2.2)]) (fun s_ : (Int × Int × Int) => [(b1, c_api_IP.enc a0)]) weirref4_PrintIP.F0
noncomputable def weirref4_PrintIP.L2 (a0 : api_IP) (s8 : Int) (s9 : Int) (s10 : Int) : M (LS (Int × Int × Int) (ByteArray × Int)) :=
  if s10 < 8 then
    weirref4_zeros a0.A s10 >>= fun r112 =>
    if r112 > s9 then
      pure (LS.next (s10, r112, IntKind.wrap .i64 (s10 + 1)))
    else
      pure (LS.next (s8, s9, IntKind.wrap .i64 (s10 + 1)))
  else
    (weirref4_PrintIP.K2 a0 s8 s9) >>= fun b => pure (LS.done b)
theorem weirref4_PrintIP.L2_ok (a0 : api_IP) (b1 : Nat) (s8 : Int) (s9 : Int) (s10 : Int) :
    SJ weirref4_PrintIP.cx [.code (c1 (c1 (c2 (c1 (c2 (c2 (c2 (c2 (c2 (c2 (c2 weirref4_PrintIP.B))))))))))), .inLoop (c1 (c1 (c2 (c1 (c2 (c2 (c2 (c2 (c2 (c2 (c2 weirref4_PrintIP.B))))))))))), .inBlock 0, .code (c2 (c2 (c2 (c2 (c2 (c2 (c2 (c2 weirref4_PrintIP.B))))))))] [(1, .pointer (some (pt b1 0))), (5, .int .i64 s8), (6, .int .i64 s9), (7, .int .i64 s10)] [(b1, c_api_IP.enc a0)] (weirref4_PrintIP.L2 a0 s8 s9 s10) (weirref4_PrintIP.F2 a0 b1) := by
  unfold weirref4_PrintIP.L2
  refine SJ.seq ?_
  refine SJ.sr 2 ?_
  refine OJ.go 2 [(29, .bool (decide (s10 < 8))), (28, .int .i64 s10)] ?_
  refine OJ.nil ?_
  refine SJ.cond (t := (.tmp 29)) (b := decide (s10 < 8)) decide_eq_true_iff (fun hc114 => ?_) (fun hc114 => ?_)
  · refine SJ.skip ?_
    refine SJ.seq ?_
    refine SJ.block (id := 1) ?_
    refine SJ.sr 5 ?_
    refine OJ.go 1 [(32, .pointer (some (pt b1 1)))] ?_
    refine OJ.kld (d := 33) (y := .tmp 32) (cd := ((cI .u8).arr 16)) (j := 0) (b := b1) (o := 1) a0.A (pend2 := []) Ty26 rfl (At_api_IP_A a0) rfl ?_
    refine OJ.go 1 [(34, .int .i64 s10)] ?_
    refine OJ.call (d := 35) (g := 78) (ats := #[26, 3]) (args := [.tmp 33, .tmp 34]) (owed := []) F78 (weirref4_zeros_ok a0.A s10) (fun r112 => ?_)
    refine OW.nil ?_
    refine OJ.go 1 [(8, .int .i64 r112)] ?_
    refine OJ.nil ?_
    refine SJ.sr 3 ?_
    refine OJ.go 3 [(38, .bool (decide (r112 > s9))), (37, .int .i64 s9), (36, .int .i64 r112)] ?_
    refine OJ.nil ?_
    refine SJ.cond (t := (.tmp 38)) (b := decide (r112 > s9)) decide_eq_true_iff (fun hc113 => ?_) (fun hc113 => ?_)
    · refine SJ.sr 2 ?_
      refine OJ.go 2 [(5, .int .i64 s10), (39, .int .i64 s10)] ?_
      refine OJ.nil ?_
      refine SJ.rg 2 ?_
      refine OJ.go 2 [(6, .int .i64 r112), (40, .int .i64 r112)] ?_
      refine OJ.nil ?_
      refine SJ.inBlock ?_
      refine SJ.rg 3 ?_
      refine OJ.go 3 [(7, .int .i64 (IntKind.wrap .i64 (s10 + 1))), (31, .int .i64 (IntKind.wrap .i64 (s10 + 1))), (30, .int .i64 s10)] ?_
      refine OJ.nil ?_
      exact SJ.at_ [1, 5, 6, 7] rfl
    · refine SJ.skip ?_
      refine SJ.inBlock ?_
      refine SJ.rg 3 ?_
      refine OJ.go 3 [(7, .int .i64 (IntKind.wrap .i64 (s10 + 1))), (31, .int .i64 (IntKind.wrap .i64 (s10 + 1))), (30, .int .i64 s10)] ?_
      refine OJ.nil ?_
      exact SJ.at_ [1, 5, 6, 7] rfl
  · refine SJ.exit (id := 0) (by rfl) ?_
    refine SJ.less [1, 5, 6] (m' := [(1, .pointer (some (pt b1 0))), (5, .int .i64 s8), (6, .int .i64 s9)]) ?_
    refine SJ.done ?_
    exact weirref4_PrintIP.K2_ok a0 b1 s8 s9
noncomputable def weirref4_PrintIP (a0 : api_IP) : M (ByteArray × Int) :=
  slot 28 >>= fun b1 =>
  weirref4_Valid a0 >>= fun r2 =>
  if ¬ (r2 = true) then
    pure (ByteArray.empty, 40)
  else
    if a0.V = 4 then
      weirref4_dots a0.A 0 >>= fun r4 =>
      pure (r4, 0)
    else
      weirref4_mapped a0.A >>= fun r5 =>
      if r5 = true then
        weirref4_dots a0.A 12 >>= fun r7 =>
        chk (((str9.size + r7.size : Nat) : Int) ≤ 9223372036854775807) >>= fun _ =>
        pure ((str9 ++ r7), 0)
      else
        loopM (fun s_ : (Int × Int × Int) => weirref4_PrintIP.L2 a0 s_.1 s_.2.1 s_.2.2) ((-1), 1, 0)
theorem weirref4_PrintIP_ok (a0 : api_IP) : Ref Tryz.prog 41 [c_api_IP.val a0] (weirref4_PrintIP a0) weirref4_PrintIP.out := by
  refine Ref.of (cd := weirref4_PrintIP.B) Tryz.func41 ?_
  show SJ weirref4_PrintIP.cx [.code weirref4_PrintIP.B] [(0, c_api_IP.val a0)] [] (weirref4_PrintIP a0) weirref4_PrintIP.F0
  unfold weirref4_PrintIP
  refine SJ.sr 3 ?_
  refine OJ.slotOf (d := 1) (op := (.box 28 (.tmp 0))) (cd := c_api_IP) (u := a0) (owed := []) (box_run (by kernel_rfl)) (fun b1 => ?_)
  refine OW.nil ?_
  refine OJ.go 2 [(3, .int .i64 0), (2, .string ByteArray.empty)] ?_
  refine OJ.nil ?_
  refine SJ.sr 3 ?_
  refine OJ.kld (d := 11) (y := .tmp 1) (cd := c_api_IP) (j := 0) (b := b1) (o := 0) a0 (pend2 := []) Ty28 rfl (At.whole _) rfl ?_
  refine OJ.call (d := 12) (g := 46) (ats := #[28]) (args := [.tmp 11]) (owed := []) F46 (weirref4_Valid_ok a0) (fun r2 => ?_)
  refine OW.nil ?_
  refine OJ.go 1 [(4, .bool r2)] ?_
  refine OJ.nil ?_
  refine SJ.seq ?_
  refine SJ.sr 2 ?_
  refine OJ.go 2 [(14, .bool (!r2)), (13, .bool r2)] ?_
  refine OJ.nil ?_
  refine SJ.cond (t := (.tmp 14)) (b := (!r2)) (bnot_iff Iff.rfl) (fun hc117 => ?_) (fun hc117 => ?_)
  · refine SJ.sr 2 ?_
    refine OJ.go 2 [(3, .int .i64 40), (2, .string ByteArray.empty)] ?_
    refine OJ.nil ?_
    exact SJ.ret rfl (Res.run (ys := [.string ByteArray.empty, .int .i64 40]) (.tmp (by kernel_rfl) (.tmp (by kernel_rfl) .nil)) rfl)
  · refine SJ.skip ?_
    refine SJ.seq ?_
    refine SJ.sr 3 ?_
    refine OJ.go 1 [(15, .pointer (some (pt b1 0)))] ?_
    refine OJ.kld (d := 16) (y := .tmp 15) (cd := (cI .i64)) (j := 0) (b := b1) (o := 0) a0.V (pend2 := []) Ty3 rfl (At_api_IP_V a0) rfl ?_
    refine OJ.go 1 [(17, .bool (a0.V == 4))] ?_
    refine OJ.nil ?_
    refine SJ.cond (t := (.tmp 17)) (b := (a0.V == 4)) beq_iff_eq (fun hc116 => ?_) (fun hc116 => ?_)
    · refine SJ.sr 5 ?_
      refine OJ.go 1 [(18, .pointer (some (pt b1 1)))] ?_
      refine OJ.kld (d := 19) (y := .tmp 18) (cd := ((cI .u8).arr 16)) (j := 0) (b := b1) (o := 1) a0.A (pend2 := []) Ty26 rfl (At_api_IP_A a0) rfl ?_
      refine OJ.call (d := 20) (g := 76) (ats := #[26, 3]) (args := [.tmp 19, .const (.int .i64 0)]) (owed := []) F76 (weirref4_dots_ok a0.A 0) (fun r4 => ?_)
      refine OW.nil ?_
      refine OJ.go 2 [(3, .int .i64 0), (2, .string r4)] ?_
      refine OJ.nil ?_
      exact SJ.ret rfl (Res.run (ys := [.string r4, .int .i64 0]) (.tmp (by kernel_rfl) (.tmp (by kernel_rfl) .nil)) rfl)
    · refine SJ.skip ?_
      refine SJ.seq ?_
      refine SJ.sr 3 ?_
      refine OJ.go 1 [(21, .pointer (some (pt b1 1)))] ?_
      refine OJ.kld (d := 22) (y := .tmp 21) (cd := ((cI .u8).arr 16)) (j := 0) (b := b1) (o := 1) a0.A (pend2 := []) Ty26 rfl (At_api_IP_A a0) rfl ?_
      refine OJ.call (d := 23) (g := 77) (ats := #[26]) (args := [.tmp 22]) (owed := []) F77 (weirref4_mapped_ok a0.A) (fun r5 => ?_)
      refine OW.nil ?_
      refine OJ.nil ?_
      refine SJ.cond (t := (.tmp 23)) (b := r5) Iff.rfl (fun hc115 => ?_) (fun hc115 => ?_)
      · refine SJ.sr 6 ?_
        refine OJ.go 1 [(24, .pointer (some (pt b1 1)))] ?_
        refine OJ.kld (d := 25) (y := .tmp 24) (cd := ((cI .u8).arr 16)) (j := 0) (b := b1) (o := 1) a0.A (pend2 := []) Ty26 rfl (At_api_IP_A a0) rfl ?_
        refine OJ.call (d := 26) (g := 76) (ats := #[26, 3]) (args := [.tmp 25, .const (.int .i64 12)]) (owed := []) F76 (weirref4_dots_ok a0.A 12) (fun r7 => ?_)
        refine OW.nil ?_
        refine OJ.cat (d := 27) (T := 9) (yT := 9) (y := .const (.string str9)) (z := .tmp 26) (p := str9) (q := r7) ?_
        refine OJ.go 2 [(3, .int .i64 0), (2, .string (str9 ++ r7))] ?_
        refine OJ.nil ?_
        exact SJ.ret rfl (Res.run (ys := [.string (str9 ++ r7), .int .i64 0]) (.tmp (by kernel_rfl) (.tmp (by kernel_rfl) .nil)) rfl)
      · refine SJ.skip ?_
        refine SJ.sr 1 ?_
        refine OJ.go 1 [(5, .int .i64 (-1))] ?_
        refine OJ.nil ?_
        refine SJ.sr 1 ?_
        refine OJ.go 1 [(6, .int .i64 1)] ?_
        refine OJ.nil ?_
        refine SJ.seq ?_
        refine SJ.sr 1 ?_
        refine OJ.go 1 [(7, .int .i64 0)] ?_
        refine OJ.nil ?_
        refine SJ.block (id := 0) ?_
        exact SJ.loop (fun s_ : (Int × Int × Int) => [(1, .pointer (some (pt b1 0))), (5, .int .i64 s_.1), (6, .int .i64 s_.2.1), (7, .int .i64 s_.2.2)]) (fun s_ : (Int × Int × Int) => [(b1, c_api_IP.enc a0)]) [1, 5, 6, 7] rfl (fun _ _ => rfl) (fun s_ => weirref4_PrintIP.L2_ok a0 b1 s_.1 s_.2.1 s_.2.2)

/-! ### weir/addr.PrintPrefix: function 42 -/
noncomputable def addr_PrintPrefix.B : Code := (Tryz.f42.body).getD .skip
noncomputable def addr_PrintPrefix.cx : Fx := ⟨Tryz.prog, 42, Tryz.f42⟩
noncomputable def addr_PrintPrefix.out (r_ : (ByteArray × Int)) : Value := .tuple #[.string r_.1, .int .i64 r_.2]
noncomputable def addr_PrintPrefix.F0 (r_ : (ByteArray × Int)) : Reach := .ret (addr_PrintPrefix.out r_)
noncomputable def addr_PrintPrefix (a0 : api_Prefix) : M (ByteArray × Int) :=
  slot 38 >>= fun b1 =>
  addr_ValidPrefix a0 >>= fun r2 =>
  if r2 ≠ 0 then
    pure (ByteArray.empty, r2)
  else
    addr_PrintIP a0.IP >>= fun r3 =>
    chk (((r3.1.size + str11.size : Nat) : Int) ≤ 9223372036854775807) >>= fun _ =>
    strconv_Itoa_ a0.Len >>= fun r4 =>
    chk ((((r3.1 ++ str11).size + r4.size : Nat) : Int) ≤ 9223372036854775807) >>= fun _ =>
    pure (((r3.1 ++ str11) ++ r4), 0)
theorem addr_PrintPrefix_ok (a0 : api_Prefix) : Ref Tryz.prog 42 [c_api_Prefix.val a0] (addr_PrintPrefix a0) addr_PrintPrefix.out := by
  refine Ref.of (cd := addr_PrintPrefix.B) Tryz.func42 ?_
  show SJ addr_PrintPrefix.cx [.code addr_PrintPrefix.B] [(0, c_api_Prefix.val a0)] [] (addr_PrintPrefix a0) addr_PrintPrefix.F0
  unfold addr_PrintPrefix
  refine SJ.sr 3 ?_
  refine OJ.slotOf (d := 1) (op := (.box 38 (.tmp 0))) (cd := c_api_Prefix) (u := a0) (owed := []) (box_run (by kernel_rfl)) (fun b1 => ?_)
  refine OW.nil ?_
  refine OJ.go 2 [(3, .int .i64 0), (2, .string ByteArray.empty)] ?_
  refine OJ.nil ?_
  refine SJ.seq ?_
  refine SJ.sr 3 ?_
  refine OJ.kld (d := 7) (y := .tmp 1) (cd := c_api_Prefix) (j := 0) (b := b1) (o := 0) a0 (pend2 := []) Ty38 rfl (At.whole _) rfl ?_
  refine OJ.call (d := 8) (g := 47) (ats := #[38]) (args := [.tmp 7]) (owed := []) F47 (addr_ValidPrefix_ok a0) (fun r2 => ?_)
  refine OW.nil ?_
  refine OJ.go 1 [(4, .int .i64 r2)] ?_
  refine OJ.nil ?_
  refine SJ.sr 2 ?_
  refine OJ.go 2 [(10, .bool (r2 != 0)), (9, .int .i64 r2)] ?_
  refine OJ.nil ?_
  refine SJ.cond (t := (.tmp 10)) (b := (r2 != 0)) bne_iff_ne (fun hc5 => ?_) (fun hc5 => ?_)
  · refine SJ.sr 3 ?_
    refine OJ.go 3 [(3, .int .i64 r2), (2, .string ByteArray.empty), (11, .int .i64 r2)] ?_
    refine OJ.nil ?_
    exact SJ.ret rfl (Res.run (ys := [.string ByteArray.empty, .int .i64 r2]) (.tmp (by kernel_rfl) (.tmp (by kernel_rfl) .nil)) rfl)
  · refine SJ.skip ?_
    refine SJ.sr 8 ?_
    refine OJ.go 1 [(13, .pointer (some (pt b1 0)))] ?_
    refine OJ.kld (d := 14) (y := .tmp 13) (cd := c_api_IP) (j := 0) (b := b1) (o := 0) a0.IP (pend2 := []) Ty28 rfl (At_api_Prefix_IP a0) rfl ?_
    refine OJ.call (d := 15) (g := 10) (ats := #[28]) (args := [.tmp 14]) (owed := []) F10 (addr_PrintIP_ok a0.IP) (fun r3 => ?_)
    refine OW.nil ?_
    refine OJ.go 5 [(6, .int .i64 r3.2), (5, .string r3.1), (17, .int .i64 r3.2), (16, .string r3.1), (12, .tuple #[.string r3.1, .int .i64 r3.2])] ?_
    refine OJ.nil ?_
    refine SJ.sr 8 ?_
    refine OJ.go 1 [(18, .string r3.1)] ?_
    refine OJ.cat (d := 19) (T := 9) (yT := 9) (y := .tmp 18) (z := .const (.string str11)) (p := r3.1) (q := str11) ?_
    refine OJ.go 1 [(20, .pointer (some (pt b1 17)))] ?_
    refine OJ.kld (d := 21) (y := .tmp 20) (cd := (cI .i64)) (j := 0) (b := b1) (o := 17) a0.Len (pend2 := []) Ty3 rfl (At_api_Prefix_Len a0) rfl ?_
    refine OJ.call (d := 22) (g := 33) (ats := #[3]) (args := [.tmp 21]) (owed := []) F33 (strconv_Itoa__ok a0.Len) (fun r4 => ?_)
    refine OW.nil ?_
    refine OJ.cat (d := 23) (T := 9) (yT := 9) (y := .tmp 19) (z := .tmp 22) (p := (r3.1 ++ str11)) (q := r4) ?_
    refine OJ.go 2 [(3, .int .i64 0), (2, .string ((r3.1 ++ str11) ++ r4))] ?_
    refine OJ.nil ?_
    exact SJ.ret rfl (Res.run (ys := [.string ((r3.1 ++ str11) ++ r4), .int .i64 0]) (.tmp (by kernel_rfl) (.tmp (by kernel_rfl) .nil)) rfl)

/-! ### weir/weirref4.PrintPrefix: function 43 -/
noncomputable def weirref4_PrintPrefix.B : Code := (Tryz.f43.body).getD .skip
noncomputable def weirref4_PrintPrefix.cx : Fx := ⟨Tryz.prog, 43, Tryz.f43⟩
noncomputable def weirref4_PrintPrefix.out (r_ : (ByteArray × Int)) : Value := .tuple #[.string r_.1, .int .i64 r_.2]
noncomputable def weirref4_PrintPrefix.F0 (r_ : (ByteArray × Int)) : Reach := .ret (weirref4_PrintPrefix.out r_)
noncomputable def weirref4_PrintPrefix (a0 : api_Prefix) : M (ByteArray × Int) :=
  slot 38 >>= fun b1 =>
  weirref4_ValidPrefix a0 >>= fun r2 =>
  if r2 ≠ 0 then
    pure (ByteArray.empty, r2)
  else
    weirref4_PrintIP a0.IP >>= fun r3 =>
    chk (((r3.1.size + str11.size : Nat) : Int) ≤ 9223372036854775807) >>= fun _ =>
    weirref4_number a0.Len >>= fun r4 =>
    chk ((((r3.1 ++ str11).size + r4.size : Nat) : Int) ≤ 9223372036854775807) >>= fun _ =>
    pure (((r3.1 ++ str11) ++ r4), 0)
theorem weirref4_PrintPrefix_ok (a0 : api_Prefix) : Ref Tryz.prog 43 [c_api_Prefix.val a0] (weirref4_PrintPrefix a0) weirref4_PrintPrefix.out := by
  refine Ref.of (cd := weirref4_PrintPrefix.B) Tryz.func43 ?_
  show SJ weirref4_PrintPrefix.cx [.code weirref4_PrintPrefix.B] [(0, c_api_Prefix.val a0)] [] (weirref4_PrintPrefix a0) weirref4_PrintPrefix.F0
  unfold weirref4_PrintPrefix
  refine SJ.sr 3 ?_
  refine OJ.slotOf (d := 1) (op := (.box 38 (.tmp 0))) (cd := c_api_Prefix) (u := a0) (owed := []) (box_run (by kernel_rfl)) (fun b1 => ?_)
  refine OW.nil ?_
  refine OJ.go 2 [(3, .int .i64 0), (2, .string ByteArray.empty)] ?_
  refine OJ.nil ?_
  refine SJ.sr 3 ?_
  refine OJ.kld (d := 7) (y := .tmp 1) (cd := c_api_Prefix) (j := 0) (b := b1) (o := 0) a0 (pend2 := []) Ty38 rfl (At.whole _) rfl ?_
  refine OJ.call (d := 8) (g := 48) (ats := #[38]) (args := [.tmp 7]) (owed := []) F48 (weirref4_ValidPrefix_ok a0) (fun r2 => ?_)
  refine OW.nil ?_
  refine OJ.go 1 [(4, .int .i64 r2)] ?_
  refine OJ.nil ?_
  refine SJ.seq ?_
  refine SJ.sr 2 ?_
  refine OJ.go 2 [(10, .bool (r2 != 0)), (9, .int .i64 r2)] ?_
  refine OJ.nil ?_
  refine SJ.cond (t := (.tmp 10)) (b := (r2 != 0)) bne_iff_ne (fun hc5 => ?_) (fun hc5 => ?_)
  · refine SJ.sr 3 ?_
    refine OJ.go 3 [(3, .int .i64 r2), (2, .string ByteArray.empty), (11, .int .i64 r2)] ?_
    refine OJ.nil ?_
    exact SJ.ret rfl (Res.run (ys := [.string ByteArray.empty, .int .i64 r2]) (.tmp (by kernel_rfl) (.tmp (by kernel_rfl) .nil)) rfl)
  · refine SJ.skip ?_
    refine SJ.sr 8 ?_
    refine OJ.go 1 [(13, .pointer (some (pt b1 0)))] ?_
    refine OJ.kld (d := 14) (y := .tmp 13) (cd := c_api_IP) (j := 0) (b := b1) (o := 0) a0.IP (pend2 := []) Ty28 rfl (At_api_Prefix_IP a0) rfl ?_
    refine OJ.call (d := 15) (g := 41) (ats := #[28]) (args := [.tmp 14]) (owed := []) F41 (weirref4_PrintIP_ok a0.IP) (fun r3 => ?_)
    refine OW.nil ?_
    refine OJ.go 5 [(6, .int .i64 r3.2), (5, .string r3.1), (17, .int .i64 r3.2), (16, .string r3.1), (12, .tuple #[.string r3.1, .int .i64 r3.2])] ?_
    refine OJ.nil ?_
    refine SJ.sr 8 ?_
    refine OJ.go 1 [(18, .string r3.1)] ?_
    refine OJ.cat (d := 19) (T := 9) (yT := 9) (y := .tmp 18) (z := .const (.string str11)) (p := r3.1) (q := str11) ?_
    refine OJ.go 1 [(20, .pointer (some (pt b1 17)))] ?_
    refine OJ.kld (d := 21) (y := .tmp 20) (cd := (cI .i64)) (j := 0) (b := b1) (o := 17) a0.Len (pend2 := []) Ty3 rfl (At_api_Prefix_Len a0) rfl ?_
    refine OJ.call (d := 22) (g := 80) (ats := #[3]) (args := [.tmp 21]) (owed := []) F80 (weirref4_number_ok a0.Len) (fun r4 => ?_)
    refine OW.nil ?_
    refine OJ.cat (d := 23) (T := 9) (yT := 9) (y := .tmp 19) (z := .tmp 22) (p := (r3.1 ++ str11)) (q := r4) ?_
    refine OJ.go 2 [(3, .int .i64 0), (2, .string ((r3.1 ++ str11) ++ r4))] ?_
    refine OJ.nil ?_
    exact SJ.ret rfl (Res.run (ys := [.string ((r3.1 ++ str11) ++ r4), .int .i64 0]) (.tmp (by kernel_rfl) (.tmp (by kernel_rfl) .nil)) rfl)

/-! ### (*strings.Builder).WriteByte: function 81 -/
noncomputable def strings_Builder_WriteByte.B : Code := (Tryz.f81.body).getD .skip
noncomputable def strings_Builder_WriteByte.cx : Fx := ⟨Tryz.prog, 81, Tryz.f81⟩
noncomputable def strings_Builder_WriteByte.out (r_ : Any) : Value := r_.v
noncomputable def strings_Builder_WriteByte.F0 (r_ : Any) : Reach := .ret (strings_Builder_WriteByte.out r_)
noncomputable def strings_Builder_WriteByte (a0 : (Option Addr)) (a1 : Int) : M Any :=
  strings_Builder_copyCheck a0 >>= fun r1 =>
  nilck a0 >>= fun p2 =>
  ld cL (Addr.add p2 1) >>= fun x3 =>
  slot 5 >>= fun b4 =>
  appl (cI .u8) 5 1 0 x3 [a1] >>= fun r5 =>
  nilck a0 >>= fun p6 =>
  st cL (Addr.add p6 1) r5 >>= fun _ =>
  pure (⟨.nilIface, rfl⟩ : Any)
theorem strings_Builder_WriteByte_ok (a0 : (Option Addr)) (a1 : Int) : Ref Tryz.prog 81 [.pointer a0, .int .u8 a1] (strings_Builder_WriteByte a0 a1) strings_Builder_WriteByte.out := by
  refine Ref.of (cd := strings_Builder_WriteByte.B) Tryz.func81 ?_
  show SJ strings_Builder_WriteByte.cx [.code strings_Builder_WriteByte.B] [(0, .pointer a0), (1, .int .u8 a1)] [] (strings_Builder_WriteByte a0 a1) strings_Builder_WriteByte.F0
  unfold strings_Builder_WriteByte
  refine SJ.sr 1 ?_
  refine OJ.go 1 [(4, (⟨.nilIface, rfl⟩ : Any).v)] ?_
  refine OJ.nil ?_
  refine SJ.sr 2 ?_
  refine OJ.go 1 [(5, .pointer a0)] ?_
  refine OJ.call (d := 6) (g := 88) (ats := #[111]) (args := [.tmp 5]) (owed := []) F88 (strings_Builder_copyCheck_ok a0) (fun r1 => ?_)
  refine OW.nil ?_
  refine OJ.nil ?_
  refine SJ.sr 11 ?_
  refine OJ.go 2 [(8, .pointer a0), (7, .pointer a0)] ?_
  refine OJ.nilck (d := 9) (y := .tmp 8) (fun p2 => ?_)
  refine OJ.go 1 [(10, .pointer (some (Addr.add p2 1)))] ?_
  refine OJ.ld (d := 11) (y := .tmp 10) (pend2 := fun x3 => []) Ty51 (fun _ => rfl) (fun x3 => ?_)
  refine OJ.go 1 [(12, .int .u8 a1)] ?_
  refine OJ.rowSlot (d := 13) (t := 51) (parts := [(0, .tmp 12)]) (ps := [(0, (cI .u8).val a1)]) (cd := (cI .u8)) (⟨[a1], rfl⟩ : Vec Int 1) (owed := []) Ty5 (Filled.cons (cd := (cI .u8)) (q := a1) (o := 0) rfl (Upd.arr (i := 0) (by decide) (by decide)) Filled.nil) (fun b4 => ?_)
  refine OW.nil ?_
  refine OJ.appl (d := 14) (t := 51) (u := 51) (so := .tmp 11) (xo := .tmp 13) (j := 0) (b := b4) (l := ((cI .u8).arr 1).enc (⟨[a1], rfl⟩ : Vec Int 1)) (n := 1) (k := 1) [a1] (owed := []) Ty5 (by rfl) (Cod.arr_enc _ _ _) (by rfl) (fun r5 => ?_)
  refine OW.nil ?_
  refine OJ.nilck (d := 15) (y := .tmp 7) (fun p6 => ?_)
  refine OJ.go 1 [(16, .pointer (some (Addr.add p6 1)))] ?_
  refine OJ.st (y := .tmp 16) (z := .tmp 14) (owed := []) Ty51 ?_
  refine OW.nil ?_
  refine OJ.nil ?_
  refine SJ.sr 1 ?_
  refine OJ.go 1 [(4, (⟨.nilIface, rfl⟩ : Any).v)] ?_
  refine OJ.nil ?_
  exact SJ.ret rfl (Res.run (ys := [(⟨.nilIface, rfl⟩ : Any).v]) (.tmp (by kernel_rfl) .nil) rfl)

/-! ### weir/addr.PrintMac: function 44 -/
noncomputable def addr_PrintMac.B : Code := (Tryz.f44.body).getD .skip
noncomputable def addr_PrintMac.cx : Fx := ⟨Tryz.prog, 44, Tryz.f44⟩
noncomputable def addr_PrintMac.out (r_ : ByteArray) : Value := .string r_
noncomputable def addr_PrintMac.F0 (r_ : ByteArray) : Reach := .ret (addr_PrintMac.out r_)
noncomputable def addr_PrintMac.F1 (a0 : (Vec Int 6)) (b2 : Nat) : (LS Int ByteArray) → Reach := loopF [.inLoop (c1 (c1 (c2 (c1 (c2 (c2 addr_PrintMac.B)))))), .inBlock 0, .code (c2 (c2 (c2 addr_PrintMac.B)))] (fun s_ : Int => [(3, .pointer (some (pt b2 0))), (6, ((cI .u8).arr 6).val a0), (7, .int .i64 s_)]) (fun s_ : Int => []) addr_PrintMac.F0
noncomputable def addr_PrintMac.K1 (a0 : (Vec Int 6)) (b2 : Nat) (s3 : Int) : M (LS Int ByteArray) :=
  chk ((0 : Int) ≤ (Int.fdiv (Vec.g a0 s3 0) (2 ^ 4)) ∧ (Int.fdiv (Vec.g a0 s3 0) (2 ^ 4)) < (str12.size : Int)) >>= fun _ =>
  strings_Builder_WriteByte (some (pt b2 0)) (sb str12 (Int.fdiv (Vec.g a0 s3 0) (2 ^ 4))) >>= fun r22 =>
  chk ((0 : Int) ≤ (band .u8 (Vec.g a0 s3 0) 15) ∧ (band .u8 (Vec.g a0 s3 0) 15) < (str12.size : Int)) >>= fun _ =>
  strings_Builder_WriteByte (some (pt b2 0)) (sb str12 (band .u8 (Vec.g a0 s3 0) 15)) >>= fun r25 =>
  pure (LS.next (IntKind.wrap .i64 (s3 + 1)))
theorem addr_PrintMac.K1_ok (a0 : (Vec Int 6)) (b2 : Nat) (s3 : Int) :
    SJ addr_PrintMac.cx [.code (c2 (c2 (c1 (c1 (c2 (c2 (c1 (c1 (c2 (c1 (c2 (c2 addr_PrintMac.B)))))))))))), .inBlock 1, .code (c2 (c2 (c2 (c1 (c1 (c2 (c1 (c2 (c2 addr_PrintMac.B))))))))), .inLoop (c1 (c1 (c2 (c1 (c2 (c2 addr_PrintMac.B)))))), .inBlock 0, .code (c2 (c2 (c2 addr_PrintMac.B)))] [(3, .pointer (some (pt b2 0))), (6, ((cI .u8).arr 6).val a0), (7, .int .i64 s3), (5, .int .u8 (Vec.g a0 s3 0))] [] (addr_PrintMac.K1 a0 b2 s3) (addr_PrintMac.F1 a0 b2) := by
  unfold addr_PrintMac.K1
  refine SJ.sr 4 ?_
  refine OJ.go 2 [(15, .int .u8 (Int.fdiv (Vec.g a0 s3 0) (2 ^ 4))), (14, .int .u8 (Vec.g a0 s3 0))] ?_
  refine OJ.idxT (d := 16) (T := 9) (y := .const (.string str12)) (j := .tmp 15) (k := .u8) (fun hb20 hb21 => ?_)
  refine OJ.call (d := 17) (g := 81) (ats := #[113, 5]) (args := [.tmp 3, .tmp 16]) (owed := []) F81 (strings_Builder_WriteByte_ok (some (pt b2 0)) (sb str12 (Int.fdiv (Vec.g a0 s3 0) (2 ^ 4)))) (fun r22 => ?_)
  refine OW.nil ?_
  refine OJ.nil ?_
  refine SJ.rg 4 ?_
  refine OJ.go 2 [(19, .int .u8 (band .u8 (Vec.g a0 s3 0) 15)), (18, .int .u8 (Vec.g a0 s3 0))] ?_
  refine OJ.idxT (d := 20) (T := 9) (y := .const (.string str12)) (j := .tmp 19) (k := .u8) (fun hb23 hb24 => ?_)
  refine OJ.call (d := 21) (g := 81) (ats := #[113, 5]) (args := [.tmp 3, .tmp 20]) (owed := []) F81 (strings_Builder_WriteByte_ok (some (pt b2 0)) (sb str12 (band .u8 (Vec.g a0 s3 0) 15))) (fun r25 => ?_)
  refine OW.nil ?_
  refine OJ.nil ?_
  refine SJ.inBlock ?_
  refine SJ.rg 2 ?_
  refine OJ.go 2 [(7, .int .i64 (IntKind.wrap .i64 (s3 + 1))), (22, .int .i64 (IntKind.wrap .i64 (s3 + 1)))] ?_
  refine OJ.nil ?_
  exact SJ.at_ [3, 6, 7] rfl
noncomputable def addr_PrintMac.L1 (a0 : (Vec Int 6)) (b2 : Nat) (s3 : Int) : M (LS Int ByteArray) :=
  if s3 < 6 then
    chk ((0 : Int) ≤ s3 ∧ s3 < (6 : Nat)) >>= fun _ =>
    if s3 > 0 then
      strings_Builder_WriteByte (some (pt b2 0)) 58 >>= fun r26 =>
      addr_PrintMac.K1 a0 b2 s3
    else
      addr_PrintMac.K1 a0 b2 s3
  else
    strings_Builder_String (some (pt b2 0)) >>= fun r28 =>
    pure (LS.done r28)
theorem addr_PrintMac.L1_ok (a0 : (Vec Int 6)) (b2 : Nat) (s3 : Int) :
    SJ addr_PrintMac.cx [.code (c1 (c1 (c2 (c1 (c2 (c2 addr_PrintMac.B)))))), .inLoop (c1 (c1 (c2 (c1 (c2 (c2 addr_PrintMac.B)))))), .inBlock 0, .code (c2 (c2 (c2 addr_PrintMac.B)))] [(3, .pointer (some (pt b2 0))), (6, ((cI .u8).arr 6).val a0), (7, .int .i64 s3)] [] (addr_PrintMac.L1 a0 b2 s3) (addr_PrintMac.F1 a0 b2) := by
  unfold addr_PrintMac.L1
  refine SJ.sr 1 ?_
  refine OJ.go 1 [(8, .bool (decide (s3 < 6)))] ?_
  refine OJ.nil ?_
  refine SJ.seq ?_
  refine SJ.cond (t := (.tmp 8)) (b := decide (s3 < 6)) decide_eq_true_iff (fun hc29 => ?_) (fun hc29 => ?_)
  · refine SJ.skip ?_
    refine SJ.seq ?_
    refine SJ.block (id := 1) ?_
    refine SJ.sr 4 ?_
    refine OJ.go 1 [(9, .int .i64 s3)] ?_
    refine OJ.idxV (d := 10) (T := 40) (E := 5) (y := .tmp 6) (j := .tmp 7) (k := .i64) (v0 := a0) Ty5 (fun hb17 hb18 => ?_)
    refine OJ.go 2 [(5, .int .u8 (Vec.g a0 s3 0)), (4, .int .i64 s3)] ?_
    refine OJ.nil ?_
    refine SJ.seq ?_
    refine SJ.sr 2 ?_
    refine OJ.go 2 [(12, .bool (decide (s3 > 0))), (11, .int .i64 s3)] ?_
    refine OJ.nil ?_
    refine SJ.cond (t := (.tmp 12)) (b := decide (s3 > 0)) decide_eq_true_iff (fun hc27 => ?_) (fun hc27 => ?_)
    · refine SJ.rg 1 ?_
      refine OJ.call (d := 13) (g := 81) (ats := #[113, 5]) (args := [.tmp 3, .const (.int .u8 58)]) (owed := []) F81 (strings_Builder_WriteByte_ok (some (pt b2 0)) 58) (fun r26 => ?_)
      refine OW.nil ?_
      refine OJ.nil ?_
      refine SJ.less [3, 6, 7, 5] (m' := [(3, .pointer (some (pt b2 0))), (6, ((cI .u8).arr 6).val a0), (7, .int .i64 s3), (5, .int .u8 (Vec.g a0 s3 0))]) ?_
      exact addr_PrintMac.K1_ok a0 b2 s3
    · refine SJ.skip ?_
      refine SJ.less [3, 6, 7, 5] (m' := [(3, .pointer (some (pt b2 0))), (6, ((cI .u8).arr 6).val a0), (7, .int .i64 s3), (5, .int .u8 (Vec.g a0 s3 0))]) ?_
      exact addr_PrintMac.K1_ok a0 b2 s3
  · refine SJ.exit (id := 0) (by rfl) ?_
    refine SJ.sr 2 ?_
    refine OJ.call (d := 23) (g := 64) (ats := #[113]) (args := [.tmp 3]) (owed := []) F64 (strings_Builder_String_ok (some (pt b2 0))) (fun r28 => ?_)
    refine OW.nil ?_
    refine OJ.go 1 [(2, .string r28)] ?_
    refine OJ.nil ?_
    exact SJ.ret rfl (Res.run (ys := [.string r28]) (.tmp (by kernel_rfl) .nil) rfl)
noncomputable def addr_PrintMac (a0 : (Vec Int 6)) : M ByteArray :=
  slot 40 >>= fun b1 =>
  newv 113 c_strings_Builder z_strings_Builder >>= fun b2 =>
  loopM (fun s_ : Int => addr_PrintMac.L1 a0 b2 s_) 0
theorem addr_PrintMac_ok (a0 : (Vec Int 6)) : Ref Tryz.prog 44 [((cI .u8).arr 6).val a0] (addr_PrintMac a0) addr_PrintMac.out := by
  refine Ref.of (cd := addr_PrintMac.B) Tryz.func44 ?_
  show SJ addr_PrintMac.cx [.code addr_PrintMac.B] [(0, ((cI .u8).arr 6).val a0)] [] (addr_PrintMac a0) addr_PrintMac.F0
  unfold addr_PrintMac
  refine SJ.sr 2 ?_
  refine OJ.slotOf (d := 1) (op := (.box 40 (.tmp 0))) (cd := ((cI .u8).arr 6)) (u := a0) (owed := []) (box_run (by kernel_rfl)) (fun b1 => ?_)
  refine OW.nil ?_
  refine OJ.go 1 [(2, .string ByteArray.empty)] ?_
  refine OJ.nil ?_
  refine SJ.sr 1 ?_
  refine OJ.newOf (d := 3) (op := (.alloc 113)) (cd := c_strings_Builder) (u := z_strings_Builder) (owed := []) (alloc_run Ty113) (fun b2 => ?_)
  refine OW.nil ?_
  refine OJ.nil ?_
  refine SJ.seq ?_
  refine SJ.sr 2 ?_
  refine OJ.kld (d := 6) (y := .tmp 1) (cd := ((cI .u8).arr 6)) (j := 0) (b := b1) (o := 0) a0 (pend2 := []) Ty40 rfl (At.whole _) rfl ?_
  refine OJ.go 1 [(7, .int .i64 0)] ?_
  refine OJ.nil ?_
  refine SJ.block (id := 0) ?_
  refine SJ.forget (List.Sublist.cons _ List.Sublist.slnil) ?_
  exact SJ.loop (fun s_ : Int => [(3, .pointer (some (pt b2 0))), (6, ((cI .u8).arr 6).val a0), (7, .int .i64 s_)]) (fun s_ : Int => []) [3, 6, 7] rfl (fun _ _ => rfl) (fun s_ => addr_PrintMac.L1_ok a0 b2 s_)

/-! ### weir/weirref4.PrintMac: function 45 -/
noncomputable def weirref4_PrintMac.B : Code := (Tryz.f45.body).getD .skip
noncomputable def weirref4_PrintMac.cx : Fx := ⟨Tryz.prog, 45, Tryz.f45⟩
noncomputable def weirref4_PrintMac.out (r_ : ByteArray) : Value := .string r_
noncomputable def weirref4_PrintMac.F0 (r_ : ByteArray) : Reach := .ret (weirref4_PrintMac.out r_)
noncomputable def weirref4_PrintMac.F1 (a0 : (Vec Int 6)) (b1 : Nat) : (LS (ByteArray × Int) ByteArray) → Reach := loopF [.inLoop (c1 (c1 (c2 (c1 (c2 (c2 weirref4_PrintMac.B)))))), .inBlock 0, .code (c2 (c2 (c2 weirref4_PrintMac.B)))] (fun s_ : (ByteArray × Int) => [(1, .pointer (some (pt b1 0))), (3, .string s_.1), (4, .int .i64 s_.2)]) (fun s_ : (ByteArray × Int) => [(b1, ((cI .u8).arr 6).enc a0)]) weirref4_PrintMac.F0
noncomputable def weirref4_PrintMac.K1 (a0 : (Vec Int 6)) (s3 : Int) (j17 : ByteArray) : M (LS (ByteArray × Int) ByteArray) :=
  draw >>= fun _ =>
  chk ((0 : Int) ≤ s3 ∧ s3 < (6 : Nat)) >>= fun _ =>
  chk ((0 : Int) ≤ (IntKind.wrap .u8 (Int.tdiv (Vec.g a0 s3 0) 16)) ∧ (IntKind.wrap .u8 (Int.tdiv (Vec.g a0 s3 0) 16)) < (str12.size : Int)) >>= fun _ =>
  chk ((0 : Int) ≤ s3 ∧ s3 < (6 : Nat)) >>= fun _ =>
  chk ((0 : Int) ≤ (Int.tmod (Vec.g a0 s3 0) 16) ∧ (Int.tmod (Vec.g a0 s3 0) 16) < (str12.size : Int)) >>= fun _ =>
  newv 5 ((cI .u8).arr 2) (⟨[(sb str12 (IntKind.wrap .u8 (Int.tdiv (Vec.g a0 s3 0) 16))), (sb str12 (Int.tmod (Vec.g a0 s3 0) 16))], rfl⟩ : Vec Int 2) >>= fun b26 =>
  toStr (⟨some (pt b26 0), 2, 2⟩ : Sl) >>= fun r27 =>
  chk (((j17.size + r27.size : Nat) : Int) ≤ 9223372036854775807) >>= fun _ =>
  pure (LS.next ((j17 ++ r27), IntKind.wrap .i64 (s3 + 1)))
theorem weirref4_PrintMac.K1_ok (a0 : (Vec Int 6)) (b1 : Nat) (s3 : Int) (j17 : ByteArray) :
    SJ weirref4_PrintMac.cx [.code (c2 (c1 (c1 (c2 (c1 (c1 (c2 (c1 (c2 (c2 weirref4_PrintMac.B)))))))))), .inBlock 1, .code (c2 (c2 (c1 (c1 (c2 (c1 (c2 (c2 weirref4_PrintMac.B)))))))), .inLoop (c1 (c1 (c2 (c1 (c2 (c2 weirref4_PrintMac.B)))))), .inBlock 0, .code (c2 (c2 (c2 weirref4_PrintMac.B)))] [(1, .pointer (some (pt b1 0))), (3, .string j17), (4, .int .i64 s3)] [(b1, ((cI .u8).arr 6).enc a0)] (weirref4_PrintMac.K1 a0 s3 j17) (weirref4_PrintMac.F1 a0 b1) := by
  unfold weirref4_PrintMac.K1
  refine SJ.draw (id := 7) (kd := [0, 0, 0, 1, 0, 0, 0, 0, 1, 0, 0, 2, 2, 0, 0]) (bef := [0, 0, 2, 6, 14, 30, 0, 64, 192, 448, 960, 2046, 4094, 8191, 16383]) (ord := [0, 1, 2, 3, 4, 5, 6, 7, 8, 9, 10, 11, 12, 13, 14]) mixed ?_
  refine OJ.go 2 [(14, .int .i64 s3), (13, .string j17)] ?_
  refine OJ.idxK (d := 15) (T := 40) (y := .tmp 1) (j := .tmp 14) (E := 5) (sz := 1) (b := b1) (o := 0) (k := .i64) (fun hb18 hb19 => ?_)
  refine OJ.kld (d := 16) (y := .tmp 15) (cd := (cI .u8)) (j := 0) (b := b1) (o := (0 + s3.toNat * 1)) (Vec.g a0 s3 0) (pend2 := [⟨3, 5, (pt b1 (0 + s3.toNat * 1)), (cI .u8).val (Vec.g a0 s3 0)⟩]) Ty5 rfl (At.zero (At.arr (z := 0) hb18 hb19)) rfl ?_
  refine OJ.go 1 [(17, .int .u8 (IntKind.wrap .u8 (Int.tdiv (Vec.g a0 s3 0) 16)))] ?_
  refine OJ.idxT (d := 18) (T := 9) (y := .const (.string str12)) (j := .tmp 17) (k := .u8) (fun hb20 hb21 => ?_)
  refine OJ.go 1 [(19, .int .i64 s3)] ?_
  refine OJ.idxK (d := 20) (T := 40) (y := .tmp 1) (j := .tmp 19) (E := 5) (sz := 1) (b := b1) (o := 0) (k := .i64) (fun hb22 hb23 => ?_)
  refine OJ.kld (d := 21) (y := .tmp 20) (cd := (cI .u8)) (j := 0) (b := b1) (o := (0 + s3.toNat * 1)) (Vec.g a0 s3 0) (pend2 := [⟨8, 5, (pt b1 (0 + s3.toNat * 1)), (cI .u8).val (Vec.g a0 s3 0)⟩, ⟨3, 5, (pt b1 (0 + s3.toNat * 1)), (cI .u8).val (Vec.g a0 s3 0)⟩]) Ty5 rfl (At.zero (At.arr (z := 0) hb22 hb23)) rfl ?_
  refine OJ.go 1 [(22, .int .u8 (Int.tmod (Vec.g a0 s3 0) 16))] ?_
  refine OJ.idxT (d := 23) (T := 9) (y := .const (.string str12)) (j := .tmp 22) (k := .u8) (fun hb24 hb25 => ?_)
  refine OJ.rowNew (d := 24) (t := 51) (parts := [(0, .tmp 18), (1, .tmp 23)]) (ps := [(0, (cI .u8).val (sb str12 (IntKind.wrap .u8 (Int.tdiv (Vec.g a0 s3 0) 16)))), (1, (cI .u8).val (sb str12 (Int.tmod (Vec.g a0 s3 0) 16)))]) (cd := (cI .u8)) (owed := []) Ty5 (Filled.cons (cd := (cI .u8)) (q := (sb str12 (IntKind.wrap .u8 (Int.tdiv (Vec.g a0 s3 0) 16)))) (o := 0) rfl (Upd.arr (i := 0) (by decide) (by decide)) (Filled.cons (cd := (cI .u8)) (q := (sb str12 (Int.tmod (Vec.g a0 s3 0) 16))) (o := 1) rfl (Upd.arr (i := 1) (by decide) (by decide)) Filled.nil)) (fun b26 => ?_)
  refine OW.nil ?_
  refine OJ.toStr (d := 25) (t := 51) (u := 9) (E := 5) (x := .tmp 24) (owed := []) (fun r27 => ?_)
  refine OW.nil ?_
  refine OJ.cat (d := 26) (T := 9) (yT := 9) (y := .tmp 13) (z := .tmp 25) (p := j17) (q := r27) ?_
  refine OJ.go 1 [(3, .string (j17 ++ r27))] ?_
  refine OJ.nil ?_
  refine SJ.inBlock ?_
  refine SJ.rg 3 ?_
  refine OJ.go 3 [(4, .int .i64 (IntKind.wrap .i64 (s3 + 1))), (8, .int .i64 (IntKind.wrap .i64 (s3 + 1))), (7, .int .i64 s3)] ?_
  refine OJ.nil ?_
  exact SJ.at_ [1, 3, 4] rfl
noncomputable def weirref4_PrintMac.L1 (a0 : (Vec Int 6)) (s2 : ByteArray) (s3 : Int) : M (LS (ByteArray × Int) ByteArray) :=
  if s3 < 6 then
    if s3 > 0 then
      chk (((s2.size + str1.size : Nat) : Int) ≤ 9223372036854775807) >>= fun _ =>
      weirref4_PrintMac.K1 a0 s3 (s2 ++ str1)
    else
      weirref4_PrintMac.K1 a0 s3 s2
  else
    pure (LS.done s2)
theorem weirref4_PrintMac.L1_ok (a0 : (Vec Int 6)) (b1 : Nat) (s2 : ByteArray) (s3 : Int) :
    SJ weirref4_PrintMac.cx [.code (c1 (c1 (c2 (c1 (c2 (c2 weirref4_PrintMac.B)))))), .inLoop (c1 (c1 (c2 (c1 (c2 (c2 weirref4_PrintMac.B)))))), .inBlock 0, .code (c2 (c2 (c2 weirref4_PrintMac.B)))] [(1, .pointer (some (pt b1 0))), (3, .string s2), (4, .int .i64 s3)] [(b1, ((cI .u8).arr 6).enc a0)] (weirref4_PrintMac.L1 a0 s2 s3) (weirref4_PrintMac.F1 a0 b1) := by
  unfold weirref4_PrintMac.L1
  refine SJ.seq ?_
  refine SJ.sr 2 ?_
  refine OJ.go 2 [(6, .bool (decide (s3 < 6))), (5, .int .i64 s3)] ?_
  refine OJ.nil ?_
  refine SJ.cond (t := (.tmp 6)) (b := decide (s3 < 6)) decide_eq_true_iff (fun hc29 => ?_) (fun hc29 => ?_)
  · refine SJ.skip ?_
    refine SJ.seq ?_
    refine SJ.block (id := 1) ?_
    refine SJ.seq ?_
    refine SJ.sr 2 ?_
    refine OJ.go 2 [(10, .bool (decide (s3 > 0))), (9, .int .i64 s3)] ?_
    refine OJ.nil ?_
    refine SJ.cond (t := (.tmp 10)) (b := decide (s3 > 0)) decide_eq_true_iff (fun hc28 => ?_) (fun hc28 => ?_)
    · refine SJ.rg 3 ?_
      refine OJ.go 1 [(11, .string s2)] ?_
      refine OJ.cat (d := 12) (T := 9) (yT := 9) (y := .tmp 11) (z := .const (.string str1)) (p := s2) (q := str1) ?_
      refine OJ.go 1 [(3, .string (s2 ++ str1))] ?_
      refine OJ.nil ?_
      refine SJ.less [1, 3, 4] (m' := [(1, .pointer (some (pt b1 0))), (3, .string (s2 ++ str1)), (4, .int .i64 s3)]) ?_
      exact weirref4_PrintMac.K1_ok a0 b1 s3 (s2 ++ str1)
    · refine SJ.skip ?_
      refine SJ.less [1, 3, 4] (m' := [(1, .pointer (some (pt b1 0))), (3, .string s2), (4, .int .i64 s3)]) ?_
      exact weirref4_PrintMac.K1_ok a0 b1 s3 s2
  · refine SJ.exit (id := 0) (by rfl) ?_
    refine SJ.sr 2 ?_
    refine OJ.go 2 [(2, .string s2), (27, .string s2)] ?_
    refine OJ.nil ?_
    exact SJ.ret rfl (Res.run (ys := [.string s2]) (.tmp (by kernel_rfl) .nil) rfl)
noncomputable def weirref4_PrintMac (a0 : (Vec Int 6)) : M ByteArray :=
  slot 40 >>= fun b1 =>
  loopM (fun s_ : (ByteArray × Int) => weirref4_PrintMac.L1 a0 s_.1 s_.2) (ByteArray.empty, 0)
theorem weirref4_PrintMac_ok (a0 : (Vec Int 6)) : Ref Tryz.prog 45 [((cI .u8).arr 6).val a0] (weirref4_PrintMac a0) weirref4_PrintMac.out := by
  refine Ref.of (cd := weirref4_PrintMac.B) Tryz.func45 ?_
  show SJ weirref4_PrintMac.cx [.code weirref4_PrintMac.B] [(0, ((cI .u8).arr 6).val a0)] [] (weirref4_PrintMac a0) weirref4_PrintMac.F0
  unfold weirref4_PrintMac
  refine SJ.sr 2 ?_
  refine OJ.slotOf (d := 1) (op := (.box 40 (.tmp 0))) (cd := ((cI .u8).arr 6)) (u := a0) (owed := []) (box_run (by kernel_rfl)) (fun b1 => ?_)
  refine OW.nil ?_
  refine OJ.go 1 [(2, .string ByteArray.empty)] ?_
  refine OJ.nil ?_
  refine SJ.sr 1 ?_
  refine OJ.go 1 [(3, .string ByteArray.empty)] ?_
  refine OJ.nil ?_
  refine SJ.seq ?_
  refine SJ.sr 1 ?_
  refine OJ.go 1 [(4, .int .i64 0)] ?_
  refine OJ.nil ?_
  refine SJ.block (id := 0) ?_
  exact SJ.loop (fun s_ : (ByteArray × Int) => [(1, .pointer (some (pt b1 0))), (3, .string s_.1), (4, .int .i64 s_.2)]) (fun s_ : (ByteArray × Int) => [(b1, ((cI .u8).arr 6).enc a0)]) [1, 3, 4] rfl (fun _ _ => rfl) (fun s_ => weirref4_PrintMac.L1_ok a0 b1 s_.1 s_.2)

/-! ### weir/weirlaw4.printed: function 22 -/
noncomputable def weirlaw4_printed.B : Code := (Tryz.f22.body).getD .skip
noncomputable def weirlaw4_printed.cx : Fx := ⟨Tryz.prog, 22, Tryz.f22⟩
noncomputable def weirlaw4_printed.out (r_ : Bool) : Value := .bool r_
noncomputable def weirlaw4_printed.F0 (r_ : Bool) : Reach := .ret (weirlaw4_printed.out r_)
noncomputable def weirlaw4_printed (a0 : weirlaw4_Op) : M Bool :=
  slot 42 >>= fun b1 =>
  if a0.Kind = 4 then
    addr_PrintIP a0.A >>= fun r15 =>
    weirref4_PrintIP a0.A >>= fun r16 =>
    (if r15.1.toList = r16.1.toList then
        weirlaw4_num r15.2 >>= fun r17 =>
        pure (r17 == r16.2)
      else
        pure false) >>= fun y18 =>
    pure y18
  else
    if a0.Kind = 5 then
      addr_PrintPrefix a0.P >>= fun r23 =>
      weirref4_PrintPrefix a0.P >>= fun r24 =>
      (if r23.1.toList = r24.1.toList then
          weirlaw4_num r23.2 >>= fun r25 =>
          pure (r25 == r24.2)
        else
          pure false) >>= fun y26 =>
      pure y26
    else
      addr_PrintMac a0.M >>= fun r27 =>
      weirref4_PrintMac a0.M >>= fun r28 =>
      pure (r27.toList == r28.toList)
theorem weirlaw4_printed_ok (a0 : weirlaw4_Op) : Ref Tryz.prog 22 [c_weirlaw4_Op.val a0] (weirlaw4_printed a0) weirlaw4_printed.out := by
  refine Ref.of (cd := weirlaw4_printed.B) Tryz.func22 ?_
  show SJ weirlaw4_printed.cx [.code weirlaw4_printed.B] [(0, c_weirlaw4_Op.val a0)] [] (weirlaw4_printed a0) weirlaw4_printed.F0
  unfold weirlaw4_printed
  refine SJ.sr 2 ?_
  refine OJ.slotOf (d := 1) (op := (.box 42 (.tmp 0))) (cd := c_weirlaw4_Op) (u := a0) (owed := []) (box_run (by kernel_rfl)) (fun b1 => ?_)
  refine OW.nil ?_
  refine OJ.go 1 [(2, .bool false)] ?_
  refine OJ.nil ?_
  refine SJ.seq ?_
  refine SJ.sr 2 ?_
  refine OJ.go 1 [(13, .pointer (some (pt b1 0)))] ?_
  refine OJ.kld (d := 14) (y := .tmp 13) (cd := (cI .i64)) (j := 0) (b := b1) (o := 0) a0.Kind (pend2 := []) Ty3 rfl (At_weirlaw4_Op_Kind a0) rfl ?_
  refine OJ.nil ?_
  refine SJ.block (id := 0) ?_
  refine SJ.sr 2 ?_
  refine OJ.go 2 [(15, .bool (a0.Kind == 4)), (16, .bool (a0.Kind == 4))] ?_
  refine OJ.nil ?_
  refine SJ.cond (t := (.tmp 15)) (b := (a0.Kind == 4)) beq_iff_eq (fun hc30 => ?_) (fun hc30 => ?_)
  · refine SJ.sr 8 ?_
    refine OJ.go 1 [(18, .pointer (some (pt b1 2)))] ?_
    refine OJ.kld (d := 19) (y := .tmp 18) (cd := c_api_IP) (j := 0) (b := b1) (o := 2) a0.A (pend2 := []) Ty28 rfl (At_weirlaw4_Op_A a0) rfl ?_
    refine OJ.call (d := 20) (g := 10) (ats := #[28]) (args := [.tmp 19]) (owed := []) F10 (addr_PrintIP_ok a0.A) (fun r15 => ?_)
    refine OW.nil ?_
    refine OJ.go 5 [(4, .int .i64 r15.2), (3, .string r15.1), (22, .int .i64 r15.2), (21, .string r15.1), (17, .tuple #[.string r15.1, .int .i64 r15.2])] ?_
    refine OJ.nil ?_
    refine SJ.sr 8 ?_
    refine OJ.go 1 [(24, .pointer (some (pt b1 2)))] ?_
    refine OJ.kld (d := 25) (y := .tmp 24) (cd := c_api_IP) (j := 0) (b := b1) (o := 2) a0.A (pend2 := []) Ty28 rfl (At_weirlaw4_Op_A a0) rfl ?_
    refine OJ.call (d := 26) (g := 41) (ats := #[28]) (args := [.tmp 25]) (owed := []) F41 (weirref4_PrintIP_ok a0.A) (fun r16 => ?_)
    refine OW.nil ?_
    refine OJ.go 5 [(6, .int .i64 r16.2), (5, .string r16.1), (28, .int .i64 r16.2), (27, .string r16.1), (23, .tuple #[.string r16.1, .int .i64 r16.2])] ?_
    refine OJ.nil ?_
    refine SJ.sr 10 ?_
    refine OJ.go 4 [(32, .bool (r15.1.toList == r16.1.toList)), (31, .bool (r15.1.toList == r16.1.toList)), (30, .string r16.1), (29, .string r15.1)] ?_
    refine OJ.join (b := (r15.1.toList == r16.1.toList)) [4, 5, 6, 7, 8] [9] [37] (fun y18 => [(37, .bool y18)]) [] [] (t := 32) beq_iff_eq (fun hp_ => ?_) (fun hp_ => ?_) (fun _ _ _ _ _ _ h_ => h_) (fun y18 => ?_)
    · refine OJ.go 1 [(33, .int .i64 r15.2)] ?_
      refine OJ.call (d := 34) (g := 13) (ats := #[29]) (args := [.tmp 33]) (owed := []) F13 (weirlaw4_num_ok r15.2) (fun r17 => ?_)
      refine OW.nil ?_
      refine OJ.go 3 [(37, .bool (r17 == r16.2)), (36, .bool (r17 == r16.2)), (35, .int .i64 r16.2)] ?_
      exact OJ.nil ⟨(Cov.mem Cov.nil), rfl, _, rfl, by kernel_rfl⟩
    · refine OJ.go 5 [(37, .bool false), (36, undef), (35, undef), (34, undef), (33, undef)] ?_
      exact OJ.nil ⟨(Cov.mem Cov.nil), rfl, _, rfl, by kernel_rfl⟩
    · refine OJ.go 1 [(2, .bool y18)] ?_
      refine OJ.nil ?_
      exact SJ.ret rfl (Res.run (ys := [.bool y18]) (.tmp (by kernel_rfl) .nil) rfl)
  · refine SJ.sr 2 ?_
    refine OJ.go 2 [(38, .bool (a0.Kind == 5)), (39, .bool (a0.Kind == 5))] ?_
    refine OJ.nil ?_
    refine SJ.cond (t := (.tmp 38)) (b := (a0.Kind == 5)) beq_iff_eq (fun hc29 => ?_) (fun hc29 => ?_)
    · refine SJ.sr 8 ?_
      refine OJ.go 1 [(41, .pointer (some (pt b1 36)))] ?_
      refine OJ.kld (d := 42) (y := .tmp 41) (cd := c_api_Prefix) (j := 0) (b := b1) (o := 36) a0.P (pend2 := []) Ty38 rfl (At_weirlaw4_Op_P a0) rfl ?_
      refine OJ.call (d := 43) (g := 42) (ats := #[38]) (args := [.tmp 42]) (owed := []) F42 (addr_PrintPrefix_ok a0.P) (fun r23 => ?_)
      refine OW.nil ?_
      refine OJ.go 5 [(8, .int .i64 r23.2), (7, .string r23.1), (45, .int .i64 r23.2), (44, .string r23.1), (40, .tuple #[.string r23.1, .int .i64 r23.2])] ?_
      refine OJ.nil ?_
      refine SJ.sr 8 ?_
      refine OJ.go 1 [(47, .pointer (some (pt b1 36)))] ?_
      refine OJ.kld (d := 48) (y := .tmp 47) (cd := c_api_Prefix) (j := 0) (b := b1) (o := 36) a0.P (pend2 := []) Ty38 rfl (At_weirlaw4_Op_P a0) rfl ?_
      refine OJ.call (d := 49) (g := 43) (ats := #[38]) (args := [.tmp 48]) (owed := []) F43 (weirref4_PrintPrefix_ok a0.P) (fun r24 => ?_)
      refine OW.nil ?_
      refine OJ.go 5 [(10, .int .i64 r24.2), (9, .string r24.1), (51, .int .i64 r24.2), (50, .string r24.1), (46, .tuple #[.string r24.1, .int .i64 r24.2])] ?_
      refine OJ.nil ?_
      refine SJ.sr 10 ?_
      refine OJ.go 4 [(55, .bool (r23.1.toList == r24.1.toList)), (54, .bool (r23.1.toList == r24.1.toList)), (53, .string r24.1), (52, .string r23.1)] ?_
      refine OJ.join (b := (r23.1.toList == r24.1.toList)) [4, 5, 6, 7, 8] [9] [60] (fun y26 => [(60, .bool y26)]) [] [] (t := 55) beq_iff_eq (fun hp_ => ?_) (fun hp_ => ?_) (fun _ _ _ _ _ _ h_ => h_) (fun y26 => ?_)
      · refine OJ.go 1 [(56, .int .i64 r23.2)] ?_
        refine OJ.call (d := 57) (g := 13) (ats := #[29]) (args := [.tmp 56]) (owed := []) F13 (weirlaw4_num_ok r23.2) (fun r25 => ?_)
        refine OW.nil ?_
        refine OJ.go 3 [(60, .bool (r25 == r24.2)), (59, .bool (r25 == r24.2)), (58, .int .i64 r24.2)] ?_
        exact OJ.nil ⟨(Cov.mem Cov.nil), rfl, _, rfl, by kernel_rfl⟩
      · refine OJ.go 5 [(60, .bool false), (59, undef), (58, undef), (57, undef), (56, undef)] ?_
        exact OJ.nil ⟨(Cov.mem Cov.nil), rfl, _, rfl, by kernel_rfl⟩
      · refine OJ.go 1 [(2, .bool y26)] ?_
        refine OJ.nil ?_
        exact SJ.ret rfl (Res.run (ys := [.bool y26]) (.tmp (by kernel_rfl) .nil) rfl)
    · refine SJ.skip ?_
      refine SJ.inBlock ?_
      refine SJ.sr 4 ?_
      refine OJ.go 1 [(61, .pointer (some (pt b1 54)))] ?_
      refine OJ.kld (d := 62) (y := .tmp 61) (cd := ((cI .u8).arr 6)) (j := 0) (b := b1) (o := 54) a0.M (pend2 := []) Ty40 rfl (At_weirlaw4_Op_M a0) rfl ?_
      refine OJ.call (d := 63) (g := 44) (ats := #[40]) (args := [.tmp 62]) (owed := []) F44 (addr_PrintMac_ok a0.M) (fun r27 => ?_)
      refine OW.nil ?_
      refine OJ.go 1 [(11, .string r27)] ?_
      refine OJ.nil ?_
      refine SJ.sr 4 ?_
      refine OJ.go 1 [(64, .pointer (some (pt b1 54)))] ?_
      refine OJ.kld (d := 65) (y := .tmp 64) (cd := ((cI .u8).arr 6)) (j := 0) (b := b1) (o := 54) a0.M (pend2 := []) Ty40 rfl (At_weirlaw4_Op_M a0) rfl ?_
      refine OJ.call (d := 66) (g := 45) (ats := #[40]) (args := [.tmp 65]) (owed := []) F45 (weirref4_PrintMac_ok a0.M) (fun r28 => ?_)
      refine OW.nil ?_
      refine OJ.go 1 [(12, .string r28)] ?_
      refine OJ.nil ?_
      refine SJ.sr 4 ?_
      refine OJ.go 4 [(2, .bool (r27.toList == r28.toList)), (69, .bool (r27.toList == r28.toList)), (68, .string r28), (67, .string r27)] ?_
      refine OJ.nil ?_
      exact SJ.ret rfl (Res.run (ys := [.bool (r27.toList == r28.toList)]) (.tmp (by kernel_rfl) .nil) rfl)

/-! ### weir/weirlaw4.plays: function 14 -/
noncomputable def weirlaw4_plays.B : Code := (Tryz.f14.body).getD .skip
noncomputable def weirlaw4_plays.cx : Fx := ⟨Tryz.prog, 14, Tryz.f14⟩
noncomputable def weirlaw4_plays.out (r_ : Bool) : Value := .bool r_
noncomputable def weirlaw4_plays.F0 (r_ : Bool) : Reach := .ret (weirlaw4_plays.out r_)
noncomputable def weirlaw4_plays.K1 (a0 : weirlaw4_Op) (j16 : Bool) : M Bool :=
  if j16 = true then
    weirlaw4_printed a0 >>= fun r18 =>
    pure r18
  else
    fail
theorem weirlaw4_plays.K1_ok (a0 : weirlaw4_Op) (b1 : Nat) (j16 : Bool) :
    SJ weirlaw4_plays.cx [.code (c2 (c2 (c2 (c1 (c2 (c1 (c2 weirlaw4_plays.B))))))), .inBlock 0, .code (c2 (c2 weirlaw4_plays.B))] [(1, .pointer (some (pt b1 0))), (12, .int .i64 a0.Kind), (19, .bool j16)] [(b1, c_weirlaw4_Op.enc a0)] (weirlaw4_plays.K1 a0 j16) weirlaw4_plays.F0 := by
  unfold weirlaw4_plays.K1
  refine SJ.cond (t := (.tmp 19)) (b := j16) Iff.rfl (fun hc19 => ?_) (fun hc19 => ?_)
  · refine SJ.sr 3 ?_
    refine OJ.kld (d := 23) (y := .tmp 1) (cd := c_weirlaw4_Op) (j := 0) (b := b1) (o := 0) a0 (pend2 := []) Ty42 rfl (At.whole _) rfl ?_
    refine OJ.call (d := 24) (g := 22) (ats := #[42]) (args := [.tmp 23]) (owed := []) F22 (weirlaw4_printed_ok a0) (fun r18 => ?_)
    refine OW.nil ?_
    refine OJ.go 1 [(2, .bool r18)] ?_
    refine OJ.nil ?_
    exact SJ.ret rfl (Res.run (ys := [.bool r18]) (.tmp (by kernel_rfl) .nil) rfl)
  · exact SJ.fail
noncomputable def weirlaw4_plays.K2 (a0 : weirlaw4_Op) (j20 : Bool) : M Bool :=
  weirlaw4_plays.K1 a0 j20
theorem weirlaw4_plays.K2_ok (a0 : weirlaw4_Op) (b1 : Nat) (j20 : Bool) :
    SJ weirlaw4_plays.cx [.code (c2 (c2 (c2 (c1 (c2 (c1 (c2 weirlaw4_plays.B))))))), .inBlock 0, .code (c2 (c2 weirlaw4_plays.B))] [(1, .pointer (some (pt b1 0))), (12, .int .i64 a0.Kind), (19, .bool j20)] [(b1, c_weirlaw4_Op.enc a0)] (weirlaw4_plays.K2 a0 j20) weirlaw4_plays.F0 := by
  unfold weirlaw4_plays.K2
  refine SJ.less [1, 12, 19] (m' := [(1, .pointer (some (pt b1 0))), (12, .int .i64 a0.Kind), (19, .bool j20)]) ?_
  exact weirlaw4_plays.K1_ok a0 b1 j20
noncomputable def weirlaw4_plays.K3 (a0 : weirlaw4_Op) (j4 : Bool) : M Bool :=
  if j4 = true then
    fail
  else
    if a0.Kind = 4 then
      weirlaw4_plays.K1 a0 (a0.Kind == 4)
    else
      if a0.Kind = 5 then
        weirlaw4_plays.K2 a0 (a0.Kind == 5)
      else
        weirlaw4_plays.K2 a0 (a0.Kind == 6)
theorem weirlaw4_plays.K3_ok (a0 : weirlaw4_Op) (b1 : Nat) (j4 : Bool) :
    SJ weirlaw4_plays.cx [.code (c2 (c1 (c2 (c1 (c2 weirlaw4_plays.B))))), .inBlock 0, .code (c2 (c2 weirlaw4_plays.B))] [(1, .pointer (some (pt b1 0))), (12, .int .i64 a0.Kind), (13, .bool j4)] [(b1, c_weirlaw4_Op.enc a0)] (weirlaw4_plays.K3 a0 j4) weirlaw4_plays.F0 := by
  unfold weirlaw4_plays.K3
  refine SJ.cond (t := (.tmp 13)) (b := j4) Iff.rfl (fun hc23 => ?_) (fun hc23 => ?_)
  · exact SJ.fail
  · refine SJ.seq ?_
    refine SJ.sr 2 ?_
    refine OJ.go 2 [(19, .bool (a0.Kind == 4)), (20, .bool (a0.Kind == 4))] ?_
    refine OJ.nil ?_
    refine SJ.cond (t := (.tmp 19)) (b := (a0.Kind == 4)) beq_iff_eq (fun hc22 => ?_) (fun hc22 => ?_)
    · refine SJ.skip ?_
      refine SJ.less [1, 12, 19] (m' := [(1, .pointer (some (pt b1 0))), (12, .int .i64 a0.Kind), (19, .bool (a0.Kind == 4))]) ?_
      exact weirlaw4_plays.K1_ok a0 b1 (a0.Kind == 4)
    · refine SJ.sr 2 ?_
      refine OJ.go 2 [(19, .bool (a0.Kind == 5)), (21, .bool (a0.Kind == 5))] ?_
      refine OJ.nil ?_
      refine SJ.cond (t := (.tmp 19)) (b := (a0.Kind == 5)) beq_iff_eq (fun hc21 => ?_) (fun hc21 => ?_)
      · refine SJ.skip ?_
        refine SJ.less [1, 12, 19] (m' := [(1, .pointer (some (pt b1 0))), (12, .int .i64 a0.Kind), (19, .bool (a0.Kind == 5))]) ?_
        exact weirlaw4_plays.K2_ok a0 b1 (a0.Kind == 5)
      · refine SJ.rg 2 ?_
        refine OJ.go 2 [(19, .bool (a0.Kind == 6)), (22, .bool (a0.Kind == 6))] ?_
        refine OJ.nil ?_
        refine SJ.less [1, 12, 19] (m' := [(1, .pointer (some (pt b1 0))), (12, .int .i64 a0.Kind), (19, .bool (a0.Kind == 6))]) ?_
        exact weirlaw4_plays.K2_ok a0 b1 (a0.Kind == 6)
noncomputable def weirlaw4_plays.K4 (a0 : weirlaw4_Op) (j24 : Bool) : M Bool :=
  weirlaw4_plays.K3 a0 j24
theorem weirlaw4_plays.K4_ok (a0 : weirlaw4_Op) (b1 : Nat) (j24 : Bool) :
    SJ weirlaw4_plays.cx [.code (c2 (c1 (c2 (c1 (c2 weirlaw4_plays.B))))), .inBlock 0, .code (c2 (c2 weirlaw4_plays.B))] [(1, .pointer (some (pt b1 0))), (12, .int .i64 a0.Kind), (13, .bool j24)] [(b1, c_weirlaw4_Op.enc a0)] (weirlaw4_plays.K4 a0 j24) weirlaw4_plays.F0 := by
  unfold weirlaw4_plays.K4
  refine SJ.less [1, 12, 13] (m' := [(1, .pointer (some (pt b1 0))), (12, .int .i64 a0.Kind), (13, .bool j24)]) ?_
  exact weirlaw4_plays.K3_ok a0 b1 j24
noncomputable def weirlaw4_plays (a0 : weirlaw4_Op) : M Bool :=
  slot 42 >>= fun b1 =>
  if a0.Kind = 1 then
    weirlaw4_plays.K3 a0 (a0.Kind == 1)
  else
    if a0.Kind = 2 then
      weirlaw4_plays.K4 a0 (a0.Kind == 2)
    else
      weirlaw4_plays.K4 a0 (a0.Kind == 3)
theorem weirlaw4_plays_ok (a0 : weirlaw4_Op) : Ref Tryz.prog 14 [c_weirlaw4_Op.val a0] (weirlaw4_plays a0) weirlaw4_plays.out := by
  refine Ref.of (cd := weirlaw4_plays.B) Tryz.func14 ?_
  show SJ weirlaw4_plays.cx [.code weirlaw4_plays.B] [(0, c_weirlaw4_Op.val a0)] [] (weirlaw4_plays a0) weirlaw4_plays.F0
  unfold weirlaw4_plays
  refine SJ.sr 2 ?_
  refine OJ.slotOf (d := 1) (op := (.box 42 (.tmp 0))) (cd := c_weirlaw4_Op) (u := a0) (owed := []) (box_run (by kernel_rfl)) (fun b1 => ?_)
  refine OW.nil ?_
  refine OJ.go 1 [(2, .bool false)] ?_
  refine OJ.nil ?_
  refine SJ.seq ?_
  refine SJ.sr 2 ?_
  refine OJ.go 1 [(11, .pointer (some (pt b1 0)))] ?_
  refine OJ.kld (d := 12) (y := .tmp 11) (cd := (cI .i64)) (j := 0) (b := b1) (o := 0) a0.Kind (pend2 := []) Ty3 rfl (At_weirlaw4_Op_Kind a0) rfl ?_
  refine OJ.nil ?_
  refine SJ.block (id := 0) ?_
  refine SJ.seq ?_
  refine SJ.sr 2 ?_
  refine OJ.go 2 [(13, .bool (a0.Kind == 1)), (14, .bool (a0.Kind == 1))] ?_
  refine OJ.nil ?_
  refine SJ.cond (t := (.tmp 13)) (b := (a0.Kind == 1)) beq_iff_eq (fun hc26 => ?_) (fun hc26 => ?_)
  · refine SJ.skip ?_
    refine SJ.less [1, 12, 13] (m' := [(1, .pointer (some (pt b1 0))), (12, .int .i64 a0.Kind), (13, .bool (a0.Kind == 1))]) ?_
    exact weirlaw4_plays.K3_ok a0 b1 (a0.Kind == 1)
  · refine SJ.sr 2 ?_
    refine OJ.go 2 [(13, .bool (a0.Kind == 2)), (15, .bool (a0.Kind == 2))] ?_
    refine OJ.nil ?_
    refine SJ.cond (t := (.tmp 13)) (b := (a0.Kind == 2)) beq_iff_eq (fun hc25 => ?_) (fun hc25 => ?_)
    · refine SJ.skip ?_
      refine SJ.less [1, 12, 13] (m' := [(1, .pointer (some (pt b1 0))), (12, .int .i64 a0.Kind), (13, .bool (a0.Kind == 2))]) ?_
      exact weirlaw4_plays.K4_ok a0 b1 (a0.Kind == 2)
    · refine SJ.rg 2 ?_
      refine OJ.go 2 [(13, .bool (a0.Kind == 3)), (16, .bool (a0.Kind == 3))] ?_
      refine OJ.nil ?_
      refine SJ.less [1, 12, 13] (m' := [(1, .pointer (some (pt b1 0))), (12, .int .i64 a0.Kind), (13, .bool (a0.Kind == 3))]) ?_
      exact weirlaw4_plays.K4_ok a0 b1 (a0.Kind == 3)

/-! ### weir/weirlaw4.upTo: function 8 -/
noncomputable def weirlaw4_upTo.B : Code := (Tryz.f8.body).getD .skip
noncomputable def weirlaw4_upTo.cx : Fx := ⟨Tryz.prog, 8, Tryz.f8⟩
noncomputable def weirlaw4_upTo.out (r_ : Bool) : Value := .bool r_
noncomputable def weirlaw4_upTo.F0 (r_ : Bool) : Reach := .ret (weirlaw4_upTo.out r_)
noncomputable def weirlaw4_upTo.F1 (a0 : Sl) (a1 : Int) (a2 : Int) : (LS Int Bool) → Reach := loopF [.inLoop (c1 (c1 (c2 (c1 (c2 weirlaw4_upTo.B))))), .inBlock 0, .code (c2 (c2 weirlaw4_upTo.B))] (fun s_ : Int => [(0, Sl.v a0), (1, .int .i64 a1), (2, .int .i64 a2), (7, .int .i64 s_)]) (fun s_ : Int => []) weirlaw4_upTo.F0
noncomputable def weirlaw4_upTo.L1 (a0 : Sl) (a1 : Int) (a2 : Int) (s1 : Int) : M (LS Int Bool) :=
  if s1 < (a0.len : Int) then
    idx a0.a a0.len s1 61 >>= fun p17 =>
    ld (cI .i64) p17 >>= fun x18 =>
    (if x18 ≥ a1 then
        idx a0.a a0.len s1 61 >>= fun p19 =>
        ld (cI .i64) p19 >>= fun x20 =>
        pure (decide (x20 ≤ a2))
      else
        pure false) >>= fun y21 =>
    if y21 = true then
      idx a0.a a0.len s1 61 >>= fun p26 =>
      ld c_weirlaw4_Op p26 >>= fun x27 =>
      weirlaw4_plays x27 >>= fun r28 =>
      if ¬ (r28 = true) then
        pure (LS.done false)
      else
        pure (LS.next (IntKind.wrap .i64 (s1 + 1)))
    else
      pure (LS.next (IntKind.wrap .i64 (s1 + 1)))
  else
    pure (LS.done true)
theorem weirlaw4_upTo.L1_ok (a0 : Sl) (a1 : Int) (a2 : Int) (s1 : Int) :
    SJ weirlaw4_upTo.cx [.code (c1 (c1 (c2 (c1 (c2 weirlaw4_upTo.B))))), .inLoop (c1 (c1 (c2 (c1 (c2 weirlaw4_upTo.B))))), .inBlock 0, .code (c2 (c2 weirlaw4_upTo.B))] [(0, Sl.v a0), (1, .int .i64 a1), (2, .int .i64 a2), (7, .int .i64 s1)] [] (weirlaw4_upTo.L1 a0 a1 a2 s1) (weirlaw4_upTo.F1 a0 a1 a2) := by
  unfold weirlaw4_upTo.L1
  refine SJ.seq ?_
  refine SJ.sr 4 ?_
  refine OJ.go 4 [(12, .bool (decide (s1 < (a0.len : Int)))), (11, .int .i64 (a0.len : Int)), (10, Sl.v a0), (9, .int .i64 s1)] ?_
  refine OJ.nil ?_
  refine SJ.cond (t := (.tmp 12)) (b := decide (s1 < (a0.len : Int))) decide_eq_true_iff (fun hc31 => ?_) (fun hc31 => ?_)
  · refine SJ.skip ?_
    refine SJ.seq ?_
    refine SJ.block (id := 1) ?_
    refine SJ.sr 16 ?_
    refine OJ.go 2 [(16, .int .i64 s1), (15, Sl.v a0)] ?_
    refine OJ.idxS (d := 17) (T := 22) (y := .tmp 15) (j := .tmp 16) (E := 42) (cap := a0.cap) (k := .i64) (fun p17 => ?_)
    refine OJ.go 1 [(18, .pointer (some p17))] ?_
    refine OJ.ld (d := 19) (y := .tmp 18) (pend2 := fun x18 => []) Ty3 (fun _ => rfl) (fun x18 => ?_)
    refine OJ.go 3 [(22, .bool (decide (x18 ≥ a1))), (21, .bool (decide (x18 ≥ a1))), (20, .int .i64 a1)] ?_
    refine OJ.join (b := decide (x18 ≥ a1)) [8, 9, 10, 11, 12, 13, 14, 15] [] [0, 1, 2, 7, 30] (fun y21 => [(0, Sl.v a0), (1, .int .i64 a1), (2, .int .i64 a2), (7, .int .i64 s1), (30, .bool y21)]) [] [] (t := 22) decide_eq_true_iff (fun hp_ => ?_) (fun hp_ => ?_) (fun _ _ _ _ _ _ h_ => h_) (fun y21 => ?_)
    · refine OJ.go 2 [(24, .int .i64 s1), (23, Sl.v a0)] ?_
      refine OJ.idxS (d := 25) (T := 22) (y := .tmp 23) (j := .tmp 24) (E := 42) (cap := a0.cap) (k := .i64) (fun p19 => ?_)
      refine OJ.go 1 [(26, .pointer (some p19))] ?_
      refine OJ.ld (d := 27) (y := .tmp 26) (pend2 := fun x20 => []) Ty3 (fun _ => rfl) (fun x20 => ?_)
      refine OJ.go 3 [(30, .bool (decide (x20 ≤ a2))), (29, .bool (decide (x20 ≤ a2))), (28, .int .i64 a2)] ?_
      exact OJ.nil ⟨(Cov.mem Cov.nil), rfl, _, rfl, by kernel_rfl⟩
    · refine OJ.go 8 [(30, .bool false), (29, undef), (28, undef), (27, undef), (26, undef), (25, undef), (24, undef), (23, undef)] ?_
      exact OJ.nil ⟨(Cov.mem Cov.nil), rfl, _, rfl, by kernel_rfl⟩
    · refine OJ.nil ?_
      refine SJ.cond (t := (.tmp 30)) (b := y21) Iff.rfl (fun hc30 => ?_) (fun hc30 => ?_)
      · refine SJ.sr 6 ?_
        refine OJ.go 2 [(32, .int .i64 s1), (31, Sl.v a0)] ?_
        refine OJ.idxS (d := 33) (T := 22) (y := .tmp 31) (j := .tmp 32) (E := 42) (cap := a0.cap) (k := .i64) (fun p26 => ?_)
        refine OJ.ld (d := 34) (y := .tmp 33) (pend2 := fun x27 => []) Ty42 (fun _ => rfl) (fun x27 => ?_)
        refine OJ.call (d := 35) (g := 14) (ats := #[42]) (args := [.tmp 34]) (owed := []) F14 (weirlaw4_plays_ok x27) (fun r28 => ?_)
        refine OW.nil ?_
        refine OJ.go 1 [(8, .bool r28)] ?_
        refine OJ.nil ?_
        refine SJ.sr 2 ?_
        refine OJ.go 2 [(37, .bool (!r28)), (36, .bool r28)] ?_
        refine OJ.nil ?_
        refine SJ.cond (t := (.tmp 37)) (b := (!r28)) (bnot_iff Iff.rfl) (fun hc29 => ?_) (fun hc29 => ?_)
        · refine SJ.sr 1 ?_
          refine OJ.go 1 [(6, .bool false)] ?_
          refine OJ.nil ?_
          exact SJ.ret rfl (Res.run (ys := [.bool false]) (.tmp (by kernel_rfl) .nil) rfl)
        · refine SJ.skip ?_
          refine SJ.inBlock ?_
          refine SJ.rg 3 ?_
          refine OJ.go 3 [(7, .int .i64 (IntKind.wrap .i64 (s1 + 1))), (14, .int .i64 (IntKind.wrap .i64 (s1 + 1))), (13, .int .i64 s1)] ?_
          refine OJ.nil ?_
          exact SJ.at_ [0, 1, 2, 7] rfl
      · refine SJ.skip ?_
        refine SJ.inBlock ?_
        refine SJ.rg 3 ?_
        refine OJ.go 3 [(7, .int .i64 (IntKind.wrap .i64 (s1 + 1))), (14, .int .i64 (IntKind.wrap .i64 (s1 + 1))), (13, .int .i64 s1)] ?_
        refine OJ.nil ?_
        exact SJ.at_ [0, 1, 2, 7] rfl
  · refine SJ.exit (id := 0) (by rfl) ?_
    refine SJ.sr 1 ?_
    refine OJ.go 1 [(6, .bool true)] ?_
    refine OJ.nil ?_
    exact SJ.ret rfl (Res.run (ys := [.bool true]) (.tmp (by kernel_rfl) .nil) rfl)
noncomputable def weirlaw4_upTo (a0 : Sl) (a1 : Int) (a2 : Int) : M Bool :=
  loopM (fun s_ : Int => weirlaw4_upTo.L1 a0 a1 a2 s_) 0
theorem weirlaw4_upTo_ok (a0 : Sl) (a1 : Int) (a2 : Int) : Ref Tryz.prog 8 [Sl.v a0, .int .i64 a1, .int .i64 a2] (weirlaw4_upTo a0 a1 a2) weirlaw4_upTo.out := by
  refine Ref.of (cd := weirlaw4_upTo.B) Tryz.func8 ?_
  show SJ weirlaw4_upTo.cx [.code weirlaw4_upTo.B] [(0, Sl.v a0), (1, .int .i64 a1), (2, .int .i64 a2)] [] (weirlaw4_upTo a0 a1 a2) weirlaw4_upTo.F0
  unfold weirlaw4_upTo
  refine SJ.sr 1 ?_
  refine OJ.go 1 [(6, .bool false)] ?_
  refine OJ.nil ?_
  refine SJ.seq ?_
  refine SJ.sr 1 ?_
  refine OJ.go 1 [(7, .int .i64 0)] ?_
  refine OJ.nil ?_
  refine SJ.block (id := 0) ?_
  exact SJ.loop (fun s_ : Int => [(0, Sl.v a0), (1, .int .i64 a1), (2, .int .i64 a2), (7, .int .i64 s_)]) (fun s_ : Int => []) [0, 1, 2, 7] rfl (fun _ _ => rfl) (fun s_ => weirlaw4_upTo.L1_ok a0 a1 a2 s_)

/-! ### weir/weirlaw4.AddrPrints: function 4 -/
noncomputable def weirlaw4_AddrPrints.B : Code := (Tryz.f4.body).getD .skip
noncomputable def weirlaw4_AddrPrints.cx : Fx := ⟨Tryz.prog, 4, Tryz.f4⟩
noncomputable def weirlaw4_AddrPrints.out (r_ : Bool) : Value := .bool r_
noncomputable def weirlaw4_AddrPrints.F0 (r_ : Bool) : Reach := .ret (weirlaw4_AddrPrints.out r_)
noncomputable def weirlaw4_AddrPrints (a0 : Sl) : M Bool :=
  weirlaw4_started >>= fun r1 =>
  (if r1 = true then
      weirlaw4_upTo a0 4 6 >>= fun r2 =>
      pure r2
    else
      pure false) >>= fun y3 =>
  pure y3
theorem weirlaw4_AddrPrints_ok (a0 : Sl) : Ref Tryz.prog 4 [Sl.v a0] (weirlaw4_AddrPrints a0) weirlaw4_AddrPrints.out := by
  refine Ref.of (cd := weirlaw4_AddrPrints.B) Tryz.func4 ?_
  show SJ weirlaw4_AddrPrints.cx [.code weirlaw4_AddrPrints.B] [(0, Sl.v a0)] [] (weirlaw4_AddrPrints a0) weirlaw4_AddrPrints.F0
  unfold weirlaw4_AddrPrints
  refine SJ.sr 1 ?_
  refine OJ.go 1 [(2, .bool false)] ?_
  refine OJ.nil ?_
  refine SJ.sr 6 ?_
  refine OJ.call (d := 3) (g := 7) (ats := #[]) (args := []) (owed := []) F7 (weirlaw4_started_ok ) (fun r1 => ?_)
  refine OW.nil ?_
  refine OJ.go 1 [(4, .bool r1)] ?_
  refine OJ.join (b := r1) [2, 3, 4] [5] [7] (fun y3 => [(7, .bool y3)]) [] [] (t := 4) Iff.rfl (fun hp_ => ?_) (fun hp_ => ?_) (fun _ _ _ _ _ _ h_ => h_) (fun y3 => ?_)
  · refine OJ.go 1 [(5, Sl.v a0)] ?_
    refine OJ.call (d := 6) (g := 8) (ats := #[22, 3, 3]) (args := [.tmp 5, .const (.int .i64 4), .const (.int .i64 6)]) (owed := []) F8 (weirlaw4_upTo_ok a0 4 6) (fun r2 => ?_)
    refine OW.nil ?_
    refine OJ.go 1 [(7, .bool r2)] ?_
    exact OJ.nil ⟨(Cov.mem Cov.nil), rfl, _, rfl, by kernel_rfl⟩
  · refine OJ.go 3 [(7, .bool false), (6, undef), (5, undef)] ?_
    exact OJ.nil ⟨(Cov.mem Cov.nil), rfl, _, rfl, by kernel_rfl⟩
  · refine OJ.go 1 [(2, .bool y3)] ?_
    refine OJ.nil ?_
    exact SJ.ret rfl (Res.run (ys := [.bool y3]) (.tmp (by kernel_rfl) .nil) rfl)
end Go.Proofs.YtddmmgcfanpmmaaGreatDoor.Lx
