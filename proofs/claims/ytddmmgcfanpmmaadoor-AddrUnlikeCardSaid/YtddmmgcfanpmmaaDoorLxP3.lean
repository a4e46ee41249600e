/- Programs of the M-world for Go functions, each with the proof that the Go text does what it says. Printed by lxgen.py. -/
import Derived.Test.YtddmmgcfanpmmaaDoorLxT
import Derived.Test.YtddmmgcfanpmmaaDoorLxP0
import Derived.Test.YtddmmgcfanpmmaaDoorLxP1
import Derived.Test.YtddmmgcfanpmmaaDoorLxP2
set_option linter.unusedVariables false
set_option linter.unusedSimpArgs false
namespace Go.Proofs.YtddmmgcfanpmmaaDoor.Lx
open Go Go.Proofs
/-! ### weir/addr.ParseMac: function 21 -/
noncomputable def addr_ParseMac.B : Code := (Tryd.f21.body).getD .skip
noncomputable def addr_ParseMac.cx : Fx := ⟨Tryd.prog, 21, Tryd.f21⟩
noncomputable def addr_ParseMac.out (r_ : ((Vec Int 6) × Int × Int)) : Value := .tuple #[((cI .u8).arr 6).val r_.1, .int .i64 r_.2.1, .int .i64 r_.2.2]
noncomputable def addr_ParseMac.F0 (r_ : ((Vec Int 6) × Int × Int)) : Reach := .ret (addr_ParseMac.out r_)
noncomputable def addr_ParseMac.F1 (a0 : ByteArray) (b1 : Nat) (b2 : Nat) : (LS (Int × (Vec Int 6) × (Vec Int 6)) ((Vec Int 6) × Int × Int)) → Reach := loopF [.inLoop (c1 (c1 (c2 (c1 (c2 (c2 (c2 addr_ParseMac.B))))))), .inBlock 0, .code (c2 (c2 (c2 (c2 addr_ParseMac.B))))] (fun s_ : (Int × (Vec Int 6) × (Vec Int 6)) => [(0, .string a0), (2, .pointer (some (pt b1 0))), (5, .pointer (some (pt b2 0))), (12, .int .i64 s_.1)]) (fun s_ : (Int × (Vec Int 6) × (Vec Int 6)) => [(b2, ((cI .u8).arr 6).enc s_.2.1), (b1, ((cI .u8).arr 6).enc s_.2.2)]) addr_ParseMac.F0
noncomputable def addr_ParseMac.L1 (a0 : ByteArray) (s3 : Int) (s4 : (Vec Int 6)) (s5 : (Vec Int 6)) : M (LS (Int × (Vec Int 6) × (Vec Int 6)) ((Vec Int 6) × Int × Int)) :=
  if s3 < 17 then
    if s3 = (a0.size : Int) then
      pure (LS.done ((⟨[0, 0, 0, 0, 0, 0], rfl⟩ : (Vec Int 6)), 42, s3))
    else
      if (Int.tmod s3 3) = 2 then
        chk ((0 : Int) ≤ s3 ∧ s3 < (a0.size : Int)) >>= fun _ =>
        if (sb a0 s3) ≠ 58 then
          pure (LS.done ((⟨[0, 0, 0, 0, 0, 0], rfl⟩ : (Vec Int 6)), 41, s3))
        else
          pure (LS.next (IntKind.wrap .i64 (s3 + 1), s4, s5))
      else
        chk ((0 : Int) ≤ s3 ∧ s3 < (a0.size : Int)) >>= fun _ =>
        addr_hexa (sb a0 s3) >>= fun r31 =>
        if r31 < 0 then
          pure (LS.done ((⟨[0, 0, 0, 0, 0, 0], rfl⟩ : (Vec Int 6)), 41, s3))
        else
          chk ((0 : Int) ≤ (IntKind.wrap .i64 (Int.tdiv s3 3)) ∧ (IntKind.wrap .i64 (Int.tdiv s3 3)) < (6 : Nat)) >>= fun _ =>
          chk ((0 : Int) ≤ (IntKind.wrap .i64 (Int.tdiv s3 3)) ∧ (IntKind.wrap .i64 (Int.tdiv s3 3)) < (6 : Nat)) >>= fun _ =>
          pure (LS.next (IntKind.wrap .i64 (s3 + 1), (Vec.s s4 (IntKind.wrap .i64 (Int.tdiv s3 3)) (bor .u8 (IntKind.wrap .u8 ((Vec.g s4 (IntKind.wrap .i64 (Int.tdiv s3 3)) 0) * 2 ^ 4)) (IntKind.wrap .u8 r31))), s5))
  else
    pure (LS.done (s4, 0, 0))
theorem addr_ParseMac.L1_ok (a0 : ByteArray) (b1 : Nat) (b2 : Nat) (s3 : Int) (s4 : (Vec Int 6)) (s5 : (Vec Int 6)) :
    SJ addr_ParseMac.cx [.code (c1 (c1 (c2 (c1 (c2 (c2 (c2 addr_ParseMac.B))))))), .inLoop (c1 (c1 (c2 (c1 (c2 (c2 (c2 addr_ParseMac.B))))))), .inBlock 0, .code (c2 (c2 (c2 (c2 addr_ParseMac.B))))] [(0, .string a0), (2, .pointer (some (pt b1 0))), (5, .pointer (some (pt b2 0))), (12, .int .i64 s3)] [(b2, ((cI .u8).arr 6).enc s4), (b1, ((cI .u8).arr 6).enc s5)] (addr_ParseMac.L1 a0 s3 s4 s5) (addr_ParseMac.F1 a0 b1 b2) := by
  unfold addr_ParseMac.L1
  refine SJ.sr 1 ?_
  refine OJ.go 1 [(13, .bool (decide (s3 < 17)))] ?_
  refine OJ.nil ?_
  refine SJ.seq ?_
  refine SJ.cond (t := (.tmp 13)) (b := decide (s3 < 17)) decide_eq_true_iff (fun hc39 => ?_) (fun hc39 => ?_)
  · refine SJ.skip ?_
    refine SJ.seq ?_
    refine SJ.block (id := 1) ?_
    refine SJ.sr 2 ?_
    refine OJ.go 2 [(6, .int .i64 s3), (14, .int .i64 s3)] ?_
    refine OJ.nil ?_
    refine SJ.seq ?_
    refine SJ.sr 4 ?_
    refine OJ.go 4 [(18, .bool (s3 == (a0.size : Int))), (17, .int .i64 (a0.size : Int)), (16, .string a0), (15, .int .i64 s3)] ?_
    refine OJ.nil ?_
    refine SJ.cond (t := (.tmp 18)) (b := (s3 == (a0.size : Int))) beq_iff_eq (fun hc38 => ?_) (fun hc38 => ?_)
    · refine SJ.sr 5 ?_
      refine OJ.build (d := 19) (T := 42) (parts := []) (ps := []) (cd := ((cI .u8).arr 6)) (z0 := (Vec.rep 6 0)) (⟨[0, 0, 0, 0, 0, 0], rfl⟩ : (Vec Int 6)) Ty42 rfl Filled.nil ?_
      refine OJ.go 1 [(20, .int .i64 s3)] ?_
      refine OJ.kst (y := .tmp 2) (z := .tmp 19) (cd := ((cI .u8).arr 6)) (u := (⟨[0, 0, 0, 0, 0, 0], rfl⟩ : (Vec Int 6))) (j := 1) (b := b1) (o := 0) (((cI .u8).arr 6).enc (⟨[0, 0, 0, 0, 0, 0], rfl⟩ : (Vec Int 6))) (owed := []) Ty42 rfl (Upd.whole ((Cod.len _ _).trans (Cod.len _ _).symm)) rfl ?_
      refine OW.nil ?_
      refine OJ.go 2 [(4, .int .i64 s3), (3, .int .i64 42)] ?_
      refine OJ.nil ?_
      exact SJ.ret rfl (Res.run (ys := [((cI .u8).arr 6).val (⟨[0, 0, 0, 0, 0, 0], rfl⟩ : (Vec Int 6)), .int .i64 42, .int .i64 s3]) (.cell (j := 1) (b := b1) (cd := ((cI .u8).arr 6)) (q := (⟨[0, 0, 0, 0, 0, 0], rfl⟩ : (Vec Int 6))) (by kernel_rfl) rfl Ty42 (At.whole _) (.tmp (by kernel_rfl) (.tmp (by kernel_rfl) .nil))) rfl)
    · refine SJ.skip ?_
      refine SJ.seq ?_
      refine SJ.sr 3 ?_
      refine OJ.go 3 [(23, .bool ((Int.tmod s3 3) == 2)), (22, .int .i64 (Int.tmod s3 3)), (21, .int .i64 s3)] ?_
      refine OJ.nil ?_
      refine SJ.cond (t := (.tmp 23)) (b := ((Int.tmod s3 3) == 2)) beq_iff_eq (fun hc37 => ?_) (fun hc37 => ?_)
      · refine SJ.seq ?_
        refine SJ.sr 4 ?_
        refine OJ.go 2 [(25, .int .i64 s3), (24, .string a0)] ?_
        refine OJ.idxT (d := 26) (T := 9) (y := .tmp 24) (j := .tmp 25) (k := .i64) (fun hb26 hb27 => ?_)
        refine OJ.go 1 [(27, .bool ((sb a0 s3) != 58))] ?_
        refine OJ.nil ?_
        refine SJ.cond (t := (.tmp 27)) (b := ((sb a0 s3) != 58)) bne_iff_ne (fun hc28 => ?_) (fun hc28 => ?_)
        · refine SJ.sr 5 ?_
          refine OJ.build (d := 28) (T := 42) (parts := []) (ps := []) (cd := ((cI .u8).arr 6)) (z0 := (Vec.rep 6 0)) (⟨[0, 0, 0, 0, 0, 0], rfl⟩ : (Vec Int 6)) Ty42 rfl Filled.nil ?_
          refine OJ.go 1 [(29, .int .i64 s3)] ?_
          refine OJ.kst (y := .tmp 2) (z := .tmp 28) (cd := ((cI .u8).arr 6)) (u := (⟨[0, 0, 0, 0, 0, 0], rfl⟩ : (Vec Int 6))) (j := 1) (b := b1) (o := 0) (((cI .u8).arr 6).enc (⟨[0, 0, 0, 0, 0, 0], rfl⟩ : (Vec Int 6))) (owed := []) Ty42 rfl (Upd.whole ((Cod.len _ _).trans (Cod.len _ _).symm)) rfl ?_
          refine OW.nil ?_
          refine OJ.go 2 [(4, .int .i64 s3), (3, .int .i64 41)] ?_
          refine OJ.nil ?_
          exact SJ.ret rfl (Res.run (ys := [((cI .u8).arr 6).val (⟨[0, 0, 0, 0, 0, 0], rfl⟩ : (Vec Int 6)), .int .i64 41, .int .i64 s3]) (.cell (j := 1) (b := b1) (cd := ((cI .u8).arr 6)) (q := (⟨[0, 0, 0, 0, 0, 0], rfl⟩ : (Vec Int 6))) (by kernel_rfl) rfl Ty42 (At.whole _) (.tmp (by kernel_rfl) (.tmp (by kernel_rfl) .nil))) rfl)
        · refine SJ.skip ?_
          refine SJ.exit (id := 1) (by rfl) ?_
          refine SJ.rg 2 ?_
          refine OJ.go 2 [(12, .int .i64 (IntKind.wrap .i64 (s3 + 1))), (49, .int .i64 (IntKind.wrap .i64 (s3 + 1)))] ?_
          refine OJ.nil ?_
          exact SJ.at_ [0, 2, 5, 12] rfl
      · refine SJ.skip ?_
        refine SJ.sr 5 ?_
        refine OJ.go 2 [(31, .int .i64 s3), (30, .string a0)] ?_
        refine OJ.idxT (d := 32) (T := 9) (y := .tmp 30) (j := .tmp 31) (k := .i64) (fun hb29 hb30 => ?_)
        refine OJ.call (d := 33) (g := 36) (ats := #[5]) (args := [.tmp 32]) (owed := []) F36 (addr_hexa_ok (sb a0 s3)) (fun r31 => ?_)
        refine OW.nil ?_
        refine OJ.go 1 [(7, .int .i64 r31)] ?_
        refine OJ.nil ?_
        refine SJ.seq ?_
        refine SJ.sr 2 ?_
        refine OJ.go 2 [(35, .bool (decide (r31 < 0))), (34, .int .i64 r31)] ?_
        refine OJ.nil ?_
        refine SJ.cond (t := (.tmp 35)) (b := decide (r31 < 0)) decide_eq_true_iff (fun hc36 => ?_) (fun hc36 => ?_)
        · refine SJ.sr 5 ?_
          refine OJ.build (d := 36) (T := 42) (parts := []) (ps := []) (cd := ((cI .u8).arr 6)) (z0 := (Vec.rep 6 0)) (⟨[0, 0, 0, 0, 0, 0], rfl⟩ : (Vec Int 6)) Ty42 rfl Filled.nil ?_
          refine OJ.go 1 [(37, .int .i64 s3)] ?_
          refine OJ.kst (y := .tmp 2) (z := .tmp 36) (cd := ((cI .u8).arr 6)) (u := (⟨[0, 0, 0, 0, 0, 0], rfl⟩ : (Vec Int 6))) (j := 1) (b := b1) (o := 0) (((cI .u8).arr 6).enc (⟨[0, 0, 0, 0, 0, 0], rfl⟩ : (Vec Int 6))) (owed := []) Ty42 rfl (Upd.whole ((Cod.len _ _).trans (Cod.len _ _).symm)) rfl ?_
          refine OW.nil ?_
          refine OJ.go 2 [(4, .int .i64 s3), (3, .int .i64 41)] ?_
          refine OJ.nil ?_
          exact SJ.ret rfl (Res.run (ys := [((cI .u8).arr 6).val (⟨[0, 0, 0, 0, 0, 0], rfl⟩ : (Vec Int 6)), .int .i64 41, .int .i64 s3]) (.cell (j := 1) (b := b1) (cd := ((cI .u8).arr 6)) (q := (⟨[0, 0, 0, 0, 0, 0], rfl⟩ : (Vec Int 6))) (by kernel_rfl) rfl Ty42 (At.whole _) (.tmp (by kernel_rfl) (.tmp (by kernel_rfl) .nil))) rfl)
        · refine SJ.skip ?_
          refine SJ.rg 12 ?_
          refine OJ.go 4 [(41, .int .i64 (IntKind.wrap .i64 (Int.tdiv s3 3))), (40, .int .i64 s3), (39, .int .i64 (IntKind.wrap .i64 (Int.tdiv s3 3))), (38, .int .i64 s3)] ?_
          refine OJ.idxK (d := 42) (T := 42) (y := .tmp 5) (j := .tmp 41) (E := 5) (sz := 1) (b := b2) (o := 0) (k := .i64) (fun hb32 hb33 => ?_)
          refine OJ.kld (d := 43) (y := .tmp 42) (cd := (cI .u8)) (j := 0) (b := b2) (o := (0 + (IntKind.wrap .i64 (Int.tdiv s3 3)).toNat * 1)) (Vec.g s4 (IntKind.wrap .i64 (Int.tdiv s3 3)) 0) (pend2 := []) Ty5 rfl (At.zero (At.arr (z := 0) hb32 hb33)) rfl ?_
          refine OJ.go 4 [(47, .int .u8 (bor .u8 (IntKind.wrap .u8 ((Vec.g s4 (IntKind.wrap .i64 (Int.tdiv s3 3)) 0) * 2 ^ 4)) (IntKind.wrap .u8 r31))), (46, .int .u8 (IntKind.wrap .u8 r31)), (45, .int .i64 r31), (44, .int .u8 (IntKind.wrap .u8 ((Vec.g s4 (IntKind.wrap .i64 (Int.tdiv s3 3)) 0) * 2 ^ 4)))] ?_
          refine OJ.idxK (d := 48) (T := 42) (y := .tmp 5) (j := .tmp 39) (E := 5) (sz := 1) (b := b2) (o := 0) (k := .i64) (fun hb34 hb35 => ?_)
          refine OJ.kst (y := .tmp 48) (z := .tmp 47) (cd := (cI .u8)) (u := (bor .u8 (IntKind.wrap .u8 ((Vec.g s4 (IntKind.wrap .i64 (Int.tdiv s3 3)) 0) * 2 ^ 4)) (IntKind.wrap .u8 r31))) (j := 0) (b := b2) (o := (0 + (IntKind.wrap .i64 (Int.tdiv s3 3)).toNat * 1)) (((cI .u8).arr 6).enc (Vec.s s4 (IntKind.wrap .i64 (Int.tdiv s3 3)) (bor .u8 (IntKind.wrap .u8 ((Vec.g s4 (IntKind.wrap .i64 (Int.tdiv s3 3)) 0) * 2 ^ 4)) (IntKind.wrap .u8 r31)))) (owed := []) Ty5 rfl (Upd.zero (Upd.arr hb34 hb35)) rfl ?_
          refine OW.nil ?_
          refine OJ.nil ?_
          refine SJ.inBlock ?_
          refine SJ.rg 2 ?_
          refine OJ.go 2 [(12, .int .i64 (IntKind.wrap .i64 (s3 + 1))), (49, .int .i64 (IntKind.wrap .i64 (s3 + 1)))] ?_
          refine OJ.nil ?_
          exact SJ.at_ [0, 2, 5, 12] rfl
  · refine SJ.exit (id := 0) (by rfl) ?_
    refine SJ.sr 4 ?_
    refine OJ.kld (d := 50) (y := .tmp 5) (cd := ((cI .u8).arr 6)) (j := 0) (b := b2) (o := 0) s4 (pend2 := []) Ty42 rfl (At.whole _) rfl ?_
    refine OJ.kst (y := .tmp 2) (z := .tmp 50) (cd := ((cI .u8).arr 6)) (u := s4) (j := 1) (b := b1) (o := 0) (((cI .u8).arr 6).enc s4) (owed := []) Ty42 rfl (Upd.whole ((Cod.len _ _).trans (Cod.len _ _).symm)) rfl ?_
    refine OW.nil ?_
    refine OJ.go 2 [(4, .int .i64 0), (3, .int .i64 0)] ?_
    refine OJ.nil ?_
    exact SJ.ret rfl (Res.run (ys := [((cI .u8).arr 6).val s4, .int .i64 0, .int .i64 0]) (.cell (j := 1) (b := b1) (cd := ((cI .u8).arr 6)) (q := s4) (by kernel_rfl) rfl Ty42 (At.whole _) (.tmp (by kernel_rfl) (.tmp (by kernel_rfl) .nil))) rfl)
noncomputable def addr_ParseMac (a0 : ByteArray) : M ((Vec Int 6) × Int × Int) :=
  slot 42 >>= fun b1 =>
  if (a0.size : Int) > 17 then
    pure ((⟨[0, 0, 0, 0, 0, 0], rfl⟩ : (Vec Int 6)), 2, 17)
  else
    slot 42 >>= fun b2 =>
    loopM (fun s_ : (Int × (Vec Int 6) × (Vec Int 6)) => addr_ParseMac.L1 a0 s_.1 s_.2.1 s_.2.2) (0, (Vec.rep 6 0), (Vec.rep 6 0))
theorem addr_ParseMac_ok (a0 : ByteArray) : Ref Tryd.prog 21 [.string a0] (addr_ParseMac a0) addr_ParseMac.out := by
  refine Ref.of (cd := addr_ParseMac.B) Tryd.func21 ?_
  show SJ addr_ParseMac.cx [.code addr_ParseMac.B] [(0, .string a0)] [] (addr_ParseMac a0) addr_ParseMac.F0
  unfold addr_ParseMac
  refine SJ.sr 3 ?_
  refine OJ.slotOf (d := 2) (op := (.alloc 42)) (cd := ((cI .u8).arr 6)) (u := (Vec.rep 6 0)) (owed := []) (alloc_run Ty42) (fun b1 => ?_)
  refine OW.nil ?_
  refine OJ.go 2 [(4, .int .i64 0), (3, .int .i64 0)] ?_
  refine OJ.nil ?_
  refine SJ.seq ?_
  refine SJ.sr 3 ?_
  refine OJ.go 3 [(10, .bool (decide ((a0.size : Int) > 17))), (9, .int .i64 (a0.size : Int)), (8, .string a0)] ?_
  refine OJ.nil ?_
  refine SJ.cond (t := (.tmp 10)) (b := decide ((a0.size : Int) > 17)) decide_eq_true_iff (fun hc40 => ?_) (fun hc40 => ?_)
  · refine SJ.sr 4 ?_
    refine OJ.build (d := 11) (T := 42) (parts := []) (ps := []) (cd := ((cI .u8).arr 6)) (z0 := (Vec.rep 6 0)) (⟨[0, 0, 0, 0, 0, 0], rfl⟩ : (Vec Int 6)) Ty42 rfl Filled.nil ?_
    refine OJ.kst (y := .tmp 2) (z := .tmp 11) (cd := ((cI .u8).arr 6)) (u := (⟨[0, 0, 0, 0, 0, 0], rfl⟩ : (Vec Int 6))) (j := 0) (b := b1) (o := 0) (((cI .u8).arr 6).enc (⟨[0, 0, 0, 0, 0, 0], rfl⟩ : (Vec Int 6))) (owed := []) Ty42 rfl (Upd.whole ((Cod.len _ _).trans (Cod.len _ _).symm)) rfl ?_
    refine OW.nil ?_
    refine OJ.go 2 [(4, .int .i64 17), (3, .int .i64 2)] ?_
    refine OJ.nil ?_
    exact SJ.ret rfl (Res.run (ys := [((cI .u8).arr 6).val (⟨[0, 0, 0, 0, 0, 0], rfl⟩ : (Vec Int 6)), .int .i64 2, .int .i64 17]) (.cell (j := 0) (b := b1) (cd := ((cI .u8).arr 6)) (q := (⟨[0, 0, 0, 0, 0, 0], rfl⟩ : (Vec Int 6))) (by kernel_rfl) rfl Ty42 (At.whole _) (.tmp (by kernel_rfl) (.tmp (by kernel_rfl) .nil))) rfl)
  · refine SJ.skip ?_
    refine SJ.sr 1 ?_
    refine OJ.slotOf (d := 5) (op := (.alloc 42)) (cd := ((cI .u8).arr 6)) (u := (Vec.rep 6 0)) (owed := []) (alloc_run Ty42) (fun b2 => ?_)
    refine OW.nil ?_
    refine OJ.nil ?_
    refine SJ.seq ?_
    refine SJ.sr 1 ?_
    refine OJ.go 1 [(12, .int .i64 0)] ?_
    refine OJ.nil ?_
    refine SJ.block (id := 0) ?_
    exact SJ.loop (fun s_ : (Int × (Vec Int 6) × (Vec Int 6)) => [(0, .string a0), (2, .pointer (some (pt b1 0))), (5, .pointer (some (pt b2 0))), (12, .int .i64 s_.1)]) (fun s_ : (Int × (Vec Int 6) × (Vec Int 6)) => [(b2, ((cI .u8).arr 6).enc s_.2.1), (b1, ((cI .u8).arr 6).enc s_.2.2)]) [0, 2, 5, 12] rfl (fun _ _ => rfl) (fun s_ => addr_ParseMac.L1_ok a0 b1 b2 s_.1 s_.2.1 s_.2.2)

/-! ### weir/weirlaw4.AddrBack: function 6 -/
noncomputable def weirlaw4_AddrBack.B : Code := (Tryd.f6.body).getD .skip
noncomputable def weirlaw4_AddrBack.cx : Fx := ⟨Tryd.prog, 6, Tryd.f6⟩
noncomputable def weirlaw4_AddrBack.out (r_ : Bool) : Value := .bool r_
noncomputable def weirlaw4_AddrBack.F0 (r_ : Bool) : Reach := .ret (weirlaw4_AddrBack.out r_)
noncomputable def weirlaw4_AddrBack.K1 (a2 : (Vec Int 6)) : M Bool :=
  addr_PrintMac a2 >>= fun r31 =>
  addr_ParseMac r31 >>= fun r32 =>
  slot 42 >>= fun b33 =>
  weirlaw4_started >>= fun r34 =>
  (if r34 = true then
      pure (eqv r32.1 a2)
    else
      pure false) >>= fun y35 =>
  (if y35 = true then
      weirlaw4_num r32.2.1 >>= fun r36 =>
      pure (r36 == 0)
    else
      pure false) >>= fun y37 =>
  (if y37 = true then
      pure (r32.2.2 == 0)
    else
      pure false) >>= fun y38 =>
  pure y38
theorem weirlaw4_AddrBack.K1_ok (a2 : (Vec Int 6)) (b3 : Nat) :
    SJ weirlaw4_AddrBack.cx [.code (c2 (c2 (c2 (c2 (c2 (c2 (c2 weirlaw4_AddrBack.B)))))))] [(5, .pointer (some (pt b3 0)))] [(b3, ((cI .u8).arr 6).enc a2)] (weirlaw4_AddrBack.K1 a2) weirlaw4_AddrBack.F0 := by
  unfold weirlaw4_AddrBack.K1
  refine SJ.sr 11 ?_
  refine OJ.kld (d := 103) (y := .tmp 5) (cd := ((cI .u8).arr 6)) (j := 0) (b := b3) (o := 0) a2 (pend2 := []) Ty42 rfl (At.whole _) rfl ?_
  refine OJ.call (d := 104) (g := 18) (ats := #[42]) (args := [.tmp 103]) (owed := []) F18 (addr_PrintMac_ok a2) (fun r31 => ?_)
  refine OW.nil ?_
  refine OJ.call (d := 105) (g := 21) (ats := #[9]) (args := [.tmp 104]) (owed := []) F21 (addr_ParseMac_ok r31) (fun r32 => ?_)
  refine OW.nil ?_
  refine OJ.go 4 [(108, .int .i64 r32.2.2), (107, .int .i64 r32.2.1), (106, ((cI .u8).arr 6).val r32.1), (102, .tuple #[((cI .u8).arr 6).val r32.1, .int .i64 r32.2.1, .int .i64 r32.2.2])] ?_
  refine OJ.slotOf (d := 17) (op := (.alloc 42)) (cd := ((cI .u8).arr 6)) (u := (Vec.rep 6 0)) (owed := []) (alloc_run Ty42) (fun b33 => ?_)
  refine OW.nil ?_
  refine OJ.kst (y := .tmp 17) (z := .tmp 106) (cd := ((cI .u8).arr 6)) (u := r32.1) (j := 0) (b := b33) (o := 0) (((cI .u8).arr 6).enc r32.1) (owed := []) Ty42 rfl (Upd.whole ((Cod.len _ _).trans (Cod.len _ _).symm)) rfl ?_
  refine OW.nil ?_
  refine OJ.go 2 [(19, .int .i64 r32.2.2), (18, .int .i64 r32.2.1)] ?_
  refine OJ.nil ?_
  refine SJ.sr 16 ?_
  refine OJ.call (d := 109) (g := 11) (ats := #[]) (args := []) (owed := []) F11 (weirlaw4_started_ok ) (fun r34 => ?_)
  refine OW.nil ?_
  refine OJ.go 1 [(110, .bool r34)] ?_
  refine OJ.join (b := r34) [2, 3, 4, 5] [6, 7, 8, 9, 10, 11, 12, 13, 14, 15] [18, 19, 114] (fun y35 => [(18, .int .i64 r32.2.1), (19, .int .i64 r32.2.2), (114, .bool y35)]) [] [] (t := 110) Iff.rfl (fun hp_ => ?_) (fun hp_ => ?_) (fun _ _ _ _ _ _ h_ => h_) (fun y35 => ?_)
  · refine OJ.kld (d := 111) (y := .tmp 17) (cd := ((cI .u8).arr 6)) (j := 0) (b := b33) (o := 0) r32.1 (pend2 := []) Ty42 rfl (At.whole _) rfl ?_
    refine OJ.kld (d := 112) (y := .tmp 5) (cd := ((cI .u8).arr 6)) (j := 1) (b := b3) (o := 0) a2 (pend2 := []) Ty42 rfl (At.whole _) rfl ?_
    refine OJ.eql (d := 113) (T := 42) (yT := 42) (y := .tmp 111) (z := .tmp 112) (cd := ((cI .u8).arr 6)) (p := r32.1) (q := a2) rfl Eq42 ?_
    refine OJ.go 1 [(114, .bool (eqv r32.1 a2))] ?_
    exact OJ.nil ⟨(Cov.mem Cov.nil), rfl, _, rfl, by kernel_rfl⟩
  · refine OJ.go 4 [(114, .bool false), (113, undef), (112, undef), (111, undef)] ?_
    exact OJ.nil ⟨(Cov.mem Cov.nil), rfl, _, rfl, by kernel_rfl⟩
  · refine OJ.go 1 [(115, .bool y35)] ?_
    refine OJ.join (b := y35) [7, 8, 9, 10] [11, 12, 13, 14, 15] [19, 119] (fun y37 => [(19, .int .i64 r32.2.2), (119, .bool y37)]) [] [] (t := 115) Iff.rfl (fun hp_ => ?_) (fun hp_ => ?_) (fun _ _ _ _ _ _ h_ => h_) (fun y37 => ?_)
    · refine OJ.go 1 [(116, .int .i64 r32.2.1)] ?_
      refine OJ.call (d := 117) (g := 12) (ats := #[28]) (args := [.tmp 116]) (owed := []) F12 (weirlaw4_num_ok r32.2.1) (fun r36 => ?_)
      refine OW.nil ?_
      refine OJ.go 2 [(119, .bool (r36 == 0)), (118, .bool (r36 == 0))] ?_
      exact OJ.nil ⟨(Cov.mem Cov.nil), rfl, _, rfl, by kernel_rfl⟩
    · refine OJ.go 4 [(119, .bool false), (118, undef), (117, undef), (116, undef)] ?_
      exact OJ.nil ⟨(Cov.mem Cov.nil), rfl, _, rfl, by kernel_rfl⟩
    · refine OJ.go 1 [(120, .bool y37)] ?_
      refine OJ.join (b := y37) [12, 13, 14] [15] [123] (fun y38 => [(123, .bool y38)]) [] [] (t := 120) Iff.rfl (fun hp_ => ?_) (fun hp_ => ?_) (fun _ _ _ _ _ _ h_ => h_) (fun y38 => ?_)
      · refine OJ.go 3 [(123, .bool (r32.2.2 == 0)), (122, .bool (r32.2.2 == 0)), (121, .int .i64 r32.2.2)] ?_
        exact OJ.nil ⟨(Cov.mem Cov.nil), rfl, _, rfl, by kernel_rfl⟩
      · refine OJ.go 3 [(123, .bool false), (122, undef), (121, undef)] ?_
        exact OJ.nil ⟨(Cov.mem Cov.nil), rfl, _, rfl, by kernel_rfl⟩
      · refine OJ.go 1 [(6, .bool y38)] ?_
        refine OJ.nil ?_
        exact SJ.ret rfl (Res.run (ys := [.bool y38]) (.tmp (by kernel_rfl) .nil) rfl)
noncomputable def weirlaw4_AddrBack.K2 (a1 : api_Prefix) (a2 : (Vec Int 6)) : M Bool :=
  addr_PrintPrefix a1 >>= fun r17 =>
  draw >>= fun _ =>
  weirlaw4_num r17.2 >>= fun r18 =>
  addr_ValidPrefix a1 >>= fun r19 =>
  weirlaw4_num r19 >>= fun r20 =>
  (if r18 ≠ r20 then
      pure true
    else
      weirlaw4_num r17.2 >>= fun r21 =>
      (if r21 ≠ 0 then
          pure (!(r17.1.toList == ByteArray.empty.toList))
        else
          pure false) >>= fun y22 =>
      pure y22) >>= fun y23 =>
  if y23 = true then
    pure false
  else
    weirlaw4_num r17.2 >>= fun r24 =>
    if r24 = 0 then
      addr_ParsePrefix r17.1 >>= fun r39 =>
      slot 37 >>= fun b40 =>
      (if ¬ (r39.1 = a1) then
          pure true
        else
          weirlaw4_num r39.2.1 >>= fun r41 =>
          pure (r41 != 0)) >>= fun y42 =>
      (if y42 = true then
          pure true
        else
          pure (r39.2.2 != 0)) >>= fun y43 =>
      if y43 = true then
        pure false
      else
        weirlaw4_AddrBack.K1 a2
    else
      weirlaw4_AddrBack.K1 a2
theorem weirlaw4_AddrBack.K2_ok (a1 : api_Prefix) (a2 : (Vec Int 6)) (b2 : Nat) (b3 : Nat) :
    SJ weirlaw4_AddrBack.cx [.code (c2 (c2 (c2 (c2 weirlaw4_AddrBack.B))))] [(4, .pointer (some (pt b2 0))), (5, .pointer (some (pt b3 0)))] [(b3, ((cI .u8).arr 6).enc a2), (b2, c_api_Prefix.enc a1)] (weirlaw4_AddrBack.K2 a1 a2) weirlaw4_AddrBack.F0 := by
  unfold weirlaw4_AddrBack.K2
  refine SJ.sr 7 ?_
  refine OJ.kld (d := 62) (y := .tmp 4) (cd := c_api_Prefix) (j := 1) (b := b2) (o := 0) a1 (pend2 := []) Ty37 rfl (At.whole _) rfl ?_
  refine OJ.call (d := 63) (g := 17) (ats := #[37]) (args := [.tmp 62]) (owed := []) F17 (addr_PrintPrefix_ok a1) (fun r17 => ?_)
  refine OW.nil ?_
  refine OJ.go 5 [(13, .int .i64 r17.2), (12, .string r17.1), (65, .int .i64 r17.2), (64, .string r17.1), (61, .tuple #[.string r17.1, .int .i64 r17.2])] ?_
  refine OJ.nil ?_
  refine SJ.seq ?_
  refine SJ.seq ?_
  refine SJ.draw (id := 9) (kd := [0, 2, 1, 2, 2, 0, 0, 0, 2, 0, 0, 0, 0, 0, 0]) (bef := [0, 1, 0, 7, 15, 31, 63, 127, 255, 511, 1023, 2047, 4095, 8191, 16383]) (ord := [0, 2, 1, 3, 4, 5, 6, 7, 8, 9, 10, 11, 12, 13, 14]) mixed ?_
  refine OJ.go 1 [(66, .int .i64 r17.2)] ?_
  refine OJ.kld (d := 68) (y := .tmp 4) (cd := c_api_Prefix) (j := 1) (b := b2) (o := 0) a1 (pend2 := [⟨2, 37, (pt b2 0), c_api_Prefix.val a1⟩]) Ty37 rfl (At.whole _) rfl ?_
  refine OJ.call (d := 67) (g := 12) (ats := #[28]) (args := [.tmp 66]) (owed := [⟨2, 37, (pt b2 0), c_api_Prefix.val a1⟩]) F12 (weirlaw4_num_ok r17.2) (fun r18 => ?_)
  refine OW.known (j := 1) (q := a1) Ty37 rfl (At.whole _) ?_
  refine OW.nil ?_
  refine OJ.call (d := 69) (g := 14) (ats := #[37]) (args := [.tmp 68]) (owed := []) F14 (addr_ValidPrefix_ok a1) (fun r19 => ?_)
  refine OW.nil ?_
  refine OJ.call (d := 70) (g := 12) (ats := #[28]) (args := [.tmp 69]) (owed := []) F12 (weirlaw4_num_ok r19) (fun r20 => ?_)
  refine OW.nil ?_
  refine OJ.go 2 [(72, .bool (r18 != r20)), (71, .bool (r18 != r20))] ?_
  refine OJ.join (b := (r18 != r20)) [7, 8, 9, 10, 11, 12, 13, 14] [] [4, 5, 12, 13, 80] (fun y23 => [(4, .pointer (some (pt b2 0))), (5, .pointer (some (pt b3 0))), (12, .string r17.1), (13, .int .i64 r17.2), (80, .bool y23)]) [⟨2, 37, (pt b2 0), c_api_Prefix.val a1⟩] [] (t := 72) bne_iff_ne (fun hp_ => ?_) (fun hp_ => ?_) (fun _ _ _ _ _ _ h_ => h_) (fun y23 => ?_)
  · refine OJ.go 8 [(80, .bool true), (79, undef), (78, undef), (77, undef), (76, undef), (75, undef), (74, undef), (73, undef)] ?_
    exact OJ.nil ⟨(Cov.mem (Cov.keep (List.mem_of_getElem? (i := 0) rfl) Cov.nil)), rfl, _, rfl, by kernel_rfl⟩
  · refine OJ.go 1 [(73, .int .i64 r17.2)] ?_
    refine OJ.call (d := 74) (g := 12) (ats := #[28]) (args := [.tmp 73]) (owed := []) F12 (weirlaw4_num_ok r17.2) (fun r21 => ?_)
    refine OW.nil ?_
    refine OJ.go 2 [(76, .bool (r21 != 0)), (75, .bool (r21 != 0))] ?_
    refine OJ.join (b := (r21 != 0)) [11, 12, 13] [14] [4, 5, 12, 13, 72, 79] (fun y22 => [(4, .pointer (some (pt b2 0))), (5, .pointer (some (pt b3 0))), (12, .string r17.1), (13, .int .i64 r17.2), (72, .bool false), (79, .bool y22)]) [⟨2, 37, (pt b2 0), c_api_Prefix.val a1⟩] [] (t := 76) bne_iff_ne (fun hp_ => ?_) (fun hp_ => ?_) (fun _ _ _ _ _ hq_ h_ => ⟨fun e_ he_ => (hq_ e_ he_).elim (fun h => h_.1 e_ h) (fun h => nomatch h), h_.2⟩) (fun y22 => ?_)
    · refine OJ.go 3 [(79, .bool (!(r17.1.toList == ByteArray.empty.toList))), (78, .bool (!(r17.1.toList == ByteArray.empty.toList))), (77, .string r17.1)] ?_
      exact OJ.nil ⟨(Cov.mem (Cov.keep (List.mem_of_getElem? (i := 0) rfl) Cov.nil)), rfl, _, rfl, by kernel_rfl⟩
    · refine OJ.go 3 [(79, .bool false), (78, undef), (77, undef)] ?_
      exact OJ.nil ⟨(Cov.mem (Cov.keep (List.mem_of_getElem? (i := 0) rfl) Cov.nil)), rfl, _, rfl, by kernel_rfl⟩
    · refine OJ.go 1 [(80, .bool y22)] ?_
      exact OJ.nil ⟨(Cov.mem (Cov.keep (List.mem_of_getElem? (i := 0) rfl) Cov.nil)), rfl, _, rfl, by kernel_rfl⟩
  · refine OJ.nil ?_
    refine SJ.cond (t := (.tmp 80)) (b := y23) Iff.rfl (fun hc46 => ?_) (fun hc46 => ?_)
    · refine SJ.sr 1 ?_
      refine OJ.go 1 [(6, .bool false)] ?_
      refine OJ.nil ?_
      exact SJ.ret rfl (Res.run (ys := [.bool false]) (.tmp (by kernel_rfl) .nil) rfl)
    · refine SJ.skip ?_
      refine SJ.seq ?_
      refine SJ.sr 3 ?_
      refine OJ.go 1 [(81, .int .i64 r17.2)] ?_
      refine OJ.call (d := 82) (g := 12) (ats := #[28]) (args := [.tmp 81]) (owed := []) F12 (weirlaw4_num_ok r17.2) (fun r24 => ?_)
      refine OW.nil ?_
      refine OJ.go 1 [(83, .bool (r24 == 0))] ?_
      refine OJ.nil ?_
      refine SJ.cond (t := (.tmp 83)) (b := (r24 == 0)) beq_iff_eq (fun hc45 => ?_) (fun hc45 => ?_)
      · refine SJ.sr 10 ?_
        refine OJ.go 1 [(85, .string r17.1)] ?_
        refine OJ.call (d := 86) (g := 20) (ats := #[9]) (args := [.tmp 85]) (owed := []) F20 (addr_ParsePrefix_ok r17.1) (fun r39 => ?_)
        refine OW.nil ?_
        refine OJ.go 4 [(89, .int .i64 r39.2.2), (88, .int .i64 r39.2.1), (87, c_api_Prefix.val r39.1), (84, .tuple #[c_api_Prefix.val r39.1, .int .i64 r39.2.1, .int .i64 r39.2.2])] ?_
        refine OJ.slotOf (d := 14) (op := (.alloc 37)) (cd := c_api_Prefix) (u := z_api_Prefix) (owed := []) (alloc_run Ty37) (fun b40 => ?_)
        refine OW.nil ?_
        refine OJ.kst (y := .tmp 14) (z := .tmp 87) (cd := c_api_Prefix) (u := r39.1) (j := 0) (b := b40) (o := 0) (c_api_Prefix.enc r39.1) (owed := []) Ty37 rfl (Upd.whole ((Cod.len _ _).trans (Cod.len _ _).symm)) rfl ?_
        refine OW.nil ?_
        refine OJ.go 2 [(16, .int .i64 r39.2.2), (15, .int .i64 r39.2.1)] ?_
        refine OJ.nil ?_
        refine SJ.sr 12 ?_
        refine OJ.kld (d := 90) (y := .tmp 14) (cd := c_api_Prefix) (j := 0) (b := b40) (o := 0) r39.1 (pend2 := []) Ty37 rfl (At.whole _) rfl ?_
        refine OJ.kld (d := 91) (y := .tmp 4) (cd := c_api_Prefix) (j := 2) (b := b2) (o := 0) a1 (pend2 := []) Ty37 rfl (At.whole _) rfl ?_
        refine OJ.neq (d := 92) (T := 37) (yT := 37) (y := .tmp 90) (z := .tmp 91) (cd := c_api_Prefix) (p := r39.1) (q := a1) rfl Eq37 ?_
        refine OJ.go 1 [(93, .bool (!eqv r39.1 a1))] ?_
        refine OJ.join (b := (!eqv r39.1 a1)) [4, 5, 6, 7] [8, 9, 10, 11] [5, 16, 97] (fun y42 => [(5, .pointer (some (pt b3 0))), (16, .int .i64 r39.2.2), (97, .bool y42)]) [] [] (t := 93) (bnot_iff eqv_iff) (fun hp_ => ?_) (fun hp_ => ?_) (fun _ _ _ _ _ _ h_ => h_) (fun y42 => ?_)
        · refine OJ.go 4 [(97, .bool true), (96, undef), (95, undef), (94, undef)] ?_
          exact OJ.nil ⟨(Cov.mem Cov.nil), rfl, _, rfl, by kernel_rfl⟩
        · refine OJ.go 1 [(94, .int .i64 r39.2.1)] ?_
          refine OJ.call (d := 95) (g := 12) (ats := #[28]) (args := [.tmp 94]) (owed := []) F12 (weirlaw4_num_ok r39.2.1) (fun r41 => ?_)
          refine OW.nil ?_
          refine OJ.go 2 [(97, .bool (r41 != 0)), (96, .bool (r41 != 0))] ?_
          exact OJ.nil ⟨(Cov.mem Cov.nil), rfl, _, rfl, by kernel_rfl⟩
        · refine OJ.go 1 [(98, .bool y42)] ?_
          refine OJ.join (b := y42) [9, 10, 11] [] [5, 101] (fun y43 => [(5, .pointer (some (pt b3 0))), (101, .bool y43)]) [] [] (t := 98) Iff.rfl (fun hp_ => ?_) (fun hp_ => ?_) (fun _ _ _ _ _ _ h_ => h_) (fun y43 => ?_)
          · refine OJ.go 3 [(101, .bool true), (100, undef), (99, undef)] ?_
            exact OJ.nil ⟨(Cov.mem Cov.nil), rfl, _, rfl, by kernel_rfl⟩
          · refine OJ.go 3 [(101, .bool (r39.2.2 != 0)), (100, .bool (r39.2.2 != 0)), (99, .int .i64 r39.2.2)] ?_
            exact OJ.nil ⟨(Cov.mem Cov.nil), rfl, _, rfl, by kernel_rfl⟩
          · refine OJ.nil ?_
            refine SJ.cond (t := (.tmp 101)) (b := y43) Iff.rfl (fun hc44 => ?_) (fun hc44 => ?_)
            · refine SJ.sr 1 ?_
              refine OJ.go 1 [(6, .bool false)] ?_
              refine OJ.nil ?_
              exact SJ.ret rfl (Res.run (ys := [.bool false]) (.tmp (by kernel_rfl) .nil) rfl)
            · refine SJ.skip ?_
              refine SJ.forget (List.Sublist.cons _ (List.Sublist.cons_cons _ (List.Sublist.cons _ List.Sublist.slnil))) ?_
              refine SJ.less [5] (m' := [(5, .pointer (some (pt b3 0)))]) ?_
              exact weirlaw4_AddrBack.K1_ok a2 b3
      · refine SJ.skip ?_
        refine SJ.forget (List.Sublist.cons_cons _ (List.Sublist.cons _ List.Sublist.slnil)) ?_
        refine SJ.less [5] (m' := [(5, .pointer (some (pt b3 0)))]) ?_
        exact weirlaw4_AddrBack.K1_ok a2 b3
noncomputable def weirlaw4_AddrBack (a0 : api_IP) (a1 : api_Prefix) (a2 : (Vec Int 6)) : M Bool :=
  slot 27 >>= fun b1 =>
  slot 37 >>= fun b2 =>
  slot 42 >>= fun b3 =>
  addr_PrintIP a0 >>= fun r4 =>
  draw >>= fun _ =>
  weirlaw4_num r4.2 >>= fun r5 =>
  addr_Valid a0 >>= fun r6 =>
  (if ¬ ((r5 == 0) = r6) then
      pure true
    else
      weirlaw4_num r4.2 >>= fun r7 =>
      (if r7 ≠ 0 then
          pure (!(r4.1.toList == ByteArray.empty.toList))
        else
          pure false) >>= fun y8 =>
      pure y8) >>= fun y9 =>
  if y9 = true then
    pure false
  else
    weirlaw4_num r4.2 >>= fun r10 =>
    if r10 = 0 then
      addr_ParseIP r4.1 >>= fun r47 =>
      slot 27 >>= fun b48 =>
      (if ¬ (r47.1 = a0) then
          pure true
        else
          weirlaw4_num r47.2.1 >>= fun r49 =>
          pure (r49 != 0)) >>= fun y50 =>
      (if y50 = true then
          pure true
        else
          pure (r47.2.2 != 0)) >>= fun y51 =>
      if y51 = true then
        pure false
      else
        weirlaw4_AddrBack.K2 a1 a2
    else
      weirlaw4_AddrBack.K2 a1 a2
theorem weirlaw4_AddrBack_ok (a0 : api_IP) (a1 : api_Prefix) (a2 : (Vec Int 6)) : Ref Tryd.prog 6 [c_api_IP.val a0, c_api_Prefix.val a1, ((cI .u8).arr 6).val a2] (weirlaw4_AddrBack a0 a1 a2) weirlaw4_AddrBack.out := by
  refine Ref.of (cd := weirlaw4_AddrBack.B) Tryd.func6 ?_
  show SJ weirlaw4_AddrBack.cx [.code weirlaw4_AddrBack.B] [(0, c_api_IP.val a0), (1, c_api_Prefix.val a1), (2, ((cI .u8).arr 6).val a2)] [] (weirlaw4_AddrBack a0 a1 a2) weirlaw4_AddrBack.F0
  unfold weirlaw4_AddrBack
  refine SJ.sr 4 ?_
  refine OJ.slotOf (d := 3) (op := (.box 27 (.tmp 0))) (cd := c_api_IP) (u := a0) (owed := []) (box_run (by kernel_rfl)) (fun b1 => ?_)
  refine OW.nil ?_
  refine OJ.slotOf (d := 4) (op := (.box 37 (.tmp 1))) (cd := c_api_Prefix) (u := a1) (owed := []) (box_run (by kernel_rfl)) (fun b2 => ?_)
  refine OW.nil ?_
  refine OJ.slotOf (d := 5) (op := (.box 42 (.tmp 2))) (cd := ((cI .u8).arr 6)) (u := a2) (owed := []) (box_run (by kernel_rfl)) (fun b3 => ?_)
  refine OW.nil ?_
  refine OJ.go 1 [(6, .bool false)] ?_
  refine OJ.nil ?_
  refine SJ.sr 7 ?_
  refine OJ.kld (d := 21) (y := .tmp 3) (cd := c_api_IP) (j := 2) (b := b1) (o := 0) a0 (pend2 := []) Ty27 rfl (At.whole _) rfl ?_
  refine OJ.call (d := 22) (g := 16) (ats := #[27]) (args := [.tmp 21]) (owed := []) F16 (addr_PrintIP_ok a0) (fun r4 => ?_)
  refine OW.nil ?_
  refine OJ.go 5 [(8, .int .i64 r4.2), (7, .string r4.1), (24, .int .i64 r4.2), (23, .string r4.1), (20, .tuple #[.string r4.1, .int .i64 r4.2])] ?_
  refine OJ.nil ?_
  refine SJ.seq ?_
  refine SJ.seq ?_
  refine SJ.draw (id := 2) (kd := [0, 2, 0, 1, 2, 0, 0, 0, 2, 0, 0, 0, 0, 0, 0]) (bef := [0, 1, 3, 0, 11, 31, 63, 127, 255, 511, 1023, 2047, 4095, 8191, 16383]) (ord := [0, 3, 1, 2, 4, 5, 6, 7, 8, 9, 10, 11, 12, 13, 14]) mixed ?_
  refine OJ.go 1 [(25, .int .i64 r4.2)] ?_
  refine OJ.kld (d := 28) (y := .tmp 3) (cd := c_api_IP) (j := 2) (b := b1) (o := 0) a0 (pend2 := [⟨3, 27, (pt b1 0), c_api_IP.val a0⟩]) Ty27 rfl (At.whole _) rfl ?_
  refine OJ.call (d := 26) (g := 12) (ats := #[28]) (args := [.tmp 25]) (owed := [⟨3, 27, (pt b1 0), c_api_IP.val a0⟩]) F12 (weirlaw4_num_ok r4.2) (fun r5 => ?_)
  refine OW.known (j := 2) (q := a0) Ty27 rfl (At.whole _) ?_
  refine OW.nil ?_
  refine OJ.go 1 [(27, .bool (r5 == 0))] ?_
  refine OJ.call (d := 29) (g := 19) (ats := #[27]) (args := [.tmp 28]) (owed := []) F19 (addr_Valid_ok a0) (fun r6 => ?_)
  refine OW.nil ?_
  refine OJ.go 2 [(31, .bool (!((r5 == 0) == r6))), (30, .bool (!((r5 == 0) == r6)))] ?_
  refine OJ.join (b := (!((r5 == 0) == r6))) [7, 8, 9, 10, 11, 12, 13, 14] [] [3, 4, 5, 7, 8, 39] (fun y9 => [(3, .pointer (some (pt b1 0))), (4, .pointer (some (pt b2 0))), (5, .pointer (some (pt b3 0))), (7, .string r4.1), (8, .int .i64 r4.2), (39, .bool y9)]) [⟨3, 27, (pt b1 0), c_api_IP.val a0⟩] [] (t := 31) (bnot_iff beq_iff_eq) (fun hp_ => ?_) (fun hp_ => ?_) (fun _ _ _ _ _ _ h_ => h_) (fun y9 => ?_)
  · refine OJ.go 8 [(39, .bool true), (38, undef), (37, undef), (36, undef), (35, undef), (34, undef), (33, undef), (32, undef)] ?_
    exact OJ.nil ⟨(Cov.mem (Cov.keep (List.mem_of_getElem? (i := 0) rfl) Cov.nil)), rfl, _, rfl, by kernel_rfl⟩
  · refine OJ.go 1 [(32, .int .i64 r4.2)] ?_
    refine OJ.call (d := 33) (g := 12) (ats := #[28]) (args := [.tmp 32]) (owed := []) F12 (weirlaw4_num_ok r4.2) (fun r7 => ?_)
    refine OW.nil ?_
    refine OJ.go 2 [(35, .bool (r7 != 0)), (34, .bool (r7 != 0))] ?_
    refine OJ.join (b := (r7 != 0)) [11, 12, 13] [14] [3, 4, 5, 7, 8, 31, 38] (fun y8 => [(3, .pointer (some (pt b1 0))), (4, .pointer (some (pt b2 0))), (5, .pointer (some (pt b3 0))), (7, .string r4.1), (8, .int .i64 r4.2), (31, .bool false), (38, .bool y8)]) [⟨3, 27, (pt b1 0), c_api_IP.val a0⟩] [] (t := 35) bne_iff_ne (fun hp_ => ?_) (fun hp_ => ?_) (fun _ _ _ _ _ hq_ h_ => ⟨fun e_ he_ => (hq_ e_ he_).elim (fun h => h_.1 e_ h) (fun h => nomatch h), h_.2⟩) (fun y8 => ?_)
    · refine OJ.go 3 [(38, .bool (!(r4.1.toList == ByteArray.empty.toList))), (37, .bool (!(r4.1.toList == ByteArray.empty.toList))), (36, .string r4.1)] ?_
      exact OJ.nil ⟨(Cov.mem (Cov.keep (List.mem_of_getElem? (i := 0) rfl) Cov.nil)), rfl, _, rfl, by kernel_rfl⟩
    · refine OJ.go 3 [(38, .bool false), (37, undef), (36, undef)] ?_
      exact OJ.nil ⟨(Cov.mem (Cov.keep (List.mem_of_getElem? (i := 0) rfl) Cov.nil)), rfl, _, rfl, by kernel_rfl⟩
    · refine OJ.go 1 [(39, .bool y8)] ?_
      exact OJ.nil ⟨(Cov.mem (Cov.keep (List.mem_of_getElem? (i := 0) rfl) Cov.nil)), rfl, _, rfl, by kernel_rfl⟩
  · refine OJ.nil ?_
    refine SJ.cond (t := (.tmp 39)) (b := y9) Iff.rfl (fun hc54 => ?_) (fun hc54 => ?_)
    · refine SJ.sr 1 ?_
      refine OJ.go 1 [(6, .bool false)] ?_
      refine OJ.nil ?_
      exact SJ.ret rfl (Res.run (ys := [.bool false]) (.tmp (by kernel_rfl) .nil) rfl)
    · refine SJ.skip ?_
      refine SJ.seq ?_
      refine SJ.sr 3 ?_
      refine OJ.go 1 [(40, .int .i64 r4.2)] ?_
      refine OJ.call (d := 41) (g := 12) (ats := #[28]) (args := [.tmp 40]) (owed := []) F12 (weirlaw4_num_ok r4.2) (fun r10 => ?_)
      refine OW.nil ?_
      refine OJ.go 1 [(42, .bool (r10 == 0))] ?_
      refine OJ.nil ?_
      refine SJ.cond (t := (.tmp 42)) (b := (r10 == 0)) beq_iff_eq (fun hc53 => ?_) (fun hc53 => ?_)
      · refine SJ.sr 10 ?_
        refine OJ.go 1 [(44, .string r4.1)] ?_
        refine OJ.call (d := 45) (g := 10) (ats := #[9]) (args := [.tmp 44]) (owed := []) F10 (addr_ParseIP_ok r4.1) (fun r47 => ?_)
        refine OW.nil ?_
        refine OJ.go 4 [(48, .int .i64 r47.2.2), (47, .int .i64 r47.2.1), (46, c_api_IP.val r47.1), (43, .tuple #[c_api_IP.val r47.1, .int .i64 r47.2.1, .int .i64 r47.2.2])] ?_
        refine OJ.slotOf (d := 9) (op := (.alloc 27)) (cd := c_api_IP) (u := z_api_IP) (owed := []) (alloc_run Ty27) (fun b48 => ?_)
        refine OW.nil ?_
        refine OJ.kst (y := .tmp 9) (z := .tmp 46) (cd := c_api_IP) (u := r47.1) (j := 0) (b := b48) (o := 0) (c_api_IP.enc r47.1) (owed := []) Ty27 rfl (Upd.whole ((Cod.len _ _).trans (Cod.len _ _).symm)) rfl ?_
        refine OW.nil ?_
        refine OJ.go 2 [(11, .int .i64 r47.2.2), (10, .int .i64 r47.2.1)] ?_
        refine OJ.nil ?_
        refine SJ.sr 12 ?_
        refine OJ.kld (d := 49) (y := .tmp 9) (cd := c_api_IP) (j := 0) (b := b48) (o := 0) r47.1 (pend2 := []) Ty27 rfl (At.whole _) rfl ?_
        refine OJ.kld (d := 50) (y := .tmp 3) (cd := c_api_IP) (j := 3) (b := b1) (o := 0) a0 (pend2 := []) Ty27 rfl (At.whole _) rfl ?_
        refine OJ.neq (d := 51) (T := 27) (yT := 27) (y := .tmp 49) (z := .tmp 50) (cd := c_api_IP) (p := r47.1) (q := a0) rfl Eq27 ?_
        refine OJ.go 1 [(52, .bool (!eqv r47.1 a0))] ?_
        refine OJ.join (b := (!eqv r47.1 a0)) [4, 5, 6, 7] [8, 9, 10, 11] [4, 5, 11, 56] (fun y50 => [(4, .pointer (some (pt b2 0))), (5, .pointer (some (pt b3 0))), (11, .int .i64 r47.2.2), (56, .bool y50)]) [] [] (t := 52) (bnot_iff eqv_iff) (fun hp_ => ?_) (fun hp_ => ?_) (fun _ _ _ _ _ _ h_ => h_) (fun y50 => ?_)
        · refine OJ.go 4 [(56, .bool true), (55, undef), (54, undef), (53, undef)] ?_
          exact OJ.nil ⟨(Cov.mem Cov.nil), rfl, _, rfl, by kernel_rfl⟩
        · refine OJ.go 1 [(53, .int .i64 r47.2.1)] ?_
          refine OJ.call (d := 54) (g := 12) (ats := #[28]) (args := [.tmp 53]) (owed := []) F12 (weirlaw4_num_ok r47.2.1) (fun r49 => ?_)
          refine OW.nil ?_
          refine OJ.go 2 [(56, .bool (r49 != 0)), (55, .bool (r49 != 0))] ?_
          exact OJ.nil ⟨(Cov.mem Cov.nil), rfl, _, rfl, by kernel_rfl⟩
        · refine OJ.go 1 [(57, .bool y50)] ?_
          refine OJ.join (b := y50) [9, 10, 11] [] [4, 5, 60] (fun y51 => [(4, .pointer (some (pt b2 0))), (5, .pointer (some (pt b3 0))), (60, .bool y51)]) [] [] (t := 57) Iff.rfl (fun hp_ => ?_) (fun hp_ => ?_) (fun _ _ _ _ _ _ h_ => h_) (fun y51 => ?_)
          · refine OJ.go 3 [(60, .bool true), (59, undef), (58, undef)] ?_
            exact OJ.nil ⟨(Cov.mem Cov.nil), rfl, _, rfl, by kernel_rfl⟩
          · refine OJ.go 3 [(60, .bool (r47.2.2 != 0)), (59, .bool (r47.2.2 != 0)), (58, .int .i64 r47.2.2)] ?_
            exact OJ.nil ⟨(Cov.mem Cov.nil), rfl, _, rfl, by kernel_rfl⟩
          · refine OJ.nil ?_
            refine SJ.cond (t := (.tmp 60)) (b := y51) Iff.rfl (fun hc52 => ?_) (fun hc52 => ?_)
            · refine SJ.sr 1 ?_
              refine OJ.go 1 [(6, .bool false)] ?_
              refine OJ.nil ?_
              exact SJ.ret rfl (Res.run (ys := [.bool false]) (.tmp (by kernel_rfl) .nil) rfl)
            · refine SJ.skip ?_
              refine SJ.forget (List.Sublist.cons _ (List.Sublist.cons_cons _ (List.Sublist.cons_cons _ (List.Sublist.cons _ List.Sublist.slnil)))) ?_
              refine SJ.less [4, 5] (m' := [(4, .pointer (some (pt b2 0))), (5, .pointer (some (pt b3 0)))]) ?_
              exact weirlaw4_AddrBack.K2_ok a1 a2 b2 b3
      · refine SJ.skip ?_
        refine SJ.forget (List.Sublist.cons_cons _ (List.Sublist.cons_cons _ (List.Sublist.cons _ List.Sublist.slnil))) ?_
        refine SJ.less [4, 5] (m' := [(4, .pointer (some (pt b2 0))), (5, .pointer (some (pt b3 0)))]) ?_
        exact weirlaw4_AddrBack.K2_ok a1 a2 b2 b3
end Go.Proofs.YtddmmgcfanpmmaaDoor.Lx
