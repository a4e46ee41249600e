/- Programs of the M-world for Go functions, each with the proof that the Go text does what it says. Printed by lxgen.py. -/
import Derived.Test.YtddmmgcfanpmmaaGreatDoorLxT
import Derived.Test.YtddmmgcfanpmmaaGreatDoorLxP0
import Derived.Test.YtddmmgcfanpmmaaGreatDoorLxP1
import Derived.Test.YtddmmgcfanpmmaaGreatDoorLxP2
import Derived.Test.YtddmmgcfanpmmaaGreatDoorLxP3
set_option linter.unusedVariables false
set_option linter.unusedSimpArgs false
namespace Go.Proofs.YtddmmgcfanpmmaaGreatDoor.Lx
open Go Go.Proofs
/-! ### weir/addr.Solicited: function 26 -/
noncomputable def addr_Solicited.B : Code := (Tryz.f26.body).getD .skip
noncomputable def addr_Solicited.cx : Fx := ⟨Tryz.prog, 26, Tryz.f26⟩
noncomputable def addr_Solicited.out (r_ : (api_IP × Int)) : Value := .tuple #[c_api_IP.val r_.1, .int .i64 r_.2]
noncomputable def addr_Solicited.F0 (r_ : (api_IP × Int)) : Reach := .ret (addr_Solicited.out r_)
noncomputable def addr_Solicited (a0 : api_IP) : M (api_IP × Int) :=
  slot 28 >>= fun b1 =>
  slot 28 >>= fun b2 =>
  addr_Class a0 >>= fun r3 =>
  (if a0.V ≠ 6 then
      pure true
    else
      pure (r3 == 1)) >>= fun y4 =>
  (if y4 = true then
      pure true
    else
      pure (r3 == 3)) >>= fun y5 =>
  if y5 = true then
    pure (z_api_IP, 40)
  else
    pure ((⟨6, (⟨[255, 2, 0, 0, 0, 0, 0, 0, 0, 0, 0, 1, 255, (Vec.g a0.A 13 0), (Vec.g a0.A 14 0), (Vec.g a0.A 15 0)], rfl⟩ : (Vec Int 16))⟩ : api_IP), 0)
theorem addr_Solicited_ok (a0 : api_IP) : Ref Tryz.prog 26 [c_api_IP.val a0] (addr_Solicited a0) addr_Solicited.out := by
  refine Ref.of (cd := addr_Solicited.B) Tryz.func26 ?_
  show SJ addr_Solicited.cx [.code addr_Solicited.B] [(0, c_api_IP.val a0)] [] (addr_Solicited a0) addr_Solicited.F0
  unfold addr_Solicited
  refine SJ.sr 3 ?_
  refine OJ.slotOf (d := 1) (op := (.box 28 (.tmp 0))) (cd := c_api_IP) (u := a0) (owed := []) (box_run (by kernel_rfl)) (fun b1 => ?_)
  refine OW.nil ?_
  refine OJ.slotOf (d := 2) (op := (.alloc 28)) (cd := c_api_IP) (u := z_api_IP) (owed := []) (alloc_run Ty28) (fun b2 => ?_)
  refine OW.nil ?_
  refine OJ.go 1 [(3, .int .i64 0)] ?_
  refine OJ.nil ?_
  refine SJ.seq ?_
  refine SJ.sr 3 ?_
  refine OJ.kld (d := 5) (y := .tmp 1) (cd := c_api_IP) (j := 1) (b := b1) (o := 0) a0 (pend2 := []) Ty28 rfl (At.whole _) rfl ?_
  refine OJ.call (d := 6) (g := 12) (ats := #[28]) (args := [.tmp 5]) (owed := []) F12 (addr_Class_ok a0) (fun r3 => ?_)
  refine OW.nil ?_
  refine OJ.go 1 [(4, .int .i64 r3)] ?_
  refine OJ.nil ?_
  refine SJ.sr 11 ?_
  refine OJ.go 1 [(7, .pointer (some (pt b1 0)))] ?_
  refine OJ.kld (d := 8) (y := .tmp 7) (cd := (cI .i64)) (j := 1) (b := b1) (o := 0) a0.V (pend2 := []) Ty3 rfl (At_api_IP_V a0) rfl ?_
  refine OJ.go 2 [(10, .bool (a0.V != 6)), (9, .bool (a0.V != 6))] ?_
  refine OJ.join (b := (a0.V != 6)) [4, 5, 6] [7, 8, 9, 10] [1, 2, 4, 13] (fun y4 => [(1, .pointer (some (pt b1 0))), (2, .pointer (some (pt b2 0))), (4, .int .i64 r3), (13, .bool y4)]) [] [] (t := 10) bne_iff_ne (fun hp_ => ?_) (fun hp_ => ?_) (fun _ _ _ _ _ _ h_ => h_) (fun y4 => ?_)
  · refine OJ.go 3 [(13, .bool true), (12, undef), (11, undef)] ?_
    exact OJ.nil ⟨(Cov.mem Cov.nil), rfl, _, rfl, by kernel_rfl⟩
  · refine OJ.go 3 [(13, .bool (r3 == 1)), (12, .bool (r3 == 1)), (11, .int .i64 r3)] ?_
    exact OJ.nil ⟨(Cov.mem Cov.nil), rfl, _, rfl, by kernel_rfl⟩
  · refine OJ.go 1 [(14, .bool y4)] ?_
    refine OJ.join (b := y4) [8, 9, 10] [] [1, 2, 17] (fun y5 => [(1, .pointer (some (pt b1 0))), (2, .pointer (some (pt b2 0))), (17, .bool y5)]) [] [] (t := 14) Iff.rfl (fun hp_ => ?_) (fun hp_ => ?_) (fun _ _ _ _ _ _ h_ => h_) (fun y5 => ?_)
    · refine OJ.go 3 [(17, .bool true), (16, undef), (15, undef)] ?_
      exact OJ.nil ⟨(Cov.mem Cov.nil), rfl, _, rfl, by kernel_rfl⟩
    · refine OJ.go 3 [(17, .bool (r3 == 3)), (16, .bool (r3 == 3)), (15, .int .i64 r3)] ?_
      exact OJ.nil ⟨(Cov.mem Cov.nil), rfl, _, rfl, by kernel_rfl⟩
    · refine OJ.nil ?_
      refine SJ.cond (t := (.tmp 17)) (b := y5) Iff.rfl (fun hc6 => ?_) (fun hc6 => ?_)
      · refine SJ.sr 3 ?_
        refine OJ.build (d := 18) (T := 28) (parts := []) (ps := []) (cd := c_api_IP) (z0 := z_api_IP) z_api_IP Ty28 rfl Filled.nil ?_
        refine OJ.kst (y := .tmp 2) (z := .tmp 18) (cd := c_api_IP) (u := z_api_IP) (j := 0) (b := b2) (o := 0) (c_api_IP.enc z_api_IP) (owed := []) Ty28 rfl (Upd.whole ((Cod.len _ _).trans (Cod.len _ _).symm)) rfl ?_
        refine OW.nil ?_
        refine OJ.go 1 [(3, .int .i64 40)] ?_
        refine OJ.nil ?_
        exact SJ.ret rfl (Res.run (ys := [c_api_IP.val z_api_IP, .int .i64 40]) (.cell (j := 0) (b := b2) (cd := c_api_IP) (q := z_api_IP) (by kernel_rfl) rfl Ty28 (At.whole _) (.tmp (by kernel_rfl) .nil)) rfl)
      · refine SJ.skip ?_
        refine SJ.sr 13 ?_
        refine OJ.go 2 [(20, .pointer (some (pt b1 14))), (19, .pointer (some (pt b1 1)))] ?_
        refine OJ.kld (d := 21) (y := .tmp 20) (cd := (cI .u8)) (j := 1) (b := b1) (o := 14) (Vec.g a0.A 13 0) (pend2 := []) Ty5 rfl (At.trans (At_api_IP_A a0) (At.arr (z := 0) (by decide) (by decide))) rfl ?_
        refine OJ.go 2 [(23, .pointer (some (pt b1 15))), (22, .pointer (some (pt b1 1)))] ?_
        refine OJ.kld (d := 24) (y := .tmp 23) (cd := (cI .u8)) (j := 1) (b := b1) (o := 15) (Vec.g a0.A 14 0) (pend2 := []) Ty5 rfl (At.trans (At_api_IP_A a0) (At.arr (z := 0) (by decide) (by decide))) rfl ?_
        refine OJ.go 2 [(26, .pointer (some (pt b1 16))), (25, .pointer (some (pt b1 1)))] ?_
        refine OJ.kld (d := 27) (y := .tmp 26) (cd := (cI .u8)) (j := 1) (b := b1) (o := 16) (Vec.g a0.A 15 0) (pend2 := []) Ty5 rfl (At.trans (At_api_IP_A a0) (At.arr (z := 0) (by decide) (by decide))) rfl ?_
        refine OJ.build (d := 28) (T := 26) (parts := [(0, .const (.int .u8 255)), (1, .const (.int .u8 2)), (11, .const (.int .u8 1)), (12, .const (.int .u8 255)), (13, .tmp 21), (14, .tmp 24), (15, .tmp 27)]) (ps := [(0, (cI .u8).val 255), (1, (cI .u8).val 2), (11, (cI .u8).val 1), (12, (cI .u8).val 255), (13, (cI .u8).val (Vec.g a0.A 13 0)), (14, (cI .u8).val (Vec.g a0.A 14 0)), (15, (cI .u8).val (Vec.g a0.A 15 0))]) (cd := ((cI .u8).arr 16)) (z0 := (Vec.rep 16 0)) (⟨[255, 2, 0, 0, 0, 0, 0, 0, 0, 0, 0, 1, 255, (Vec.g a0.A 13 0), (Vec.g a0.A 14 0), (Vec.g a0.A 15 0)], rfl⟩ : (Vec Int 16)) Ty26 rfl (Filled.cons (cd := (cI .u8)) (q := 255) (o := 0) (by kernel_rfl) (Upd.arr (i := 0) (by decide) (by decide)) (Filled.cons (cd := (cI .u8)) (q := 2) (o := 1) (by kernel_rfl) (Upd.arr (i := 1) (by decide) (by decide)) (Filled.cons (cd := (cI .u8)) (q := 1) (o := 11) (by kernel_rfl) (Upd.arr (i := 11) (by decide) (by decide)) (Filled.cons (cd := (cI .u8)) (q := 255) (o := 12) (by kernel_rfl) (Upd.arr (i := 12) (by decide) (by decide)) (Filled.cons (cd := (cI .u8)) (q := (Vec.g a0.A 13 0)) (o := 13) (by kernel_rfl) (Upd.arr (i := 13) (by decide) (by decide)) (Filled.cons (cd := (cI .u8)) (q := (Vec.g a0.A 14 0)) (o := 14) (by kernel_rfl) (Upd.arr (i := 14) (by decide) (by decide)) (Filled.cons (cd := (cI .u8)) (q := (Vec.g a0.A 15 0)) (o := 15) (by kernel_rfl) (Upd.arr (i := 15) (by decide) (by decide)) Filled.nil))))))) ?_
        refine OJ.build (d := 29) (T := 28) (parts := [(0, .const (.int .i64 6)), (1, .tmp 28)]) (ps := [(0, (cI .i64).val 6), (1, ((cI .u8).arr 16).val (⟨[255, 2, 0, 0, 0, 0, 0, 0, 0, 0, 0, 1, 255, (Vec.g a0.A 13 0), (Vec.g a0.A 14 0), (Vec.g a0.A 15 0)], rfl⟩ : (Vec Int 16)))]) (cd := c_api_IP) (z0 := z_api_IP) (⟨6, (⟨[255, 2, 0, 0, 0, 0, 0, 0, 0, 0, 0, 1, 255, (Vec.g a0.A 13 0), (Vec.g a0.A 14 0), (Vec.g a0.A 15 0)], rfl⟩ : (Vec Int 16))⟩ : api_IP) Ty28 rfl (Filled.cons (cd := (cI .i64)) (q := 6) (o := 0) (by kernel_rfl) (Up_api_IP_V z_api_IP 6) (Filled.cons (cd := ((cI .u8).arr 16)) (q := (⟨[255, 2, 0, 0, 0, 0, 0, 0, 0, 0, 0, 1, 255, (Vec.g a0.A 13 0), (Vec.g a0.A 14 0), (Vec.g a0.A 15 0)], rfl⟩ : (Vec Int 16))) (o := 1) (by kernel_rfl) (Up_api_IP_A (⟨6, z_api_IP.A⟩ : api_IP) (⟨[255, 2, 0, 0, 0, 0, 0, 0, 0, 0, 0, 1, 255, (Vec.g a0.A 13 0), (Vec.g a0.A 14 0), (Vec.g a0.A 15 0)], rfl⟩ : (Vec Int 16))) Filled.nil)) ?_
        refine OJ.kst (y := .tmp 2) (z := .tmp 29) (cd := c_api_IP) (u := (⟨6, (⟨[255, 2, 0, 0, 0, 0, 0, 0, 0, 0, 0, 1, 255, (Vec.g a0.A 13 0), (Vec.g a0.A 14 0), (Vec.g a0.A 15 0)], rfl⟩ : (Vec Int 16))⟩ : api_IP)) (j := 0) (b := b2) (o := 0) (c_api_IP.enc (⟨6, (⟨[255, 2, 0, 0, 0, 0, 0, 0, 0, 0, 0, 1, 255, (Vec.g a0.A 13 0), (Vec.g a0.A 14 0), (Vec.g a0.A 15 0)], rfl⟩ : (Vec Int 16))⟩ : api_IP)) (owed := []) Ty28 rfl (Upd.whole ((Cod.len _ _).trans (Cod.len _ _).symm)) rfl ?_
        refine OW.nil ?_
        refine OJ.go 1 [(3, .int .i64 0)] ?_
        refine OJ.nil ?_
        exact SJ.ret rfl (Res.run (ys := [c_api_IP.val (⟨6, (⟨[255, 2, 0, 0, 0, 0, 0, 0, 0, 0, 0, 1, 255, (Vec.g a0.A 13 0), (Vec.g a0.A 14 0), (Vec.g a0.A 15 0)], rfl⟩ : (Vec Int 16))⟩ : api_IP), .int .i64 0]) (.cell (j := 0) (b := b2) (cd := c_api_IP) (q := (⟨6, (⟨[255, 2, 0, 0, 0, 0, 0, 0, 0, 0, 0, 1, 255, (Vec.g a0.A 13 0), (Vec.g a0.A 14 0), (Vec.g a0.A 15 0)], rfl⟩ : (Vec Int 16))⟩ : api_IP)) (by kernel_rfl) rfl Ty28 (At.whole _) (.tmp (by kernel_rfl) .nil)) rfl)

/-! ### weir/weirref4.Solicited: function 27 -/
noncomputable def weirref4_Solicited.B : Code := (Tryz.f27.body).getD .skip
noncomputable def weirref4_Solicited.cx : Fx := ⟨Tryz.prog, 27, Tryz.f27⟩
noncomputable def weirref4_Solicited.out (r_ : (api_IP × Int)) : Value := .tuple #[c_api_IP.val r_.1, .int .i64 r_.2]
noncomputable def weirref4_Solicited.F0 (r_ : (api_IP × Int)) : Reach := .ret (weirref4_Solicited.out r_)
noncomputable def weirref4_Solicited.F1 (a0 : api_IP) (b1 : Nat) (b2 : Nat) (b7 : Nat) : (LS (Int × api_IP) (api_IP × Int)) → Reach := loopF [.inLoop (c1 (c1 (c2 (c1 (c2 (c2 (c2 (c2 weirref4_Solicited.B)))))))), .inBlock 0, .code (c2 (c2 (c2 (c2 (c2 weirref4_Solicited.B)))))] (fun s_ : (Int × api_IP) => [(1, .pointer (some (pt b1 0))), (2, .pointer (some (pt b2 0))), (5, .pointer (some (pt b7 0))), (8, .int .i64 s_.1)]) (fun s_ : (Int × api_IP) => [(b7, c_api_IP.enc s_.2), (b2, c_api_IP.enc z_api_IP), (b1, c_api_IP.enc a0)]) weirref4_Solicited.F0
noncomputable def weirref4_Solicited.L1 (a0 : api_IP) (s8 : Int) (s9 : api_IP) : M (LS (Int × api_IP) (api_IP × Int)) :=
  if s8 < 16 then
    chk ((0 : Int) ≤ s8 ∧ s8 < (16 : Nat)) >>= fun _ =>
    chk ((0 : Int) ≤ s8 ∧ s8 < (16 : Nat)) >>= fun _ =>
    pure (LS.next (IntKind.wrap .i64 (s8 + 1), (⟨s9.V, (Vec.s s9.A s8 (Vec.g a0.A s8 0))⟩ : api_IP)))
  else
    pure (LS.done (s9, 0))
theorem weirref4_Solicited.L1_ok (a0 : api_IP) (b1 : Nat) (b2 : Nat) (b7 : Nat) (s8 : Int) (s9 : api_IP) :
    SJ weirref4_Solicited.cx [.code (c1 (c1 (c2 (c1 (c2 (c2 (c2 (c2 weirref4_Solicited.B)))))))), .inLoop (c1 (c1 (c2 (c1 (c2 (c2 (c2 (c2 weirref4_Solicited.B)))))))), .inBlock 0, .code (c2 (c2 (c2 (c2 (c2 weirref4_Solicited.B)))))] [(1, .pointer (some (pt b1 0))), (2, .pointer (some (pt b2 0))), (5, .pointer (some (pt b7 0))), (8, .int .i64 s8)] [(b7, c_api_IP.enc s9), (b2, c_api_IP.enc z_api_IP), (b1, c_api_IP.enc a0)] (weirref4_Solicited.L1 a0 s8 s9) (weirref4_Solicited.F1 a0 b1 b2 b7) := by
  unfold weirref4_Solicited.L1
  refine SJ.seq ?_
  refine SJ.sr 2 ?_
  refine OJ.go 2 [(29, .bool (decide (s8 < 16))), (28, .int .i64 s8)] ?_
  refine OJ.nil ?_
  refine SJ.cond (t := (.tmp 29)) (b := decide (s8 < 16)) decide_eq_true_iff (fun hc19 => ?_) (fun hc19 => ?_)
  · refine SJ.skip ?_
    refine SJ.seq ?_
    refine SJ.block (id := 1) ?_
    refine SJ.rg 8 ?_
    refine OJ.go 3 [(34, .pointer (some (pt b1 1))), (33, .int .i64 s8), (32, .int .i64 s8)] ?_
    refine OJ.idxK (d := 35) (T := 26) (y := .tmp 34) (j := .tmp 33) (E := 5) (sz := 1) (b := b1) (o := 1) (k := .i64) (fun hb15 hb16 => ?_)
    refine OJ.kld (d := 36) (y := .tmp 35) (cd := (cI .u8)) (j := 2) (b := b1) (o := (1 + s8.toNat * 1)) (Vec.g a0.A s8 0) (pend2 := []) Ty5 rfl (At.trans (At_api_IP_A a0) (At.arr (z := 0) hb15 hb16)) rfl ?_
    refine OJ.go 1 [(37, .pointer (some (pt b7 1)))] ?_
    refine OJ.idxK (d := 38) (T := 26) (y := .tmp 37) (j := .tmp 32) (E := 5) (sz := 1) (b := b7) (o := 1) (k := .i64) (fun hb17 hb18 => ?_)
    refine OJ.kst (y := .tmp 38) (z := .tmp 36) (cd := (cI .u8)) (u := (Vec.g a0.A s8 0)) (j := 0) (b := b7) (o := (1 + s8.toNat * 1)) (c_api_IP.enc (⟨s9.V, (Vec.s s9.A s8 (Vec.g a0.A s8 0))⟩ : api_IP)) (owed := []) Ty5 rfl (Upd.trans (At_api_IP_A s9) (Upd.arr hb17 hb18) (Up_api_IP_A s9 (Vec.s s9.A s8 (Vec.g a0.A s8 0)))) rfl ?_
    refine OW.nil ?_
    refine OJ.nil ?_
    refine SJ.inBlock ?_
    refine SJ.rg 3 ?_
    refine OJ.go 3 [(8, .int .i64 (IntKind.wrap .i64 (s8 + 1))), (31, .int .i64 (IntKind.wrap .i64 (s8 + 1))), (30, .int .i64 s8)] ?_
    refine OJ.nil ?_
    exact SJ.at_ [1, 2, 5, 8] rfl
  · refine SJ.exit (id := 0) (by rfl) ?_
    refine SJ.sr 3 ?_
    refine OJ.kld (d := 39) (y := .tmp 5) (cd := c_api_IP) (j := 0) (b := b7) (o := 0) s9 (pend2 := []) Ty28 rfl (At.whole _) rfl ?_
    refine OJ.kst (y := .tmp 2) (z := .tmp 39) (cd := c_api_IP) (u := s9) (j := 1) (b := b2) (o := 0) (c_api_IP.enc s9) (owed := []) Ty28 rfl (Upd.whole ((Cod.len _ _).trans (Cod.len _ _).symm)) rfl ?_
    refine OW.nil ?_
    refine OJ.go 1 [(3, .int .i64 0)] ?_
    refine OJ.nil ?_
    exact SJ.ret rfl (Res.run (ys := [c_api_IP.val s9, .int .i64 0]) (.cell (j := 1) (b := b2) (cd := c_api_IP) (q := s9) (by kernel_rfl) rfl Ty28 (At.whole _) (.tmp (by kernel_rfl) .nil)) rfl)
noncomputable def weirref4_Solicited (a0 : api_IP) : M (api_IP × Int) :=
  slot 28 >>= fun b1 =>
  slot 28 >>= fun b2 =>
  weirref4_Class a0 >>= fun r3 =>
  (if a0.V ≠ 6 then
      pure true
    else
      pure (r3 == 1)) >>= fun y4 =>
  (if y4 = true then
      pure true
    else
      pure (r3 == 3)) >>= fun y5 =>
  if y5 = true then
    pure (z_api_IP, 40)
  else
    weirref4_ParseIP str25 >>= fun r6 =>
    slot 28 >>= fun b7 =>
    loopM (fun s_ : (Int × api_IP) => weirref4_Solicited.L1 a0 s_.1 s_.2) (13, r6.1)
theorem weirref4_Solicited_ok (a0 : api_IP) : Ref Tryz.prog 27 [c_api_IP.val a0] (weirref4_Solicited a0) weirref4_Solicited.out := by
  refine Ref.of (cd := weirref4_Solicited.B) Tryz.func27 ?_
  show SJ weirref4_Solicited.cx [.code weirref4_Solicited.B] [(0, c_api_IP.val a0)] [] (weirref4_Solicited a0) weirref4_Solicited.F0
  unfold weirref4_Solicited
  refine SJ.sr 3 ?_
  refine OJ.slotOf (d := 1) (op := (.box 28 (.tmp 0))) (cd := c_api_IP) (u := a0) (owed := []) (box_run (by kernel_rfl)) (fun b1 => ?_)
  refine OW.nil ?_
  refine OJ.slotOf (d := 2) (op := (.alloc 28)) (cd := c_api_IP) (u := z_api_IP) (owed := []) (alloc_run Ty28) (fun b2 => ?_)
  refine OW.nil ?_
  refine OJ.go 1 [(3, .int .i64 0)] ?_
  refine OJ.nil ?_
  refine SJ.sr 3 ?_
  refine OJ.kld (d := 9) (y := .tmp 1) (cd := c_api_IP) (j := 1) (b := b1) (o := 0) a0 (pend2 := []) Ty28 rfl (At.whole _) rfl ?_
  refine OJ.call (d := 10) (g := 53) (ats := #[28]) (args := [.tmp 9]) (owed := []) F53 (weirref4_Class_ok a0) (fun r3 => ?_)
  refine OW.nil ?_
  refine OJ.go 1 [(4, .int .i64 r3)] ?_
  refine OJ.nil ?_
  refine SJ.seq ?_
  refine SJ.sr 11 ?_
  refine OJ.go 1 [(11, .pointer (some (pt b1 0)))] ?_
  refine OJ.kld (d := 12) (y := .tmp 11) (cd := (cI .i64)) (j := 1) (b := b1) (o := 0) a0.V (pend2 := []) Ty3 rfl (At_api_IP_V a0) rfl ?_
  refine OJ.go 2 [(14, .bool (a0.V != 6)), (13, .bool (a0.V != 6))] ?_
  refine OJ.join (b := (a0.V != 6)) [4, 5, 6] [7, 8, 9, 10] [1, 2, 4, 17] (fun y4 => [(1, .pointer (some (pt b1 0))), (2, .pointer (some (pt b2 0))), (4, .int .i64 r3), (17, .bool y4)]) [] [] (t := 14) bne_iff_ne (fun hp_ => ?_) (fun hp_ => ?_) (fun _ _ _ _ _ _ h_ => h_) (fun y4 => ?_)
  · refine OJ.go 3 [(17, .bool true), (16, undef), (15, undef)] ?_
    exact OJ.nil ⟨(Cov.mem Cov.nil), rfl, _, rfl, by kernel_rfl⟩
  · refine OJ.go 3 [(17, .bool (r3 == 1)), (16, .bool (r3 == 1)), (15, .int .i64 r3)] ?_
    exact OJ.nil ⟨(Cov.mem Cov.nil), rfl, _, rfl, by kernel_rfl⟩
  · refine OJ.go 1 [(18, .bool y4)] ?_
    refine OJ.join (b := y4) [8, 9, 10] [] [1, 2, 21] (fun y5 => [(1, .pointer (some (pt b1 0))), (2, .pointer (some (pt b2 0))), (21, .bool y5)]) [] [] (t := 18) Iff.rfl (fun hp_ => ?_) (fun hp_ => ?_) (fun _ _ _ _ _ _ h_ => h_) (fun y5 => ?_)
    · refine OJ.go 3 [(21, .bool true), (20, undef), (19, undef)] ?_
      exact OJ.nil ⟨(Cov.mem Cov.nil), rfl, _, rfl, by kernel_rfl⟩
    · refine OJ.go 3 [(21, .bool (r3 == 3)), (20, .bool (r3 == 3)), (19, .int .i64 r3)] ?_
      exact OJ.nil ⟨(Cov.mem Cov.nil), rfl, _, rfl, by kernel_rfl⟩
    · refine OJ.nil ?_
      refine SJ.cond (t := (.tmp 21)) (b := y5) Iff.rfl (fun hc20 => ?_) (fun hc20 => ?_)
      · refine SJ.sr 3 ?_
        refine OJ.build (d := 22) (T := 28) (parts := []) (ps := []) (cd := c_api_IP) (z0 := z_api_IP) z_api_IP Ty28 rfl Filled.nil ?_
        refine OJ.kst (y := .tmp 2) (z := .tmp 22) (cd := c_api_IP) (u := z_api_IP) (j := 0) (b := b2) (o := 0) (c_api_IP.enc z_api_IP) (owed := []) Ty28 rfl (Upd.whole ((Cod.len _ _).trans (Cod.len _ _).symm)) rfl ?_
        refine OW.nil ?_
        refine OJ.go 1 [(3, .int .i64 40)] ?_
        refine OJ.nil ?_
        exact SJ.ret rfl (Res.run (ys := [c_api_IP.val z_api_IP, .int .i64 40]) (.cell (j := 0) (b := b2) (cd := c_api_IP) (q := z_api_IP) (by kernel_rfl) rfl Ty28 (At.whole _) (.tmp (by kernel_rfl) .nil)) rfl)
      · refine SJ.skip ?_
        refine SJ.sr 9 ?_
        refine OJ.call (d := 24) (g := 36) (ats := #[9]) (args := [.const (.string str25)]) (owed := []) F36 (weirref4_ParseIP_ok str25) (fun r6 => ?_)
        refine OW.nil ?_
        refine OJ.go 4 [(27, .int .i64 r6.2.2), (26, .int .i64 r6.2.1), (25, c_api_IP.val r6.1), (23, .tuple #[c_api_IP.val r6.1, .int .i64 r6.2.1, .int .i64 r6.2.2])] ?_
        refine OJ.slotOf (d := 5) (op := (.alloc 28)) (cd := c_api_IP) (u := z_api_IP) (owed := []) (alloc_run Ty28) (fun b7 => ?_)
        refine OW.nil ?_
        refine OJ.kst (y := .tmp 5) (z := .tmp 25) (cd := c_api_IP) (u := r6.1) (j := 0) (b := b7) (o := 0) (c_api_IP.enc r6.1) (owed := []) Ty28 rfl (Upd.whole ((Cod.len _ _).trans (Cod.len _ _).symm)) rfl ?_
        refine OW.nil ?_
        refine OJ.go 2 [(7, .int .i64 r6.2.2), (6, .int .i64 r6.2.1)] ?_
        refine OJ.nil ?_
        refine SJ.seq ?_
        refine SJ.sr 1 ?_
        refine OJ.go 1 [(8, .int .i64 13)] ?_
        refine OJ.nil ?_
        refine SJ.block (id := 0) ?_
        exact SJ.loop (fun s_ : (Int × api_IP) => [(1, .pointer (some (pt b1 0))), (2, .pointer (some (pt b2 0))), (5, .pointer (some (pt b7 0))), (8, .int .i64 s_.1)]) (fun s_ : (Int × api_IP) => [(b7, c_api_IP.enc s_.2), (b2, c_api_IP.enc z_api_IP), (b1, c_api_IP.enc a0)]) [1, 2, 5, 8] rfl (fun _ _ => rfl) (fun s_ => weirref4_Solicited.L1_ok a0 b1 b2 b7 s_.1 s_.2)

/-! ### weir/weirlaw4.plays: function 14 -/
noncomputable def weirlaw4_plays.B : Code := (Tryz.f14.body).getD .skip
noncomputable def weirlaw4_plays.cx : Fx := ⟨Tryz.prog, 14, Tryz.f14⟩
noncomputable def weirlaw4_plays.out (r_ : Bool) : Value := .bool r_
noncomputable def weirlaw4_plays.F0 (r_ : Bool) : Reach := .ret (weirlaw4_plays.out r_)
noncomputable def weirlaw4_plays.K1 (a0 : weirlaw4_Op) (j474 : Bool) : M Bool :=
  if j474 = true then
    weirlaw4_known a0 >>= fun r515 =>
    pure r515
  else
    if a0.Kind = 13 then
      addr_GroupMac a0.A >>= fun r535 =>
      slot 40 >>= fun b536 =>
      weirref4_GroupMac a0.A >>= fun r537 =>
      slot 40 >>= fun b538 =>
      (if r535.1 = r537.1 then
          weirlaw4_num r535.2 >>= fun r539 =>
          pure (r539 == r537.2)
        else
          pure false) >>= fun y540 =>
      pure y540
    else
      if a0.Kind = 14 then
        addr_Solicited a0.A >>= fun r547 =>
        slot 28 >>= fun b548 =>
        weirref4_Solicited a0.A >>= fun r549 =>
        slot 28 >>= fun b550 =>
        (if r547.1 = r549.1 then
            weirlaw4_num r547.2 >>= fun r551 =>
            pure (r551 == r549.2)
          else
            pure false) >>= fun y552 =>
        pure y552
      else
        pure true
theorem weirlaw4_plays.K1_ok (a0 : weirlaw4_Op) (b1 : Nat) (j474 : Bool) :
    SJ weirlaw4_plays.cx [.code (c2 (c2 (c2 (c2 (c2 (c1 (c2 (c1 (c2 weirlaw4_plays.B))))))))), .inBlock 0, .code (c2 (c2 weirlaw4_plays.B))] [(1, .pointer (some (pt b1 0))), (12, .int .i64 a0.Kind), (25, .bool j474)] [(b1, c_weirlaw4_Op.enc a0)] (weirlaw4_plays.K1 a0 j474) weirlaw4_plays.F0 := by
  unfold weirlaw4_plays.K1
  refine SJ.cond (t := (.tmp 25)) (b := j474) Iff.rfl (fun hc555 => ?_) (fun hc555 => ?_)
  · refine SJ.sr 3 ?_
    refine OJ.kld (d := 32) (y := .tmp 1) (cd := c_weirlaw4_Op) (j := 0) (b := b1) (o := 0) a0 (pend2 := []) Ty42 rfl (At.whole _) rfl ?_
    refine OJ.call (d := 33) (g := 23) (ats := #[42]) (args := [.tmp 32]) (owed := []) F23 (weirlaw4_known_ok a0) (fun r515 => ?_)
    refine OW.nil ?_
    refine OJ.go 1 [(2, .bool r515)] ?_
    refine OJ.nil ?_
    exact SJ.ret rfl (Res.run (ys := [.bool r515]) (.tmp (by kernel_rfl) .nil) rfl)
  · refine SJ.sr 2 ?_
    refine OJ.go 2 [(34, .bool (a0.Kind == 13)), (35, .bool (a0.Kind == 13))] ?_
    refine OJ.nil ?_
    refine SJ.cond (t := (.tmp 34)) (b := (a0.Kind == 13)) beq_iff_eq (fun hc554 => ?_) (fun hc554 => ?_)
    · refine SJ.sr 9 ?_
      refine OJ.go 1 [(37, .pointer (some (pt b1 2)))] ?_
      refine OJ.kld (d := 38) (y := .tmp 37) (cd := c_api_IP) (j := 0) (b := b1) (o := 2) a0.A (pend2 := []) Ty28 rfl (At_weirlaw4_Op_A a0) rfl ?_
      refine OJ.call (d := 39) (g := 24) (ats := #[28]) (args := [.tmp 38]) (owed := []) F24 (addr_GroupMac_ok a0.A) (fun r535 => ?_)
      refine OW.nil ?_
      refine OJ.go 3 [(41, .int .i64 r535.2), (40, ((cI .u8).arr 6).val r535.1), (36, .tuple #[((cI .u8).arr 6).val r535.1, .int .i64 r535.2])] ?_
      refine OJ.slotOf (d := 3) (op := (.alloc 40)) (cd := ((cI .u8).arr 6)) (u := (Vec.rep 6 0)) (owed := []) (alloc_run Ty40) (fun b536 => ?_)
      refine OW.nil ?_
      refine OJ.kst (y := .tmp 3) (z := .tmp 40) (cd := ((cI .u8).arr 6)) (u := r535.1) (j := 0) (b := b536) (o := 0) (((cI .u8).arr 6).enc r535.1) (owed := []) Ty40 rfl (Upd.whole ((Cod.len _ _).trans (Cod.len _ _).symm)) rfl ?_
      refine OW.nil ?_
      refine OJ.go 1 [(4, .int .i64 r535.2)] ?_
      refine OJ.nil ?_
      refine SJ.sr 9 ?_
      refine OJ.go 1 [(43, .pointer (some (pt b1 2)))] ?_
      refine OJ.kld (d := 44) (y := .tmp 43) (cd := c_api_IP) (j := 1) (b := b1) (o := 2) a0.A (pend2 := []) Ty28 rfl (At_weirlaw4_Op_A a0) rfl ?_
      refine OJ.call (d := 45) (g := 25) (ats := #[28]) (args := [.tmp 44]) (owed := []) F25 (weirref4_GroupMac_ok a0.A) (fun r537 => ?_)
      refine OW.nil ?_
      refine OJ.go 3 [(47, .int .i64 r537.2), (46, ((cI .u8).arr 6).val r537.1), (42, .tuple #[((cI .u8).arr 6).val r537.1, .int .i64 r537.2])] ?_
      refine OJ.slotOf (d := 5) (op := (.alloc 40)) (cd := ((cI .u8).arr 6)) (u := (Vec.rep 6 0)) (owed := []) (alloc_run Ty40) (fun b538 => ?_)
      refine OW.nil ?_
      refine OJ.kst (y := .tmp 5) (z := .tmp 46) (cd := ((cI .u8).arr 6)) (u := r537.1) (j := 0) (b := b538) (o := 0) (((cI .u8).arr 6).enc r537.1) (owed := []) Ty40 rfl (Upd.whole ((Cod.len _ _).trans (Cod.len _ _).symm)) rfl ?_
      refine OW.nil ?_
      refine OJ.go 1 [(6, .int .i64 r537.2)] ?_
      refine OJ.nil ?_
      refine SJ.sr 10 ?_
      refine OJ.kld (d := 48) (y := .tmp 3) (cd := ((cI .u8).arr 6)) (j := 1) (b := b536) (o := 0) r535.1 (pend2 := []) Ty40 rfl (At.whole _) rfl ?_
      refine OJ.kld (d := 49) (y := .tmp 5) (cd := ((cI .u8).arr 6)) (j := 0) (b := b538) (o := 0) r537.1 (pend2 := []) Ty40 rfl (At.whole _) rfl ?_
      refine OJ.eql (d := 50) (T := 40) (yT := 40) (y := .tmp 48) (z := .tmp 49) (cd := ((cI .u8).arr 6)) (p := r535.1) (q := r537.1) rfl Eq40 ?_
      refine OJ.go 1 [(51, .bool (eqv r535.1 r537.1))] ?_
      refine OJ.join (b := (eqv r535.1 r537.1)) [4, 5, 6, 7, 8] [9] [56] (fun y540 => [(56, .bool y540)]) [] [] (t := 51) eqv_iff (fun hp_ => ?_) (fun hp_ => ?_) (fun _ _ _ _ _ _ h_ => h_) (fun y540 => ?_)
      · refine OJ.go 1 [(52, .int .i64 r535.2)] ?_
        refine OJ.call (d := 53) (g := 13) (ats := #[29]) (args := [.tmp 52]) (owed := []) F13 (weirlaw4_num_ok r535.2) (fun r539 => ?_)
        refine OW.nil ?_
        refine OJ.go 3 [(56, .bool (r539 == r537.2)), (55, .bool (r539 == r537.2)), (54, .int .i64 r537.2)] ?_
        exact OJ.nil ⟨(Cov.mem Cov.nil), rfl, _, rfl, by kernel_rfl⟩
      · refine OJ.go 5 [(56, .bool false), (55, undef), (54, undef), (53, undef), (52, undef)] ?_
        exact OJ.nil ⟨(Cov.mem Cov.nil), rfl, _, rfl, by kernel_rfl⟩
      · refine OJ.go 1 [(2, .bool y540)] ?_
        refine OJ.nil ?_
        exact SJ.ret rfl (Res.run (ys := [.bool y540]) (.tmp (by kernel_rfl) .nil) rfl)
    · refine SJ.sr 2 ?_
      refine OJ.go 2 [(57, .bool (a0.Kind == 14)), (58, .bool (a0.Kind == 14))] ?_
      refine OJ.nil ?_
      refine SJ.cond (t := (.tmp 57)) (b := (a0.Kind == 14)) beq_iff_eq (fun hc553 => ?_) (fun hc553 => ?_)
      · refine SJ.sr 9 ?_
        refine OJ.go 1 [(60, .pointer (some (pt b1 2)))] ?_
        refine OJ.kld (d := 61) (y := .tmp 60) (cd := c_api_IP) (j := 0) (b := b1) (o := 2) a0.A (pend2 := []) Ty28 rfl (At_weirlaw4_Op_A a0) rfl ?_
        refine OJ.call (d := 62) (g := 26) (ats := #[28]) (args := [.tmp 61]) (owed := []) F26 (addr_Solicited_ok a0.A) (fun r547 => ?_)
        refine OW.nil ?_
        refine OJ.go 3 [(64, .int .i64 r547.2), (63, c_api_IP.val r547.1), (59, .tuple #[c_api_IP.val r547.1, .int .i64 r547.2])] ?_
        refine OJ.slotOf (d := 7) (op := (.alloc 28)) (cd := c_api_IP) (u := z_api_IP) (owed := []) (alloc_run Ty28) (fun b548 => ?_)
        refine OW.nil ?_
        refine OJ.kst (y := .tmp 7) (z := .tmp 63) (cd := c_api_IP) (u := r547.1) (j := 0) (b := b548) (o := 0) (c_api_IP.enc r547.1) (owed := []) Ty28 rfl (Upd.whole ((Cod.len _ _).trans (Cod.len _ _).symm)) rfl ?_
        refine OW.nil ?_
        refine OJ.go 1 [(8, .int .i64 r547.2)] ?_
        refine OJ.nil ?_
        refine SJ.sr 9 ?_
        refine OJ.go 1 [(66, .pointer (some (pt b1 2)))] ?_
        refine OJ.kld (d := 67) (y := .tmp 66) (cd := c_api_IP) (j := 1) (b := b1) (o := 2) a0.A (pend2 := []) Ty28 rfl (At_weirlaw4_Op_A a0) rfl ?_
        refine OJ.call (d := 68) (g := 27) (ats := #[28]) (args := [.tmp 67]) (owed := []) F27 (weirref4_Solicited_ok a0.A) (fun r549 => ?_)
        refine OW.nil ?_
        refine OJ.go 3 [(70, .int .i64 r549.2), (69, c_api_IP.val r549.1), (65, .tuple #[c_api_IP.val r549.1, .int .i64 r549.2])] ?_
        refine OJ.slotOf (d := 9) (op := (.alloc 28)) (cd := c_api_IP) (u := z_api_IP) (owed := []) (alloc_run Ty28) (fun b550 => ?_)
        refine OW.nil ?_
        refine OJ.kst (y := .tmp 9) (z := .tmp 69) (cd := c_api_IP) (u := r549.1) (j := 0) (b := b550) (o := 0) (c_api_IP.enc r549.1) (owed := []) Ty28 rfl (Upd.whole ((Cod.len _ _).trans (Cod.len _ _).symm)) rfl ?_
        refine OW.nil ?_
        refine OJ.go 1 [(10, .int .i64 r549.2)] ?_
        refine OJ.nil ?_
        refine SJ.sr 10 ?_
        refine OJ.kld (d := 71) (y := .tmp 7) (cd := c_api_IP) (j := 1) (b := b548) (o := 0) r547.1 (pend2 := []) Ty28 rfl (At.whole _) rfl ?_
        refine OJ.kld (d := 72) (y := .tmp 9) (cd := c_api_IP) (j := 0) (b := b550) (o := 0) r549.1 (pend2 := []) Ty28 rfl (At.whole _) rfl ?_
        refine OJ.eql (d := 73) (T := 28) (yT := 28) (y := .tmp 71) (z := .tmp 72) (cd := c_api_IP) (p := r547.1) (q := r549.1) rfl Eq28 ?_
        refine OJ.go 1 [(74, .bool (eqv r547.1 r549.1))] ?_
        refine OJ.join (b := (eqv r547.1 r549.1)) [4, 5, 6, 7, 8] [9] [79] (fun y552 => [(79, .bool y552)]) [] [] (t := 74) eqv_iff (fun hp_ => ?_) (fun hp_ => ?_) (fun _ _ _ _ _ _ h_ => h_) (fun y552 => ?_)
        · refine OJ.go 1 [(75, .int .i64 r547.2)] ?_
          refine OJ.call (d := 76) (g := 13) (ats := #[29]) (args := [.tmp 75]) (owed := []) F13 (weirlaw4_num_ok r547.2) (fun r551 => ?_)
          refine OW.nil ?_
          refine OJ.go 3 [(79, .bool (r551 == r549.2)), (78, .bool (r551 == r549.2)), (77, .int .i64 r549.2)] ?_
          exact OJ.nil ⟨(Cov.mem Cov.nil), rfl, _, rfl, by kernel_rfl⟩
        · refine OJ.go 5 [(79, .bool false), (78, undef), (77, undef), (76, undef), (75, undef)] ?_
          exact OJ.nil ⟨(Cov.mem Cov.nil), rfl, _, rfl, by kernel_rfl⟩
        · refine OJ.go 1 [(2, .bool y552)] ?_
          refine OJ.nil ?_
          exact SJ.ret rfl (Res.run (ys := [.bool y552]) (.tmp (by kernel_rfl) .nil) rfl)
      · refine SJ.skip ?_
        refine SJ.inBlock ?_
        refine SJ.sr 1 ?_
        refine OJ.go 1 [(2, .bool true)] ?_
        refine OJ.nil ?_
        exact SJ.ret rfl (Res.run (ys := [.bool true]) (.tmp (by kernel_rfl) .nil) rfl)
noncomputable def weirlaw4_plays.K2 (a0 : weirlaw4_Op) (j570 : Bool) : M Bool :=
  weirlaw4_plays.K1 a0 j570
theorem weirlaw4_plays.K2_ok (a0 : weirlaw4_Op) (b1 : Nat) (j570 : Bool) :
    SJ weirlaw4_plays.cx [.code (c2 (c2 (c2 (c2 (c2 (c1 (c2 (c1 (c2 weirlaw4_plays.B))))))))), .inBlock 0, .code (c2 (c2 weirlaw4_plays.B))] [(1, .pointer (some (pt b1 0))), (12, .int .i64 a0.Kind), (25, .bool j570)] [(b1, c_weirlaw4_Op.enc a0)] (weirlaw4_plays.K2 a0 j570) weirlaw4_plays.F0 := by
  unfold weirlaw4_plays.K2
  refine SJ.less [1, 12, 25] (m' := [(1, .pointer (some (pt b1 0))), (12, .int .i64 a0.Kind), (25, .bool j570)]) ?_
  exact weirlaw4_plays.K1_ok a0 b1 j570
noncomputable def weirlaw4_plays.K3 (a0 : weirlaw4_Op) (j577 : Bool) : M Bool :=
  weirlaw4_plays.K2 a0 j577
theorem weirlaw4_plays.K3_ok (a0 : weirlaw4_Op) (b1 : Nat) (j577 : Bool) :
    SJ weirlaw4_plays.cx [.code (c2 (c2 (c2 (c2 (c2 (c1 (c2 (c1 (c2 weirlaw4_plays.B))))))))), .inBlock 0, .code (c2 (c2 weirlaw4_plays.B))] [(1, .pointer (some (pt b1 0))), (12, .int .i64 a0.Kind), (25, .bool j577)] [(b1, c_weirlaw4_Op.enc a0)] (weirlaw4_plays.K3 a0 j577) weirlaw4_plays.F0 := by
  unfold weirlaw4_plays.K3
  refine SJ.less [1, 12, 25] (m' := [(1, .pointer (some (pt b1 0))), (12, .int .i64 a0.Kind), (25, .bool j577)]) ?_
  exact weirlaw4_plays.K2_ok a0 b1 j577
noncomputable def weirlaw4_plays.K4 (a0 : weirlaw4_Op) (j580 : Bool) : M Bool :=
  weirlaw4_plays.K3 a0 j580
theorem weirlaw4_plays.K4_ok (a0 : weirlaw4_Op) (b1 : Nat) (j580 : Bool) :
    SJ weirlaw4_plays.cx [.code (c2 (c2 (c2 (c2 (c2 (c1 (c2 (c1 (c2 weirlaw4_plays.B))))))))), .inBlock 0, .code (c2 (c2 weirlaw4_plays.B))] [(1, .pointer (some (pt b1 0))), (12, .int .i64 a0.Kind), (25, .bool j580)] [(b1, c_weirlaw4_Op.enc a0)] (weirlaw4_plays.K4 a0 j580) weirlaw4_plays.F0 := by
  unfold weirlaw4_plays.K4
  refine SJ.less [1, 12, 25] (m' := [(1, .pointer (some (pt b1 0))), (12, .int .i64 a0.Kind), (25, .bool j580)]) ?_
  exact weirlaw4_plays.K3_ok a0 b1 j580
noncomputable def weirlaw4_plays.K5 (a0 : weirlaw4_Op) (j581 : Bool) : M Bool :=
  weirlaw4_plays.K4 a0 j581
theorem weirlaw4_plays.K5_ok (a0 : weirlaw4_Op) (b1 : Nat) (j581 : Bool) :
    SJ weirlaw4_plays.cx [.code (c2 (c2 (c2 (c2 (c2 (c1 (c2 (c1 (c2 weirlaw4_plays.B))))))))), .inBlock 0, .code (c2 (c2 weirlaw4_plays.B))] [(1, .pointer (some (pt b1 0))), (12, .int .i64 a0.Kind), (25, .bool j581)] [(b1, c_weirlaw4_Op.enc a0)] (weirlaw4_plays.K5 a0 j581) weirlaw4_plays.F0 := by
  unfold weirlaw4_plays.K5
  refine SJ.less [1, 12, 25] (m' := [(1, .pointer (some (pt b1 0))), (12, .int .i64 a0.Kind), (25, .bool j581)]) ?_
  exact weirlaw4_plays.K4_ok a0 b1 j581
noncomputable def weirlaw4_plays.K6 (a0 : weirlaw4_Op) (j300 : Bool) : M Bool :=
  if j300 = true then
    fail
  else
    if a0.Kind = 7 then
      weirlaw4_plays.K1 a0 (a0.Kind == 7)
    else
      if a0.Kind = 8 then
        weirlaw4_plays.K2 a0 (a0.Kind == 8)
      else
        if a0.Kind = 9 then
          weirlaw4_plays.K3 a0 (a0.Kind == 9)
        else
          if a0.Kind = 10 then
            weirlaw4_plays.K4 a0 (a0.Kind == 10)
          else
            if a0.Kind = 11 then
              weirlaw4_plays.K5 a0 (a0.Kind == 11)
            else
              weirlaw4_plays.K5 a0 (a0.Kind == 12)
theorem weirlaw4_plays.K6_ok (a0 : weirlaw4_Op) (b1 : Nat) (j300 : Bool) :
    SJ weirlaw4_plays.cx [.code (c2 (c2 (c2 (c1 (c2 (c1 (c2 weirlaw4_plays.B))))))), .inBlock 0, .code (c2 (c2 weirlaw4_plays.B))] [(1, .pointer (some (pt b1 0))), (12, .int .i64 a0.Kind), (19, .bool j300)] [(b1, c_weirlaw4_Op.enc a0)] (weirlaw4_plays.K6 a0 j300) weirlaw4_plays.F0 := by
  unfold weirlaw4_plays.K6
  refine SJ.cond (t := (.tmp 19)) (b := j300) Iff.rfl (fun hc587 => ?_) (fun hc587 => ?_)
  · exact SJ.fail
  · refine SJ.seq ?_
    refine SJ.sr 2 ?_
    refine OJ.go 2 [(25, .bool (a0.Kind == 7)), (26, .bool (a0.Kind == 7))] ?_
    refine OJ.nil ?_
    refine SJ.cond (t := (.tmp 25)) (b := (a0.Kind == 7)) beq_iff_eq (fun hc586 => ?_) (fun hc586 => ?_)
    · refine SJ.skip ?_
      refine SJ.less [1, 12, 25] (m' := [(1, .pointer (some (pt b1 0))), (12, .int .i64 a0.Kind), (25, .bool (a0.Kind == 7))]) ?_
      exact weirlaw4_plays.K1_ok a0 b1 (a0.Kind == 7)
    · refine SJ.sr 2 ?_
      refine OJ.go 2 [(25, .bool (a0.Kind == 8)), (27, .bool (a0.Kind == 8))] ?_
      refine OJ.nil ?_
      refine SJ.cond (t := (.tmp 25)) (b := (a0.Kind == 8)) beq_iff_eq (fun hc585 => ?_) (fun hc585 => ?_)
      · refine SJ.skip ?_
        refine SJ.less [1, 12, 25] (m' := [(1, .pointer (some (pt b1 0))), (12, .int .i64 a0.Kind), (25, .bool (a0.Kind == 8))]) ?_
        exact weirlaw4_plays.K2_ok a0 b1 (a0.Kind == 8)
      · refine SJ.sr 2 ?_
        refine OJ.go 2 [(25, .bool (a0.Kind == 9)), (28, .bool (a0.Kind == 9))] ?_
        refine OJ.nil ?_
        refine SJ.cond (t := (.tmp 25)) (b := (a0.Kind == 9)) beq_iff_eq (fun hc584 => ?_) (fun hc584 => ?_)
        · refine SJ.skip ?_
          refine SJ.less [1, 12, 25] (m' := [(1, .pointer (some (pt b1 0))), (12, .int .i64 a0.Kind), (25, .bool (a0.Kind == 9))]) ?_
          exact weirlaw4_plays.K3_ok a0 b1 (a0.Kind == 9)
        · refine SJ.sr 2 ?_
          refine OJ.go 2 [(25, .bool (a0.Kind == 10)), (29, .bool (a0.Kind == 10))] ?_
          refine OJ.nil ?_
          refine SJ.cond (t := (.tmp 25)) (b := (a0.Kind == 10)) beq_iff_eq (fun hc583 => ?_) (fun hc583 => ?_)
          · refine SJ.skip ?_
            refine SJ.less [1, 12, 25] (m' := [(1, .pointer (some (pt b1 0))), (12, .int .i64 a0.Kind), (25, .bool (a0.Kind == 10))]) ?_
            exact weirlaw4_plays.K4_ok a0 b1 (a0.Kind == 10)
          · refine SJ.sr 2 ?_
            refine OJ.go 2 [(25, .bool (a0.Kind == 11)), (30, .bool (a0.Kind == 11))] ?_
            refine OJ.nil ?_
            refine SJ.cond (t := (.tmp 25)) (b := (a0.Kind == 11)) beq_iff_eq (fun hc582 => ?_) (fun hc582 => ?_)
            · refine SJ.skip ?_
              refine SJ.less [1, 12, 25] (m' := [(1, .pointer (some (pt b1 0))), (12, .int .i64 a0.Kind), (25, .bool (a0.Kind == 11))]) ?_
              exact weirlaw4_plays.K5_ok a0 b1 (a0.Kind == 11)
            · refine SJ.rg 2 ?_
              refine OJ.go 2 [(25, .bool (a0.Kind == 12)), (31, .bool (a0.Kind == 12))] ?_
              refine OJ.nil ?_
              refine SJ.less [1, 12, 25] (m' := [(1, .pointer (some (pt b1 0))), (12, .int .i64 a0.Kind), (25, .bool (a0.Kind == 12))]) ?_
              exact weirlaw4_plays.K5_ok a0 b1 (a0.Kind == 12)
noncomputable def weirlaw4_plays.K7 (a0 : weirlaw4_Op) (j588 : Bool) : M Bool :=
  weirlaw4_plays.K6 a0 j588
theorem weirlaw4_plays.K7_ok (a0 : weirlaw4_Op) (b1 : Nat) (j588 : Bool) :
    SJ weirlaw4_plays.cx [.code (c2 (c2 (c2 (c1 (c2 (c1 (c2 weirlaw4_plays.B))))))), .inBlock 0, .code (c2 (c2 weirlaw4_plays.B))] [(1, .pointer (some (pt b1 0))), (12, .int .i64 a0.Kind), (19, .bool j588)] [(b1, c_weirlaw4_Op.enc a0)] (weirlaw4_plays.K7 a0 j588) weirlaw4_plays.F0 := by
  unfold weirlaw4_plays.K7
  refine SJ.less [1, 12, 19] (m' := [(1, .pointer (some (pt b1 0))), (12, .int .i64 a0.Kind), (19, .bool j588)]) ?_
  exact weirlaw4_plays.K6_ok a0 b1 j588
noncomputable def weirlaw4_plays.K8 (a0 : weirlaw4_Op) (j4 : Bool) : M Bool :=
  if j4 = true then
    fail
  else
    if a0.Kind = 4 then
      weirlaw4_plays.K6 a0 (a0.Kind == 4)
    else
      if a0.Kind = 5 then
        weirlaw4_plays.K7 a0 (a0.Kind == 5)
      else
        weirlaw4_plays.K7 a0 (a0.Kind == 6)
theorem weirlaw4_plays.K8_ok (a0 : weirlaw4_Op) (b1 : Nat) (j4 : Bool) :
    SJ weirlaw4_plays.cx [.code (c2 (c1 (c2 (c1 (c2 weirlaw4_plays.B))))), .inBlock 0, .code (c2 (c2 weirlaw4_plays.B))] [(1, .pointer (some (pt b1 0))), (12, .int .i64 a0.Kind), (13, .bool j4)] [(b1, c_weirlaw4_Op.enc a0)] (weirlaw4_plays.K8 a0 j4) weirlaw4_plays.F0 := by
  unfold weirlaw4_plays.K8
  refine SJ.cond (t := (.tmp 13)) (b := j4) Iff.rfl (fun hc591 => ?_) (fun hc591 => ?_)
  · exact SJ.fail
  · refine SJ.seq ?_
    refine SJ.sr 2 ?_
    refine OJ.go 2 [(19, .bool (a0.Kind == 4)), (20, .bool (a0.Kind == 4))] ?_
    refine OJ.nil ?_
    refine SJ.cond (t := (.tmp 19)) (b := (a0.Kind == 4)) beq_iff_eq (fun hc590 => ?_) (fun hc590 => ?_)
    · refine SJ.skip ?_
      refine SJ.less [1, 12, 19] (m' := [(1, .pointer (some (pt b1 0))), (12, .int .i64 a0.Kind), (19, .bool (a0.Kind == 4))]) ?_
      exact weirlaw4_plays.K6_ok a0 b1 (a0.Kind == 4)
    · refine SJ.sr 2 ?_
      refine OJ.go 2 [(19, .bool (a0.Kind == 5)), (21, .bool (a0.Kind == 5))] ?_
      refine OJ.nil ?_
      refine SJ.cond (t := (.tmp 19)) (b := (a0.Kind == 5)) beq_iff_eq (fun hc589 => ?_) (fun hc589 => ?_)
      · refine SJ.skip ?_
        refine SJ.less [1, 12, 19] (m' := [(1, .pointer (some (pt b1 0))), (12, .int .i64 a0.Kind), (19, .bool (a0.Kind == 5))]) ?_
        exact weirlaw4_plays.K7_ok a0 b1 (a0.Kind == 5)
      · refine SJ.rg 2 ?_
        refine OJ.go 2 [(19, .bool (a0.Kind == 6)), (22, .bool (a0.Kind == 6))] ?_
        refine OJ.nil ?_
        refine SJ.less [1, 12, 19] (m' := [(1, .pointer (some (pt b1 0))), (12, .int .i64 a0.Kind), (19, .bool (a0.Kind == 6))]) ?_
        exact weirlaw4_plays.K7_ok a0 b1 (a0.Kind == 6)
noncomputable def weirlaw4_plays.K9 (a0 : weirlaw4_Op) (j592 : Bool) : M Bool :=
  weirlaw4_plays.K8 a0 j592
theorem weirlaw4_plays.K9_ok (a0 : weirlaw4_Op) (b1 : Nat) (j592 : Bool) :
    SJ weirlaw4_plays.cx [.code (c2 (c1 (c2 (c1 (c2 weirlaw4_plays.B))))), .inBlock 0, .code (c2 (c2 weirlaw4_plays.B))] [(1, .pointer (some (pt b1 0))), (12, .int .i64 a0.Kind), (13, .bool j592)] [(b1, c_weirlaw4_Op.enc a0)] (weirlaw4_plays.K9 a0 j592) weirlaw4_plays.F0 := by
  unfold weirlaw4_plays.K9
  refine SJ.less [1, 12, 13] (m' := [(1, .pointer (some (pt b1 0))), (12, .int .i64 a0.Kind), (13, .bool j592)]) ?_
  exact weirlaw4_plays.K8_ok a0 b1 j592
noncomputable def weirlaw4_plays (a0 : weirlaw4_Op) : M Bool :=
  slot 42 >>= fun b1 =>
  if a0.Kind = 1 then
    weirlaw4_plays.K8 a0 (a0.Kind == 1)
  else
    if a0.Kind = 2 then
      weirlaw4_plays.K9 a0 (a0.Kind == 2)
    else
      weirlaw4_plays.K9 a0 (a0.Kind == 3)
theorem weirlaw4_plays_ok (a0 : weirlaw4_Op) : Ref Tryz.prog 14 [c_weirlaw4_Op.val a0] (weirlaw4_plays a0) weirlaw4_plays.out := by
  refine Ref.of (cd := weirlaw4_plays.B) Tryz.func14 ?_
  show SJ weirlaw4_plays.cx [.code weirlaw4_plays.B] [(0, c_weirlaw4_Op.val a0)] [] (weirlaw4_plays a0) weirlaw4_plays.F0
  unfold weirlaw4_plays
  refine SJ.sr 2 ?_
  refine OJ.slotOf (d := 1) (op := (.box 42 (.tmp 0))) (cd := c_weirlaw4_Op) (u := a0) (owed := []) (box_run (by kernel_rfl)) (fun b1 => ?_)
  refine OW.nil ?_
  refine OJ.go 1 [(2, .bool false)] ?_
  refine OJ.nil ?_
  refine SJ.seq ?_
  refine SJ.sr 2 ?_
  refine OJ.go 1 [(11, .pointer (some (pt b1 0)))] ?_
  refine OJ.kld (d := 12) (y := .tmp 11) (cd := (cI .i64)) (j := 0) (b := b1) (o := 0) a0.Kind (pend2 := []) Ty3 rfl (At_weirlaw4_Op_Kind a0) rfl ?_
  refine OJ.nil ?_
  refine SJ.block (id := 0) ?_
  refine SJ.seq ?_
  refine SJ.sr 2 ?_
  refine OJ.go 2 [(13, .bool (a0.Kind == 1)), (14, .bool (a0.Kind == 1))] ?_
  refine OJ.nil ?_
  refine SJ.cond (t := (.tmp 13)) (b := (a0.Kind == 1)) beq_iff_eq (fun hc594 => ?_) (fun hc594 => ?_)
  · refine SJ.skip ?_
    refine SJ.less [1, 12, 13] (m' := [(1, .pointer (some (pt b1 0))), (12, .int .i64 a0.Kind), (13, .bool (a0.Kind == 1))]) ?_
    exact weirlaw4_plays.K8_ok a0 b1 (a0.Kind == 1)
  · refine SJ.sr 2 ?_
    refine OJ.go 2 [(13, .bool (a0.Kind == 2)), (15, .bool (a0.Kind == 2))] ?_
    refine OJ.nil ?_
    refine SJ.cond (t := (.tmp 13)) (b := (a0.Kind == 2)) beq_iff_eq (fun hc593 => ?_) (fun hc593 => ?_)
    · refine SJ.skip ?_
      refine SJ.less [1, 12, 13] (m' := [(1, .pointer (some (pt b1 0))), (12, .int .i64 a0.Kind), (13, .bool (a0.Kind == 2))]) ?_
      exact weirlaw4_plays.K9_ok a0 b1 (a0.Kind == 2)
    · refine SJ.rg 2 ?_
      refine OJ.go 2 [(13, .bool (a0.Kind == 3)), (16, .bool (a0.Kind == 3))] ?_
      refine OJ.nil ?_
      refine SJ.less [1, 12, 13] (m' := [(1, .pointer (some (pt b1 0))), (12, .int .i64 a0.Kind), (13, .bool (a0.Kind == 3))]) ?_
      exact weirlaw4_plays.K9_ok a0 b1 (a0.Kind == 3)

/-! ### weir/weirlaw4.upTo: function 8 -/
noncomputable def weirlaw4_upTo.B : Code := (Tryz.f8.body).getD .skip
noncomputable def weirlaw4_upTo.cx : Fx := ⟨Tryz.prog, 8, Tryz.f8⟩
noncomputable def weirlaw4_upTo.out (r_ : Bool) : Value := .bool r_
noncomputable def weirlaw4_upTo.F0 (r_ : Bool) : Reach := .ret (weirlaw4_upTo.out r_)
noncomputable def weirlaw4_upTo.F1 (a0 : Sl) (a1 : Int) (a2 : Int) : (LS Int Bool) → Reach := loopF [.inLoop (c1 (c1 (c2 (c1 (c2 weirlaw4_upTo.B))))), .inBlock 0, .code (c2 (c2 weirlaw4_upTo.B))] (fun s_ : Int => [(0, Sl.v a0), (1, .int .i64 a1), (2, .int .i64 a2), (7, .int .i64 s_)]) (fun s_ : Int => []) weirlaw4_upTo.F0
noncomputable def weirlaw4_upTo.L1 (a0 : Sl) (a1 : Int) (a2 : Int) (s1 : Int) : M (LS Int Bool) :=
  if s1 < (a0.len : Int) then
    idx a0.a a0.len s1 61 >>= fun p17 =>
    ld (cI .i64) p17 >>= fun x18 =>
    (if x18 ≥ a1 then
        idx a0.a a0.len s1 61 >>= fun p19 =>
        ld (cI .i64) p19 >>= fun x20 =>
        pure (decide (x20 ≤ a2))
      else
        pure false) >>= fun y21 =>
    if y21 = true then
      idx a0.a a0.len s1 61 >>= fun p26 =>
      ld c_weirlaw4_Op p26 >>= fun x27 =>
      weirlaw4_plays x27 >>= fun r28 =>
      if ¬ (r28 = true) then
        pure (LS.done false)
      else
        pure (LS.next (IntKind.wrap .i64 (s1 + 1)))
    else
      pure (LS.next (IntKind.wrap .i64 (s1 + 1)))
  else
    pure (LS.done true)
theorem weirlaw4_upTo.L1_ok (a0 : Sl) (a1 : Int) (a2 : Int) (s1 : Int) :
    SJ weirlaw4_upTo.cx [.code (c1 (c1 (c2 (c1 (c2 weirlaw4_upTo.B))))), .inLoop (c1 (c1 (c2 (c1 (c2 weirlaw4_upTo.B))))), .inBlock 0, .code (c2 (c2 weirlaw4_upTo.B))] [(0, Sl.v a0), (1, .int .i64 a1), (2, .int .i64 a2), (7, .int .i64 s1)] [] (weirlaw4_upTo.L1 a0 a1 a2 s1) (weirlaw4_upTo.F1 a0 a1 a2) := by
  unfold weirlaw4_upTo.L1
  refine SJ.seq ?_
  refine SJ.sr 4 ?_
  refine OJ.go 4 [(12, .bool (decide (s1 < (a0.len : Int)))), (11, .int .i64 (a0.len : Int)), (10, Sl.v a0), (9, .int .i64 s1)] ?_
  refine OJ.nil ?_
  refine SJ.cond (t := (.tmp 12)) (b := decide (s1 < (a0.len : Int))) decide_eq_true_iff (fun hc31 => ?_) (fun hc31 => ?_)
  · refine SJ.skip ?_
    refine SJ.seq ?_
    refine SJ.block (id := 1) ?_
    refine SJ.sr 16 ?_
    refine OJ.go 2 [(16, .int .i64 s1), (15, Sl.v a0)] ?_
    refine OJ.idxS (d := 17) (T := 22) (y := .tmp 15) (j := .tmp 16) (E := 42) (cap := a0.cap) (k := .i64) (fun p17 => ?_)
    refine OJ.go 1 [(18, .pointer (some p17))] ?_
    refine OJ.ld (d := 19) (y := .tmp 18) (pend2 := fun x18 => []) Ty3 (fun _ => rfl) (fun x18 => ?_)
    refine OJ.go 3 [(22, .bool (decide (x18 ≥ a1))), (21, .bool (decide (x18 ≥ a1))), (20, .int .i64 a1)] ?_
    refine OJ.join (b := decide (x18 ≥ a1)) [8, 9, 10, 11, 12, 13, 14, 15] [] [0, 1, 2, 7, 30] (fun y21 => [(0, Sl.v a0), (1, .int .i64 a1), (2, .int .i64 a2), (7, .int .i64 s1), (30, .bool y21)]) [] [] (t := 22) decide_eq_true_iff (fun hp_ => ?_) (fun hp_ => ?_) (fun _ _ _ _ _ _ h_ => h_) (fun y21 => ?_)
    · refine OJ.go 2 [(24, .int .i64 s1), (23, Sl.v a0)] ?_
      refine OJ.idxS (d := 25) (T := 22) (y := .tmp 23) (j := .tmp 24) (E := 42) (cap := a0.cap) (k := .i64) (fun p19 => ?_)
      refine OJ.go 1 [(26, .pointer (some p19))] ?_
      refine OJ.ld (d := 27) (y := .tmp 26) (pend2 := fun x20 => []) Ty3 (fun _ => rfl) (fun x20 => ?_)
      refine OJ.go 3 [(30, .bool (decide (x20 ≤ a2))), (29, .bool (decide (x20 ≤ a2))), (28, .int .i64 a2)] ?_
      exact OJ.nil ⟨(Cov.mem Cov.nil), rfl, _, rfl, by kernel_rfl⟩
    · refine OJ.go 8 [(30, .bool false), (29, undef), (28, undef), (27, undef), (26, undef), (25, undef), (24, undef), (23, undef)] ?_
      exact OJ.nil ⟨(Cov.mem Cov.nil), rfl, _, rfl, by kernel_rfl⟩
    · refine OJ.nil ?_
      refine SJ.cond (t := (.tmp 30)) (b := y21) Iff.rfl (fun hc30 => ?_) (fun hc30 => ?_)
      · refine SJ.sr 6 ?_
        refine OJ.go 2 [(32, .int .i64 s1), (31, Sl.v a0)] ?_
        refine OJ.idxS (d := 33) (T := 22) (y := .tmp 31) (j := .tmp 32) (E := 42) (cap := a0.cap) (k := .i64) (fun p26 => ?_)
        refine OJ.ld (d := 34) (y := .tmp 33) (pend2 := fun x27 => []) Ty42 (fun _ => rfl) (fun x27 => ?_)
        refine OJ.call (d := 35) (g := 14) (ats := #[42]) (args := [.tmp 34]) (owed := []) F14 (weirlaw4_plays_ok x27) (fun r28 => ?_)
        refine OW.nil ?_
        refine OJ.go 1 [(8, .bool r28)] ?_
        refine OJ.nil ?_
        refine SJ.sr 2 ?_
        refine OJ.go 2 [(37, .bool (!r28)), (36, .bool r28)] ?_
        refine OJ.nil ?_
        refine SJ.cond (t := (.tmp 37)) (b := (!r28)) (bnot_iff Iff.rfl) (fun hc29 => ?_) (fun hc29 => ?_)
        · refine SJ.sr 1 ?_
          refine OJ.go 1 [(6, .bool false)] ?_
          refine OJ.nil ?_
          exact SJ.ret rfl (Res.run (ys := [.bool false]) (.tmp (by kernel_rfl) .nil) rfl)
        · refine SJ.skip ?_
          refine SJ.inBlock ?_
          refine SJ.rg 3 ?_
          refine OJ.go 3 [(7, .int .i64 (IntKind.wrap .i64 (s1 + 1))), (14, .int .i64 (IntKind.wrap .i64 (s1 + 1))), (13, .int .i64 s1)] ?_
          refine OJ.nil ?_
          exact SJ.at_ [0, 1, 2, 7] rfl
      · refine SJ.skip ?_
        refine SJ.inBlock ?_
        refine SJ.rg 3 ?_
        refine OJ.go 3 [(7, .int .i64 (IntKind.wrap .i64 (s1 + 1))), (14, .int .i64 (IntKind.wrap .i64 (s1 + 1))), (13, .int .i64 s1)] ?_
        refine OJ.nil ?_
        exact SJ.at_ [0, 1, 2, 7] rfl
  · refine SJ.exit (id := 0) (by rfl) ?_
    refine SJ.sr 1 ?_
    refine OJ.go 1 [(6, .bool true)] ?_
    refine OJ.nil ?_
    exact SJ.ret rfl (Res.run (ys := [.bool true]) (.tmp (by kernel_rfl) .nil) rfl)
noncomputable def weirlaw4_upTo (a0 : Sl) (a1 : Int) (a2 : Int) : M Bool :=
  loopM (fun s_ : Int => weirlaw4_upTo.L1 a0 a1 a2 s_) 0
theorem weirlaw4_upTo_ok (a0 : Sl) (a1 : Int) (a2 : Int) : Ref Tryz.prog 8 [Sl.v a0, .int .i64 a1, .int .i64 a2] (weirlaw4_upTo a0 a1 a2) weirlaw4_upTo.out := by
  refine Ref.of (cd := weirlaw4_upTo.B) Tryz.func8 ?_
  show SJ weirlaw4_upTo.cx [.code weirlaw4_upTo.B] [(0, Sl.v a0), (1, .int .i64 a1), (2, .int .i64 a2)] [] (weirlaw4_upTo a0 a1 a2) weirlaw4_upTo.F0
  unfold weirlaw4_upTo
  refine SJ.sr 1 ?_
  refine OJ.go 1 [(6, .bool false)] ?_
  refine OJ.nil ?_
  refine SJ.seq ?_
  refine SJ.sr 1 ?_
  refine OJ.go 1 [(7, .int .i64 0)] ?_
  refine OJ.nil ?_
  refine SJ.block (id := 0) ?_
  exact SJ.loop (fun s_ : Int => [(0, Sl.v a0), (1, .int .i64 a1), (2, .int .i64 a2), (7, .int .i64 s_)]) (fun s_ : Int => []) [0, 1, 2, 7] rfl (fun _ _ => rfl) (fun s_ => weirlaw4_upTo.L1_ok a0 a1 a2 s_)

/-! ### weir/weirlaw4.AddrKnows: function 5 -/
noncomputable def weirlaw4_AddrKnows.B : Code := (Tryz.f5.body).getD .skip
noncomputable def weirlaw4_AddrKnows.cx : Fx := ⟨Tryz.prog, 5, Tryz.f5⟩
noncomputable def weirlaw4_AddrKnows.out (r_ : Bool) : Value := .bool r_
noncomputable def weirlaw4_AddrKnows.F0 (r_ : Bool) : Reach := .ret (weirlaw4_AddrKnows.out r_)
noncomputable def weirlaw4_AddrKnows (a0 : Sl) : M Bool :=
  weirlaw4_started >>= fun r1 =>
  (if r1 = true then
      weirlaw4_upTo a0 7 14 >>= fun r2 =>
      pure r2
    else
      pure false) >>= fun y3 =>
  pure y3
theorem weirlaw4_AddrKnows_ok (a0 : Sl) : Ref Tryz.prog 5 [Sl.v a0] (weirlaw4_AddrKnows a0) weirlaw4_AddrKnows.out := by
  refine Ref.of (cd := weirlaw4_AddrKnows.B) Tryz.func5 ?_
  show SJ weirlaw4_AddrKnows.cx [.code weirlaw4_AddrKnows.B] [(0, Sl.v a0)] [] (weirlaw4_AddrKnows a0) weirlaw4_AddrKnows.F0
  unfold weirlaw4_AddrKnows
  refine SJ.sr 1 ?_
  refine OJ.go 1 [(2, .bool false)] ?_
  refine OJ.nil ?_
  refine SJ.sr 6 ?_
  refine OJ.call (d := 3) (g := 7) (ats := #[]) (args := []) (owed := []) F7 (weirlaw4_started_ok ) (fun r1 => ?_)
  refine OW.nil ?_
  refine OJ.go 1 [(4, .bool r1)] ?_
  refine OJ.join (b := r1) [2, 3, 4] [5] [7] (fun y3 => [(7, .bool y3)]) [] [] (t := 4) Iff.rfl (fun hp_ => ?_) (fun hp_ => ?_) (fun _ _ _ _ _ _ h_ => h_) (fun y3 => ?_)
  · refine OJ.go 1 [(5, Sl.v a0)] ?_
    refine OJ.call (d := 6) (g := 8) (ats := #[22, 3, 3]) (args := [.tmp 5, .const (.int .i64 7), .const (.int .i64 14)]) (owed := []) F8 (weirlaw4_upTo_ok a0 7 14) (fun r2 => ?_)
    refine OW.nil ?_
    refine OJ.go 1 [(7, .bool r2)] ?_
    exact OJ.nil ⟨(Cov.mem Cov.nil), rfl, _, rfl, by kernel_rfl⟩
  · refine OJ.go 3 [(7, .bool false), (6, undef), (5, undef)] ?_
    exact OJ.nil ⟨(Cov.mem Cov.nil), rfl, _, rfl, by kernel_rfl⟩
  · refine OJ.go 1 [(2, .bool y3)] ?_
    refine OJ.nil ?_
    exact SJ.ret rfl (Res.run (ys := [.bool y3]) (.tmp (by kernel_rfl) .nil) rfl)
end Go.Proofs.YtddmmgcfanpmmaaGreatDoor.Lx
