/- Programs of the M-world for Go functions, each with the proof that the Go text does what it says. Printed by lxgen.py. -/
import Derived.Test.YtddmmgcfanpmmaaGreatDoorLxT
import Derived.Test.YtddmmgcfanpmmaaGreatDoorLxP0
import Derived.Test.YtddmmgcfanpmmaaGreatDoorLxP1
import Derived.Test.YtddmmgcfanpmmaaGreatDoorLxP2
import Derived.Test.YtddmmgcfanpmmaaGreatDoorLxP3
import Derived.Test.YtddmmgcfanpmmaaGreatDoorLxP4
set_option linter.unusedVariables false
set_option linter.unusedSimpArgs false
namespace Go.Proofs.YtddmmgcfanpmmaaGreatDoor.Lx
open Go Go.Proofs
/-! ### weir/addr.GroupMac: function 24 -/
noncomputable def addr_GroupMac.B : Code := (Tryz.f24.body).getD .skip
noncomputable def addr_GroupMac.cx : Fx := ⟨Tryz.prog, 24, Tryz.f24⟩
noncomputable def addr_GroupMac.out (r_ : ((Vec Int 6) × Int)) : Value := .tuple #[((cI .u8).arr 6).val r_.1, .int .i64 r_.2]
noncomputable def addr_GroupMac.F0 (r_ : ((Vec Int 6) × Int)) : Reach := .ret (addr_GroupMac.out r_)
noncomputable def addr_GroupMac (a0 : api_IP) : M ((Vec Int 6) × Int) :=
 slot 28 >>= fun b1 =>
 slot 40 >>= fun b2 =>
 slot 26 >>= fun b3 =>
 addr_Class a0 >>= fun r4 =>
 if r4 ≠ 3 then
  pure ((⟨[0, 0, 0, 0, 0, 0], rfl⟩ : (Vec Int 6)), 40)
 else
  if a0.V = 4 then
   pure ((⟨[1, 0, 94, band .u8 (Vec.g a0.A 1 0) 127, (Vec.g a0.A 2 0), (Vec.g a0.A 3 0)], rfl⟩ : (Vec Int 6)), 0)
  else
   pure ((⟨[51, 51, (Vec.g a0.A 12 0), (Vec.g a0.A 13 0), (Vec.g a0.A 14 0), (Vec.g a0.A 15 0)], rfl⟩ : (Vec Int 6)), 0)
theorem addr_GroupMac_ok (a0 : api_IP) : Ref Tryz.prog 24 [c_api_IP.val a0] (addr_GroupMac a0) addr_GroupMac.out := by
 refine Ref.of (cd := addr_GroupMac.B) Tryz.func24 ?_
 show SJ addr_GroupMac.cx [.code addr_GroupMac.B] [(0, c_api_IP.val a0)] [] (addr_GroupMac a0) addr_GroupMac.F0
 unfold addr_GroupMac
 refine SJ.sr 3 <| OJ.slotOf (d := 1) (op := (.box 28 (.tmp 0))) (cd := c_api_IP) (u := a0) (owed := []) (box_run (by kernel_rfl)) (fun b1 => ?_)
 refine OW.nil <| OJ.slotOf (d := 2) (op := (.alloc 40)) (cd := ((cI .u8).arr 6)) (u := (Vec.rep 6 0)) (owed := []) (alloc_run Ty40) (fun b2 => ?_)
 refine OW.nil <| OJ.go 1 [(3, .int .i64 0)] <| OJ.nil <| SJ.sr 4 <| OJ.go 1 [(5, .pointer (some (pt b1 1)))] <| OJ.kld (d := 6) (y := .tmp 5) (cd := ((cI .u8).arr 16)) (j := 1) (b := b1) (o := 1) a0.A (pend2 := []) Ty26 rfl (At_api_IP_A a0) rfl ?_
 refine OJ.slotOf (d := 4) (op := (.alloc 26)) (cd := ((cI .u8).arr 16)) (u := (Vec.rep 16 0)) (owed := []) (alloc_run Ty26) (fun b3 => ?_)
 refine OW.nil <| OJ.kst (y := .tmp 4) (z := .tmp 6) (cd := ((cI .u8).arr 16)) (u := a0.A) (j := 0) (b := b3) (o := 0) (((cI .u8).arr 16).enc a0.A) (owed := []) Ty26 rfl (Upd.whole ((Cod.len _ _).trans (Cod.len _ _).symm)) rfl ?_
 refine OW.nil <| OJ.nil <| SJ.seq <| SJ.block (id := 0) <| SJ.sr 4 <| OJ.kld (d := 8) (y := .tmp 1) (cd := c_api_IP) (j := 2) (b := b1) (o := 0) a0 (pend2 := []) Ty28 rfl (At.whole _) rfl ?_
 refine OJ.call (d := 9) (g := 12) (ats := #[28]) (args := [.tmp 8]) (owed := []) F12 (addr_Class_ok a0) (fun r4 => ?_)
 refine OW.nil <| OJ.go 2 [(7, .bool (r4 != 3)), (10, .bool (r4 != 3))] <| OJ.nil <| SJ.cond (t := (.tmp 7)) (b := (r4 != 3)) bne_iff_ne (fun hc7 => ?_) (fun hc7 => ?_)
 ·refine SJ.sr 3 <| OJ.build (d := 11) (T := 40) (parts := []) (ps := []) (cd := ((cI .u8).arr 6)) (z0 := (Vec.rep 6 0)) (⟨[0, 0, 0, 0, 0, 0], rfl⟩ : (Vec Int 6)) Ty40 rfl Filled.nil ?_
  refine OJ.kst (y := .tmp 2) (z := .tmp 11) (cd := ((cI .u8).arr 6)) (u := (⟨[0, 0, 0, 0, 0, 0], rfl⟩ : (Vec Int 6))) (j := 1) (b := b2) (o := 0) (((cI .u8).arr 6).enc (⟨[0, 0, 0, 0, 0, 0], rfl⟩ : (Vec Int 6))) (owed := []) Ty40 rfl (Upd.whole ((Cod.len _ _).trans (Cod.len _ _).symm)) rfl ?_
  exact OW.nil <| OJ.go 1 [(3, .int .i64 40)] <| OJ.nil <| SJ.ret rfl (Res.run (ys := [((cI .u8).arr 6).val (⟨[0, 0, 0, 0, 0, 0], rfl⟩ : (Vec Int 6)), .int .i64 40]) (.cell (j := 1) (b := b2) (cd := ((cI .u8).arr 6)) (q := (⟨[0, 0, 0, 0, 0, 0], rfl⟩ : (Vec Int 6))) (by kernel_rfl) rfl Ty40 (At.whole _) (.tmp (by kernel_rfl) .nil)) rfl)
 ·refine SJ.sr 4 <| OJ.go 1 [(13, .pointer (some (pt b1 0)))] <| OJ.kld (d := 14) (y := .tmp 13) (cd := (cI .i64)) (j := 2) (b := b1) (o := 0) a0.V (pend2 := []) Ty3 rfl (At_api_IP_V a0) rfl ?_
  refine OJ.go 2 [(12, .bool (a0.V == 4)), (15, .bool (a0.V == 4))] <| OJ.nil <| SJ.cond (t := (.tmp 12)) (b := (a0.V == 4)) beq_iff_eq (fun hc6 => ?_) (fun hc6 => ?_)
  ·refine SJ.sr 10 <| OJ.go 1 [(16, .pointer (some (pt b3 1)))] <| OJ.kld (d := 17) (y := .tmp 16) (cd := (cI .u8)) (j := 0) (b := b3) (o := 1) (Vec.g a0.A 1 0) (pend2 := []) Ty5 rfl (At.zero (At.arr (z := 0) (by decide) (by decide))) rfl ?_
   refine OJ.go 2 [(19, .pointer (some (pt b3 2))), (18, .int .u8 (band .u8 (Vec.g a0.A 1 0) 127))] <| OJ.kld (d := 20) (y := .tmp 19) (cd := (cI .u8)) (j := 0) (b := b3) (o := 2) (Vec.g a0.A 2 0) (pend2 := []) Ty5 rfl (At.zero (At.arr (z := 0) (by decide) (by decide))) rfl ?_
   refine OJ.go 1 [(21, .pointer (some (pt b3 3)))] <| OJ.kld (d := 22) (y := .tmp 21) (cd := (cI .u8)) (j := 0) (b := b3) (o := 3) (Vec.g a0.A 3 0) (pend2 := []) Ty5 rfl (At.zero (At.arr (z := 0) (by decide) (by decide))) rfl ?_
   refine OJ.build (d := 23) (T := 40) (parts := [(0, .const (.int .u8 1)), (1, .const (.int .u8 0)), (2, .const (.int .u8 94)), (3, .tmp 18), (4, .tmp 20), (5, .tmp 22)]) (ps := [(0, (cI .u8).val 1), (1, (cI .u8).val 0), (2, (cI .u8).val 94), (3, (cI .u8).val (band .u8 (Vec.g a0.A 1 0) 127)), (4, (cI .u8).val (Vec.g a0.A 2 0)), (5, (cI .u8).val (Vec.g a0.A 3 0))]) (cd := ((cI .u8).arr 6)) (z0 := (Vec.rep 6 0)) (⟨[1, 0, 94, band .u8 (Vec.g a0.A 1 0) 127, (Vec.g a0.A 2 0), (Vec.g a0.A 3 0)], rfl⟩ : (Vec Int 6)) Ty40 rfl (Filled.cons (cd := (cI .u8)) (q := 1) (o := 0) (by kernel_rfl) (Upd.arr (i := 0) (by decide) (by decide)) (Filled.cons (cd := (cI .u8)) (q := 0) (o := 1) (by kernel_rfl) (Upd.arr (i := 1) (by decide) (by decide)) (Filled.cons (cd := (cI .u8)) (q := 94) (o := 2) (by kernel_rfl) (Upd.arr (i := 2) (by decide) (by decide)) (Filled.cons (cd := (cI .u8)) (q := (band .u8 (Vec.g a0.A 1 0) 127)) (o := 3) (by kernel_rfl) (Upd.arr (i := 3) (by decide) (by decide)) (Filled.cons (cd := (cI .u8)) (q := (Vec.g a0.A 2 0)) (o := 4) (by kernel_rfl) (Upd.arr (i := 4) (by decide) (by decide)) (Filled.cons (cd := (cI .u8)) (q := (Vec.g a0.A 3 0)) (o := 5) (by kernel_rfl) (Upd.arr (i := 5) (by decide) (by decide)) Filled.nil)))))) ?_
   refine OJ.kst (y := .tmp 2) (z := .tmp 23) (cd := ((cI .u8).arr 6)) (u := (⟨[1, 0, 94, band .u8 (Vec.g a0.A 1 0) 127, (Vec.g a0.A 2 0), (Vec.g a0.A 3 0)], rfl⟩ : (Vec Int 6))) (j := 1) (b := b2) (o := 0) (((cI .u8).arr 6).enc (⟨[1, 0, 94, band .u8 (Vec.g a0.A 1 0) 127, (Vec.g a0.A 2 0), (Vec.g a0.A 3 0)], rfl⟩ : (Vec Int 6))) (owed := []) Ty40 rfl (Upd.whole ((Cod.len _ _).trans (Cod.len _ _).symm)) rfl ?_
   exact OW.nil <| OJ.go 1 [(3, .int .i64 0)] <| OJ.nil <| SJ.ret rfl (Res.run (ys := [((cI .u8).arr 6).val (⟨[1, 0, 94, band .u8 (Vec.g a0.A 1 0) 127, (Vec.g a0.A 2 0), (Vec.g a0.A 3 0)], rfl⟩ : (Vec Int 6)), .int .i64 0]) (.cell (j := 1) (b := b2) (cd := ((cI .u8).arr 6)) (q := (⟨[1, 0, 94, band .u8 (Vec.g a0.A 1 0) 127, (Vec.g a0.A 2 0), (Vec.g a0.A 3 0)], rfl⟩ : (Vec Int 6))) (by kernel_rfl) rfl Ty40 (At.whole _) (.tmp (by kernel_rfl) .nil)) rfl)
  ·refine SJ.skip <| SJ.inBlock <| SJ.sr 11 <| OJ.go 1 [(24, .pointer (some (pt b3 12)))] <| OJ.kld (d := 25) (y := .tmp 24) (cd := (cI .u8)) (j := 0) (b := b3) (o := 12) (Vec.g a0.A 12 0) (pend2 := []) Ty5 rfl (At.zero (At.arr (z := 0) (by decide) (by decide))) rfl ?_
   refine OJ.go 1 [(26, .pointer (some (pt b3 13)))] <| OJ.kld (d := 27) (y := .tmp 26) (cd := (cI .u8)) (j := 0) (b := b3) (o := 13) (Vec.g a0.A 13 0) (pend2 := []) Ty5 rfl (At.zero (At.arr (z := 0) (by decide) (by decide))) rfl ?_
   refine OJ.go 1 [(28, .pointer (some (pt b3 14)))] <| OJ.kld (d := 29) (y := .tmp 28) (cd := (cI .u8)) (j := 0) (b := b3) (o := 14) (Vec.g a0.A 14 0) (pend2 := []) Ty5 rfl (At.zero (At.arr (z := 0) (by decide) (by decide))) rfl ?_
   refine OJ.go 1 [(30, .pointer (some (pt b3 15)))] <| OJ.kld (d := 31) (y := .tmp 30) (cd := (cI .u8)) (j := 0) (b := b3) (o := 15) (Vec.g a0.A 15 0) (pend2 := []) Ty5 rfl (At.zero (At.arr (z := 0) (by decide) (by decide))) rfl ?_
   refine OJ.build (d := 32) (T := 40) (parts := [(0, .const (.int .u8 51)), (1, .const (.int .u8 51)), (2, .tmp 25), (3, .tmp 27), (4, .tmp 29), (5, .tmp 31)]) (ps := [(0, (cI .u8).val 51), (1, (cI .u8).val 51), (2, (cI .u8).val (Vec.g a0.A 12 0)), (3, (cI .u8).val (Vec.g a0.A 13 0)), (4, (cI .u8).val (Vec.g a0.A 14 0)), (5, (cI .u8).val (Vec.g a0.A 15 0))]) (cd := ((cI .u8).arr 6)) (z0 := (Vec.rep 6 0)) (⟨[51, 51, (Vec.g a0.A 12 0), (Vec.g a0.A 13 0), (Vec.g a0.A 14 0), (Vec.g a0.A 15 0)], rfl⟩ : (Vec Int 6)) Ty40 rfl (Filled.cons (cd := (cI .u8)) (q := 51) (o := 0) (by kernel_rfl) (Upd.arr (i := 0) (by decide) (by decide)) (Filled.cons (cd := (cI .u8)) (q := 51) (o := 1) (by kernel_rfl) (Upd.arr (i := 1) (by decide) (by decide)) (Filled.cons (cd := (cI .u8)) (q := (Vec.g a0.A 12 0)) (o := 2) (by kernel_rfl) (Upd.arr (i := 2) (by decide) (by decide)) (Filled.cons (cd := (cI .u8)) (q := (Vec.g a0.A 13 0)) (o := 3) (by kernel_rfl) (Upd.arr (i := 3) (by decide) (by decide)) (Filled.cons (cd := (cI .u8)) (q := (Vec.g a0.A 14 0)) (o := 4) (by kernel_rfl) (Upd.arr (i := 4) (by decide) (by decide)) (Filled.cons (cd := (cI .u8)) (q := (Vec.g a0.A 15 0)) (o := 5) (by kernel_rfl) (Upd.arr (i := 5) (by decide) (by decide)) Filled.nil)))))) ?_
   refine OJ.kst (y := .tmp 2) (z := .tmp 32) (cd := ((cI .u8).arr 6)) (u := (⟨[51, 51, (Vec.g a0.A 12 0), (Vec.g a0.A 13 0), (Vec.g a0.A 14 0), (Vec.g a0.A 15 0)], rfl⟩ : (Vec Int 6))) (j := 1) (b := b2) (o := 0) (((cI .u8).arr 6).enc (⟨[51, 51, (Vec.g a0.A 12 0), (Vec.g a0.A 13 0), (Vec.g a0.A 14 0), (Vec.g a0.A 15 0)], rfl⟩ : (Vec Int 6))) (owed := []) Ty40 rfl (Upd.whole ((Cod.len _ _).trans (Cod.len _ _).symm)) rfl ?_
   exact OW.nil <| OJ.go 1 [(3, .int .i64 0)] <| OJ.nil <| SJ.ret rfl (Res.run (ys := [((cI .u8).arr 6).val (⟨[51, 51, (Vec.g a0.A 12 0), (Vec.g a0.A 13 0), (Vec.g a0.A 14 0), (Vec.g a0.A 15 0)], rfl⟩ : (Vec Int 6)), .int .i64 0]) (.cell (j := 1) (b := b2) (cd := ((cI .u8).arr 6)) (q := (⟨[51, 51, (Vec.g a0.A 12 0), (Vec.g a0.A 13 0), (Vec.g a0.A 14 0), (Vec.g a0.A 15 0)], rfl⟩ : (Vec Int 6))) (by kernel_rfl) rfl Ty40 (At.whole _) (.tmp (by kernel_rfl) .nil)) rfl)

/-! ### weir/weirref4.GroupMac: function 25 -/
noncomputable def r4_GroupMac.B : Code := (Tryz.f25.body).getD .skip
noncomputable def r4_GroupMac.cx : Fx := ⟨Tryz.prog, 25, Tryz.f25⟩
noncomputable def r4_GroupMac.out (r_ : ((Vec Int 6) × Int)) : Value := .tuple #[((cI .u8).arr 6).val r_.1, .int .i64 r_.2]
noncomputable def r4_GroupMac.F0 (r_ : ((Vec Int 6) × Int)) : Reach := .ret (r4_GroupMac.out r_)
noncomputable def r4_GroupMac (a0 : api_IP) : M ((Vec Int 6) × Int) :=
 slot 28 >>= fun b1 =>
 slot 40 >>= fun b2 =>
 r4_Class a0 >>= fun r3 =>
 if r3 ≠ 3 then
  pure ((⟨[0, 0, 0, 0, 0, 0], rfl⟩ : (Vec Int 6)), 40)
 else
  if a0.V = 4 then
   pure ((⟨[1, 0, 94, Int.tmod (Vec.g a0.A 1 0) 128, (Vec.g a0.A 2 0), (Vec.g a0.A 3 0)], rfl⟩ : (Vec Int 6)), 0)
  else
   pure ((⟨[51, 51, (Vec.g a0.A 12 0), (Vec.g a0.A 13 0), (Vec.g a0.A 14 0), (Vec.g a0.A 15 0)], rfl⟩ : (Vec Int 6)), 0)
theorem r4_GroupMac_ok (a0 : api_IP) : Ref Tryz.prog 25 [c_api_IP.val a0] (r4_GroupMac a0) r4_GroupMac.out := by
 refine Ref.of (cd := r4_GroupMac.B) Tryz.func25 ?_
 show SJ r4_GroupMac.cx [.code r4_GroupMac.B] [(0, c_api_IP.val a0)] [] (r4_GroupMac a0) r4_GroupMac.F0
 unfold r4_GroupMac
 refine SJ.sr 3 <| OJ.slotOf (d := 1) (op := (.box 28 (.tmp 0))) (cd := c_api_IP) (u := a0) (owed := []) (box_run (by kernel_rfl)) (fun b1 => ?_)
 refine OW.nil <| OJ.slotOf (d := 2) (op := (.alloc 40)) (cd := ((cI .u8).arr 6)) (u := (Vec.rep 6 0)) (owed := []) (alloc_run Ty40) (fun b2 => ?_)
 refine OW.nil <| OJ.go 1 [(3, .int .i64 0)] <| OJ.nil <| SJ.sr 3 <| OJ.kld (d := 5) (y := .tmp 1) (cd := c_api_IP) (j := 1) (b := b1) (o := 0) a0 (pend2 := []) Ty28 rfl (At.whole _) rfl ?_
 refine OJ.call (d := 6) (g := 53) (ats := #[28]) (args := [.tmp 5]) (owed := []) F53 (r4_Class_ok a0) (fun r3 => ?_)
 refine OW.nil <| OJ.go 1 [(4, .int .i64 r3)] <| OJ.nil <| SJ.seq <| SJ.sr 2 <| OJ.go 2 [(8, .bool (r3 != 3)), (7, .int .i64 r3)] <| OJ.nil <| SJ.cond (t := (.tmp 8)) (b := (r3 != 3)) bne_iff_ne (fun hc5 => ?_) (fun hc5 => ?_)
 ·refine SJ.sr 3 <| OJ.build (d := 9) (T := 40) (parts := []) (ps := []) (cd := ((cI .u8).arr 6)) (z0 := (Vec.rep 6 0)) (⟨[0, 0, 0, 0, 0, 0], rfl⟩ : (Vec Int 6)) Ty40 rfl Filled.nil ?_
  refine OJ.kst (y := .tmp 2) (z := .tmp 9) (cd := ((cI .u8).arr 6)) (u := (⟨[0, 0, 0, 0, 0, 0], rfl⟩ : (Vec Int 6))) (j := 0) (b := b2) (o := 0) (((cI .u8).arr 6).enc (⟨[0, 0, 0, 0, 0, 0], rfl⟩ : (Vec Int 6))) (owed := []) Ty40 rfl (Upd.whole ((Cod.len _ _).trans (Cod.len _ _).symm)) rfl ?_
  exact OW.nil <| OJ.go 1 [(3, .int .i64 40)] <| OJ.nil <| SJ.ret rfl (Res.run (ys := [((cI .u8).arr 6).val (⟨[0, 0, 0, 0, 0, 0], rfl⟩ : (Vec Int 6)), .int .i64 40]) (.cell (j := 0) (b := b2) (cd := ((cI .u8).arr 6)) (q := (⟨[0, 0, 0, 0, 0, 0], rfl⟩ : (Vec Int 6))) (by kernel_rfl) rfl Ty40 (At.whole _) (.tmp (by kernel_rfl) .nil)) rfl)
 ·refine SJ.skip <| SJ.seq <| SJ.sr 3 <| OJ.go 1 [(10, .pointer (some (pt b1 0)))] <| OJ.kld (d := 11) (y := .tmp 10) (cd := (cI .i64)) (j := 1) (b := b1) (o := 0) a0.V (pend2 := []) Ty3 rfl (At_api_IP_V a0) rfl ?_
  refine OJ.go 1 [(12, .bool (a0.V == 4))] <| OJ.nil <| SJ.cond (t := (.tmp 12)) (b := (a0.V == 4)) beq_iff_eq (fun hc4 => ?_) (fun hc4 => ?_)
  ·refine SJ.sr 13 <| OJ.go 2 [(14, .pointer (some (pt b1 2))), (13, .pointer (some (pt b1 1)))] <| OJ.kld (d := 15) (y := .tmp 14) (cd := (cI .u8)) (j := 1) (b := b1) (o := 2) (Vec.g a0.A 1 0) (pend2 := []) Ty5 rfl (At.trans (At_api_IP_A a0) (At.arr (z := 0) (by decide) (by decide))) rfl ?_
   refine OJ.go 3 [(18, .pointer (some (pt b1 3))), (17, .pointer (some (pt b1 1))), (16, .int .u8 (Int.tmod (Vec.g a0.A 1 0) 128))] <| OJ.kld (d := 19) (y := .tmp 18) (cd := (cI .u8)) (j := 1) (b := b1) (o := 3) (Vec.g a0.A 2 0) (pend2 := []) Ty5 rfl (At.trans (At_api_IP_A a0) (At.arr (z := 0) (by decide) (by decide))) rfl ?_
   refine OJ.go 2 [(21, .pointer (some (pt b1 4))), (20, .pointer (some (pt b1 1)))] <| OJ.kld (d := 22) (y := .tmp 21) (cd := (cI .u8)) (j := 1) (b := b1) (o := 4) (Vec.g a0.A 3 0) (pend2 := []) Ty5 rfl (At.trans (At_api_IP_A a0) (At.arr (z := 0) (by decide) (by decide))) rfl ?_
   refine OJ.build (d := 23) (T := 40) (parts := [(0, .const (.int .u8 1)), (1, .const (.int .u8 0)), (2, .const (.int .u8 94)), (3, .tmp 16), (4, .tmp 19), (5, .tmp 22)]) (ps := [(0, (cI .u8).val 1), (1, (cI .u8).val 0), (2, (cI .u8).val 94), (3, (cI .u8).val (Int.tmod (Vec.g a0.A 1 0) 128)), (4, (cI .u8).val (Vec.g a0.A 2 0)), (5, (cI .u8).val (Vec.g a0.A 3 0))]) (cd := ((cI .u8).arr 6)) (z0 := (Vec.rep 6 0)) (⟨[1, 0, 94, Int.tmod (Vec.g a0.A 1 0) 128, (Vec.g a0.A 2 0), (Vec.g a0.A 3 0)], rfl⟩ : (Vec Int 6)) Ty40 rfl (Filled.cons (cd := (cI .u8)) (q := 1) (o := 0) (by kernel_rfl) (Upd.arr (i := 0) (by decide) (by decide)) (Filled.cons (cd := (cI .u8)) (q := 0) (o := 1) (by kernel_rfl) (Upd.arr (i := 1) (by decide) (by decide)) (Filled.cons (cd := (cI .u8)) (q := 94) (o := 2) (by kernel_rfl) (Upd.arr (i := 2) (by decide) (by decide)) (Filled.cons (cd := (cI .u8)) (q := (Int.tmod (Vec.g a0.A 1 0) 128)) (o := 3) (by kernel_rfl) (Upd.arr (i := 3) (by decide) (by decide)) (Filled.cons (cd := (cI .u8)) (q := (Vec.g a0.A 2 0)) (o := 4) (by kernel_rfl) (Upd.arr (i := 4) (by decide) (by decide)) (Filled.cons (cd := (cI .u8)) (q := (Vec.g a0.A 3 0)) (o := 5) (by kernel_rfl) (Upd.arr (i := 5) (by decide) (by decide)) Filled.nil)))))) ?_
   refine OJ.kst (y := .tmp 2) (z := .tmp 23) (cd := ((cI .u8).arr 6)) (u := (⟨[1, 0, 94, Int.tmod (Vec.g a0.A 1 0) 128, (Vec.g a0.A 2 0), (Vec.g a0.A 3 0)], rfl⟩ : (Vec Int 6))) (j := 0) (b := b2) (o := 0) (((cI .u8).arr 6).enc (⟨[1, 0, 94, Int.tmod (Vec.g a0.A 1 0) 128, (Vec.g a0.A 2 0), (Vec.g a0.A 3 0)], rfl⟩ : (Vec Int 6))) (owed := []) Ty40 rfl (Upd.whole ((Cod.len _ _).trans (Cod.len _ _).symm)) rfl ?_
   exact OW.nil <| OJ.go 1 [(3, .int .i64 0)] <| OJ.nil <| SJ.ret rfl (Res.run (ys := [((cI .u8).arr 6).val (⟨[1, 0, 94, Int.tmod (Vec.g a0.A 1 0) 128, (Vec.g a0.A 2 0), (Vec.g a0.A 3 0)], rfl⟩ : (Vec Int 6)), .int .i64 0]) (.cell (j := 0) (b := b2) (cd := ((cI .u8).arr 6)) (q := (⟨[1, 0, 94, Int.tmod (Vec.g a0.A 1 0) 128, (Vec.g a0.A 2 0), (Vec.g a0.A 3 0)], rfl⟩ : (Vec Int 6))) (by kernel_rfl) rfl Ty40 (At.whole _) (.tmp (by kernel_rfl) .nil)) rfl)
  ·refine SJ.skip <| SJ.sr 15 <| OJ.go 2 [(25, .pointer (some (pt b1 13))), (24, .pointer (some (pt b1 1)))] <| OJ.kld (d := 26) (y := .tmp 25) (cd := (cI .u8)) (j := 1) (b := b1) (o := 13) (Vec.g a0.A 12 0) (pend2 := []) Ty5 rfl (At.trans (At_api_IP_A a0) (At.arr (z := 0) (by decide) (by decide))) rfl ?_
   refine OJ.go 2 [(28, .pointer (some (pt b1 14))), (27, .pointer (some (pt b1 1)))] <| OJ.kld (d := 29) (y := .tmp 28) (cd := (cI .u8)) (j := 1) (b := b1) (o := 14) (Vec.g a0.A 13 0) (pend2 := []) Ty5 rfl (At.trans (At_api_IP_A a0) (At.arr (z := 0) (by decide) (by decide))) rfl ?_
   refine OJ.go 2 [(31, .pointer (some (pt b1 15))), (30, .pointer (some (pt b1 1)))] <| OJ.kld (d := 32) (y := .tmp 31) (cd := (cI .u8)) (j := 1) (b := b1) (o := 15) (Vec.g a0.A 14 0) (pend2 := []) Ty5 rfl (At.trans (At_api_IP_A a0) (At.arr (z := 0) (by decide) (by decide))) rfl ?_
   refine OJ.go 2 [(34, .pointer (some (pt b1 16))), (33, .pointer (some (pt b1 1)))] <| OJ.kld (d := 35) (y := .tmp 34) (cd := (cI .u8)) (j := 1) (b := b1) (o := 16) (Vec.g a0.A 15 0) (pend2 := []) Ty5 rfl (At.trans (At_api_IP_A a0) (At.arr (z := 0) (by decide) (by decide))) rfl ?_
   refine OJ.build (d := 36) (T := 40) (parts := [(0, .const (.int .u8 51)), (1, .const (.int .u8 51)), (2, .tmp 26), (3, .tmp 29), (4, .tmp 32), (5, .tmp 35)]) (ps := [(0, (cI .u8).val 51), (1, (cI .u8).val 51), (2, (cI .u8).val (Vec.g a0.A 12 0)), (3, (cI .u8).val (Vec.g a0.A 13 0)), (4, (cI .u8).val (Vec.g a0.A 14 0)), (5, (cI .u8).val (Vec.g a0.A 15 0))]) (cd := ((cI .u8).arr 6)) (z0 := (Vec.rep 6 0)) (⟨[51, 51, (Vec.g a0.A 12 0), (Vec.g a0.A 13 0), (Vec.g a0.A 14 0), (Vec.g a0.A 15 0)], rfl⟩ : (Vec Int 6)) Ty40 rfl (Filled.cons (cd := (cI .u8)) (q := 51) (o := 0) (by kernel_rfl) (Upd.arr (i := 0) (by decide) (by decide)) (Filled.cons (cd := (cI .u8)) (q := 51) (o := 1) (by kernel_rfl) (Upd.arr (i := 1) (by decide) (by decide)) (Filled.cons (cd := (cI .u8)) (q := (Vec.g a0.A 12 0)) (o := 2) (by kernel_rfl) (Upd.arr (i := 2) (by decide) (by decide)) (Filled.cons (cd := (cI .u8)) (q := (Vec.g a0.A 13 0)) (o := 3) (by kernel_rfl) (Upd.arr (i := 3) (by decide) (by decide)) (Filled.cons (cd := (cI .u8)) (q := (Vec.g a0.A 14 0)) (o := 4) (by kernel_rfl) (Upd.arr (i := 4) (by decide) (by decide)) (Filled.cons (cd := (cI .u8)) (q := (Vec.g a0.A 15 0)) (o := 5) (by kernel_rfl) (Upd.arr (i := 5) (by decide) (by decide)) Filled.nil)))))) ?_
   refine OJ.kst (y := .tmp 2) (z := .tmp 36) (cd := ((cI .u8).arr 6)) (u := (⟨[51, 51, (Vec.g a0.A 12 0), (Vec.g a0.A 13 0), (Vec.g a0.A 14 0), (Vec.g a0.A 15 0)], rfl⟩ : (Vec Int 6))) (j := 0) (b := b2) (o := 0) (((cI .u8).arr 6).enc (⟨[51, 51, (Vec.g a0.A 12 0), (Vec.g a0.A 13 0), (Vec.g a0.A 14 0), (Vec.g a0.A 15 0)], rfl⟩ : (Vec Int 6))) (owed := []) Ty40 rfl (Upd.whole ((Cod.len _ _).trans (Cod.len _ _).symm)) rfl ?_
   exact OW.nil <| OJ.go 1 [(3, .int .i64 0)] <| OJ.nil <| SJ.ret rfl (Res.run (ys := [((cI .u8).arr 6).val (⟨[51, 51, (Vec.g a0.A 12 0), (Vec.g a0.A 13 0), (Vec.g a0.A 14 0), (Vec.g a0.A 15 0)], rfl⟩ : (Vec Int 6)), .int .i64 0]) (.cell (j := 0) (b := b2) (cd := ((cI .u8).arr 6)) (q := (⟨[51, 51, (Vec.g a0.A 12 0), (Vec.g a0.A 13 0), (Vec.g a0.A 14 0), (Vec.g a0.A 15 0)], rfl⟩ : (Vec Int 6))) (by kernel_rfl) rfl Ty40 (At.whole _) (.tmp (by kernel_rfl) .nil)) rfl)

/-! ### weir/addr.Solicited: function 26 -/
noncomputable def addr_Solicited.B : Code := (Tryz.f26.body).getD .skip
noncomputable def addr_Solicited.cx : Fx := ⟨Tryz.prog, 26, Tryz.f26⟩
noncomputable def addr_Solicited.out (r_ : (api_IP × Int)) : Value := .tuple #[c_api_IP.val r_.1, .int .i64 r_.2]
noncomputable def addr_Solicited.F0 (r_ : (api_IP × Int)) : Reach := .ret (addr_Solicited.out r_)
noncomputable def addr_Solicited (a0 : api_IP) : M (api_IP × Int) :=
 slot 28 >>= fun b1 =>
 slot 28 >>= fun b2 =>
 addr_Class a0 >>= fun r3 =>
 (if a0.V ≠ 6 then
   pure true
  else
   pure (r3 == 1)) >>= fun y4 =>
 (if y4 = true then
   pure true
  else
   pure (r3 == 3)) >>= fun y5 =>
 if y5 = true then
  pure (z_api_IP, 40)
 else
  pure ((⟨6, (⟨[255, 2, 0, 0, 0, 0, 0, 0, 0, 0, 0, 1, 255, (Vec.g a0.A 13 0), (Vec.g a0.A 14 0), (Vec.g a0.A 15 0)], rfl⟩ : (Vec Int 16))⟩ : api_IP), 0)
theorem addr_Solicited_ok (a0 : api_IP) : Ref Tryz.prog 26 [c_api_IP.val a0] (addr_Solicited a0) addr_Solicited.out := by
 refine Ref.of (cd := addr_Solicited.B) Tryz.func26 ?_
 show SJ addr_Solicited.cx [.code addr_Solicited.B] [(0, c_api_IP.val a0)] [] (addr_Solicited a0) addr_Solicited.F0
 unfold addr_Solicited
 refine SJ.sr 3 <| OJ.slotOf (d := 1) (op := (.box 28 (.tmp 0))) (cd := c_api_IP) (u := a0) (owed := []) (box_run (by kernel_rfl)) (fun b1 => ?_)
 refine OW.nil <| OJ.slotOf (d := 2) (op := (.alloc 28)) (cd := c_api_IP) (u := z_api_IP) (owed := []) (alloc_run Ty28) (fun b2 => ?_)
 refine OW.nil <| OJ.go 1 [(3, .int .i64 0)] <| OJ.nil <| SJ.seq <| SJ.sr 3 <| OJ.kld (d := 5) (y := .tmp 1) (cd := c_api_IP) (j := 1) (b := b1) (o := 0) a0 (pend2 := []) Ty28 rfl (At.whole _) rfl ?_
 refine OJ.call (d := 6) (g := 12) (ats := #[28]) (args := [.tmp 5]) (owed := []) F12 (addr_Class_ok a0) (fun r3 => ?_)
 refine OW.nil <| OJ.go 1 [(4, .int .i64 r3)] <| OJ.nil <| SJ.sr 11 <| OJ.go 1 [(7, .pointer (some (pt b1 0)))] <| OJ.kld (d := 8) (y := .tmp 7) (cd := (cI .i64)) (j := 1) (b := b1) (o := 0) a0.V (pend2 := []) Ty3 rfl (At_api_IP_V a0) rfl ?_
 refine OJ.go 2 [(10, .bool (a0.V != 6)), (9, .bool (a0.V != 6))] <| OJ.join (b := (a0.V != 6)) [4, 5, 6] [7, 8, 9, 10] [1, 2, 4, 13] (fun y4 => [(1, .pointer (some (pt b1 0))), (2, .pointer (some (pt b2 0))), (4, .int .i64 r3), (13, .bool y4)]) [] [] (t := 10) bne_iff_ne (fun hp_ => ?_) (fun hp_ => ?_) (fun _ _ _ _ _ _ h_ => h_) (fun y4 => ?_)
 ·exact OJ.go 3 [(13, .bool true), (12, undef), (11, undef)] <| OJ.x0
 ·exact OJ.go 3 [(13, .bool (r3 == 1)), (12, .bool (r3 == 1)), (11, .int .i64 r3)] <| OJ.x0
 ·refine OJ.go 1 [(14, .bool y4)] <| OJ.join (b := y4) [8, 9, 10] [] [1, 2, 17] (fun y5 => [(1, .pointer (some (pt b1 0))), (2, .pointer (some (pt b2 0))), (17, .bool y5)]) [] [] (t := 14) Iff.rfl (fun hp_ => ?_) (fun hp_ => ?_) (fun _ _ _ _ _ _ h_ => h_) (fun y5 => ?_)
  ·exact OJ.go 3 [(17, .bool true), (16, undef), (15, undef)] <| OJ.x0
  ·exact OJ.go 3 [(17, .bool (r3 == 3)), (16, .bool (r3 == 3)), (15, .int .i64 r3)] <| OJ.x0
  ·refine OJ.nil <| SJ.cond (t := (.tmp 17)) (b := y5) Iff.rfl (fun hc6 => ?_) (fun hc6 => ?_)
   ·refine SJ.sr 3 <| OJ.build (d := 18) (T := 28) (parts := []) (ps := []) (cd := c_api_IP) (z0 := z_api_IP) z_api_IP Ty28 rfl Filled.nil ?_
    refine OJ.kst (y := .tmp 2) (z := .tmp 18) (cd := c_api_IP) (u := z_api_IP) (j := 0) (b := b2) (o := 0) (c_api_IP.enc z_api_IP) (owed := []) Ty28 rfl (Upd.whole ((Cod.len _ _).trans (Cod.len _ _).symm)) rfl ?_
    exact OW.nil <| OJ.go 1 [(3, .int .i64 40)] <| OJ.nil <| SJ.ret rfl (Res.run (ys := [c_api_IP.val z_api_IP, .int .i64 40]) (.cell (j := 0) (b := b2) (cd := c_api_IP) (q := z_api_IP) (by kernel_rfl) rfl Ty28 (At.whole _) (.tmp (by kernel_rfl) .nil)) rfl)
   ·refine SJ.skip <| SJ.sr 13 <| OJ.go 2 [(20, .pointer (some (pt b1 14))), (19, .pointer (some (pt b1 1)))] <| OJ.kld (d := 21) (y := .tmp 20) (cd := (cI .u8)) (j := 1) (b := b1) (o := 14) (Vec.g a0.A 13 0) (pend2 := []) Ty5 rfl (At.trans (At_api_IP_A a0) (At.arr (z := 0) (by decide) (by decide))) rfl ?_
    refine OJ.go 2 [(23, .pointer (some (pt b1 15))), (22, .pointer (some (pt b1 1)))] <| OJ.kld (d := 24) (y := .tmp 23) (cd := (cI .u8)) (j := 1) (b := b1) (o := 15) (Vec.g a0.A 14 0) (pend2 := []) Ty5 rfl (At.trans (At_api_IP_A a0) (At.arr (z := 0) (by decide) (by decide))) rfl ?_
    refine OJ.go 2 [(26, .pointer (some (pt b1 16))), (25, .pointer (some (pt b1 1)))] <| OJ.kld (d := 27) (y := .tmp 26) (cd := (cI .u8)) (j := 1) (b := b1) (o := 16) (Vec.g a0.A 15 0) (pend2 := []) Ty5 rfl (At.trans (At_api_IP_A a0) (At.arr (z := 0) (by decide) (by decide))) rfl ?_
    refine OJ.build (d := 28) (T := 26) (parts := [(0, .const (.int .u8 255)), (1, .const (.int .u8 2)), (11, .const (.int .u8 1)), (12, .const (.int .u8 255)), (13, .tmp 21), (14, .tmp 24), (15, .tmp 27)]) (ps := [(0, (cI .u8).val 255), (1, (cI .u8).val 2), (11, (cI .u8).val 1), (12, (cI .u8).val 255), (13, (cI .u8).val (Vec.g a0.A 13 0)), (14, (cI .u8).val (Vec.g a0.A 14 0)), (15, (cI .u8).val (Vec.g a0.A 15 0))]) (cd := ((cI .u8).arr 16)) (z0 := (Vec.rep 16 0)) (⟨[255, 2, 0, 0, 0, 0, 0, 0, 0, 0, 0, 1, 255, (Vec.g a0.A 13 0), (Vec.g a0.A 14 0), (Vec.g a0.A 15 0)], rfl⟩ : (Vec Int 16)) Ty26 rfl (Filled.cons (cd := (cI .u8)) (q := 255) (o := 0) (by kernel_rfl) (Upd.arr (i := 0) (by decide) (by decide)) (Filled.cons (cd := (cI .u8)) (q := 2) (o := 1) (by kernel_rfl) (Upd.arr (i := 1) (by decide) (by decide)) (Filled.cons (cd := (cI .u8)) (q := 1) (o := 11) (by kernel_rfl) (Upd.arr (i := 11) (by decide) (by decide)) (Filled.cons (cd := (cI .u8)) (q := 255) (o := 12) (by kernel_rfl) (Upd.arr (i := 12) (by decide) (by decide)) (Filled.cons (cd := (cI .u8)) (q := (Vec.g a0.A 13 0)) (o := 13) (by kernel_rfl) (Upd.arr (i := 13) (by decide) (by decide)) (Filled.cons (cd := (cI .u8)) (q := (Vec.g a0.A 14 0)) (o := 14) (by kernel_rfl) (Upd.arr (i := 14) (by decide) (by decide)) (Filled.cons (cd := (cI .u8)) (q := (Vec.g a0.A 15 0)) (o := 15) (by kernel_rfl) (Upd.arr (i := 15) (by decide) (by decide)) Filled.nil))))))) ?_
    refine OJ.build (d := 29) (T := 28) (parts := [(0, .const (.int .i64 6)), (1, .tmp 28)]) (ps := [(0, (cI .i64).val 6), (1, ((cI .u8).arr 16).val (⟨[255, 2, 0, 0, 0, 0, 0, 0, 0, 0, 0, 1, 255, (Vec.g a0.A 13 0), (Vec.g a0.A 14 0), (Vec.g a0.A 15 0)], rfl⟩ : (Vec Int 16)))]) (cd := c_api_IP) (z0 := z_api_IP) (⟨6, (⟨[255, 2, 0, 0, 0, 0, 0, 0, 0, 0, 0, 1, 255, (Vec.g a0.A 13 0), (Vec.g a0.A 14 0), (Vec.g a0.A 15 0)], rfl⟩ : (Vec Int 16))⟩ : api_IP) Ty28 rfl (Filled.cons (cd := (cI .i64)) (q := 6) (o := 0) (by kernel_rfl) (Up_api_IP_V z_api_IP 6) (Filled.cons (cd := ((cI .u8).arr 16)) (q := (⟨[255, 2, 0, 0, 0, 0, 0, 0, 0, 0, 0, 1, 255, (Vec.g a0.A 13 0), (Vec.g a0.A 14 0), (Vec.g a0.A 15 0)], rfl⟩ : (Vec Int 16))) (o := 1) (by kernel_rfl) (Up_api_IP_A (⟨6, z_api_IP.A⟩ : api_IP) (⟨[255, 2, 0, 0, 0, 0, 0, 0, 0, 0, 0, 1, 255, (Vec.g a0.A 13 0), (Vec.g a0.A 14 0), (Vec.g a0.A 15 0)], rfl⟩ : (Vec Int 16))) Filled.nil)) ?_
    refine OJ.kst (y := .tmp 2) (z := .tmp 29) (cd := c_api_IP) (u := (⟨6, (⟨[255, 2, 0, 0, 0, 0, 0, 0, 0, 0, 0, 1, 255, (Vec.g a0.A 13 0), (Vec.g a0.A 14 0), (Vec.g a0.A 15 0)], rfl⟩ : (Vec Int 16))⟩ : api_IP)) (j := 0) (b := b2) (o := 0) (c_api_IP.enc (⟨6, (⟨[255, 2, 0, 0, 0, 0, 0, 0, 0, 0, 0, 1, 255, (Vec.g a0.A 13 0), (Vec.g a0.A 14 0), (Vec.g a0.A 15 0)], rfl⟩ : (Vec Int 16))⟩ : api_IP)) (owed := []) Ty28 rfl (Upd.whole ((Cod.len _ _).trans (Cod.len _ _).symm)) rfl ?_
    exact OW.nil <| OJ.go 1 [(3, .int .i64 0)] <| OJ.nil <| SJ.ret rfl (Res.run (ys := [c_api_IP.val (⟨6, (⟨[255, 2, 0, 0, 0, 0, 0, 0, 0, 0, 0, 1, 255, (Vec.g a0.A 13 0), (Vec.g a0.A 14 0), (Vec.g a0.A 15 0)], rfl⟩ : (Vec Int 16))⟩ : api_IP), .int .i64 0]) (.cell (j := 0) (b := b2) (cd := c_api_IP) (q := (⟨6, (⟨[255, 2, 0, 0, 0, 0, 0, 0, 0, 0, 0, 1, 255, (Vec.g a0.A 13 0), (Vec.g a0.A 14 0), (Vec.g a0.A 15 0)], rfl⟩ : (Vec Int 16))⟩ : api_IP)) (by kernel_rfl) rfl Ty28 (At.whole _) (.tmp (by kernel_rfl) .nil)) rfl)

/-! ### weir/weirref4.Solicited: function 27 -/
noncomputable def r4_Solicited.B : Code := (Tryz.f27.body).getD .skip
noncomputable def r4_Solicited.cx : Fx := ⟨Tryz.prog, 27, Tryz.f27⟩
noncomputable def r4_Solicited.out (r_ : (api_IP × Int)) : Value := .tuple #[c_api_IP.val r_.1, .int .i64 r_.2]
noncomputable def r4_Solicited.F0 (r_ : (api_IP × Int)) : Reach := .ret (r4_Solicited.out r_)
noncomputable def r4_Solicited.F1 (a0 : api_IP) (b1 : Nat) (b2 : Nat) (b7 : Nat) : (LS (Int × api_IP) (api_IP × Int)) → Reach := loopF [.inLoop (c1 (c1 (c2 (c1 (c2 (c2 (c2 (c2 r4_Solicited.B)))))))), .inBlock 0, .code (c2 (c2 (c2 (c2 (c2 r4_Solicited.B)))))] (fun s_ : (Int × api_IP) => [(1, .pointer (some (pt b1 0))), (2, .pointer (some (pt b2 0))), (5, .pointer (some (pt b7 0))), (8, .int .i64 s_.1)]) (fun s_ : (Int × api_IP) => [(b7, c_api_IP.enc s_.2), (b2, c_api_IP.enc z_api_IP), (b1, c_api_IP.enc a0)]) r4_Solicited.F0
noncomputable def r4_Solicited.L1 (a0 : api_IP) (s8 : Int) (s9 : api_IP) : M (LS (Int × api_IP) (api_IP × Int)) :=
 if s8 < 16 then
  chk ((0 : Int) ≤ s8 ∧ s8 < (16 : Nat)) >>= fun _ =>
  chk ((0 : Int) ≤ s8 ∧ s8 < (16 : Nat)) >>= fun _ =>
  pure (LS.next (IntKind.wrap .i64 (s8 + 1), (⟨s9.V, (Vec.s s9.A s8 (Vec.g a0.A s8 0))⟩ : api_IP)))
 else
  pure (LS.done (s9, 0))
theorem r4_Solicited.L1_ok (a0 : api_IP) (b1 : Nat) (b2 : Nat) (b7 : Nat) (s8 : Int) (s9 : api_IP) :
  SJ r4_Solicited.cx [.code (c1 (c1 (c2 (c1 (c2 (c2 (c2 (c2 r4_Solicited.B)))))))), .inLoop (c1 (c1 (c2 (c1 (c2 (c2 (c2 (c2 r4_Solicited.B)))))))), .inBlock 0, .code (c2 (c2 (c2 (c2 (c2 r4_Solicited.B)))))] [(1, .pointer (some (pt b1 0))), (2, .pointer (some (pt b2 0))), (5, .pointer (some (pt b7 0))), (8, .int .i64 s8)] [(b7, c_api_IP.enc s9), (b2, c_api_IP.enc z_api_IP), (b1, c_api_IP.enc a0)] (r4_Solicited.L1 a0 s8 s9) (r4_Solicited.F1 a0 b1 b2 b7) := by
 unfold r4_Solicited.L1
 refine SJ.seq <| SJ.sr 2 <| OJ.go 2 [(29, .bool (decide (s8 < 16))), (28, .int .i64 s8)] <| OJ.nil <| SJ.cond (t := (.tmp 29)) (b := decide (s8 < 16)) decide_eq_true_iff (fun hc19 => ?_) (fun hc19 => ?_)
 ·refine SJ.skip <| SJ.seq <| SJ.block (id := 1) <| SJ.rg 8 <| OJ.go 3 [(34, .pointer (some (pt b1 1))), (33, .int .i64 s8), (32, .int .i64 s8)] <| OJ.idxK (d := 35) (T := 26) (y := .tmp 34) (j := .tmp 33) (E := 5) (sz := 1) (b := b1) (o := 1) (k := .i64) (fun hb15 hb16 => ?_)
  refine OJ.kld (d := 36) (y := .tmp 35) (cd := (cI .u8)) (j := 2) (b := b1) (o := (1 + s8.toNat * 1)) (Vec.g a0.A s8 0) (pend2 := []) Ty5 rfl (At.trans (At_api_IP_A a0) (At.arr (z := 0) hb15 hb16)) rfl ?_
  refine OJ.go 1 [(37, .pointer (some (pt b7 1)))] <| OJ.idxK (d := 38) (T := 26) (y := .tmp 37) (j := .tmp 32) (E := 5) (sz := 1) (b := b7) (o := 1) (k := .i64) (fun hb17 hb18 => ?_)
  refine OJ.kst (y := .tmp 38) (z := .tmp 36) (cd := (cI .u8)) (u := (Vec.g a0.A s8 0)) (j := 0) (b := b7) (o := (1 + s8.toNat * 1)) (c_api_IP.enc (⟨s9.V, (Vec.s s9.A s8 (Vec.g a0.A s8 0))⟩ : api_IP)) (owed := []) Ty5 rfl (Upd.trans (At_api_IP_A s9) (Upd.arr hb17 hb18) (Up_api_IP_A s9 (Vec.s s9.A s8 (Vec.g a0.A s8 0)))) rfl ?_
  exact OW.nil <| OJ.nil <| SJ.inBlock <| SJ.rg 3 <| OJ.go 3 [(8, .int .i64 (IntKind.wrap .i64 (s8 + 1))), (31, .int .i64 (IntKind.wrap .i64 (s8 + 1))), (30, .int .i64 s8)] <| OJ.nil <| SJ.at_ [1, 2, 5, 8] rfl
 ·refine SJ.exit (id := 0) (by rfl) <| SJ.sr 3 <| OJ.kld (d := 39) (y := .tmp 5) (cd := c_api_IP) (j := 0) (b := b7) (o := 0) s9 (pend2 := []) Ty28 rfl (At.whole _) rfl ?_
  refine OJ.kst (y := .tmp 2) (z := .tmp 39) (cd := c_api_IP) (u := s9) (j := 1) (b := b2) (o := 0) (c_api_IP.enc s9) (owed := []) Ty28 rfl (Upd.whole ((Cod.len _ _).trans (Cod.len _ _).symm)) rfl ?_
  exact OW.nil <| OJ.go 1 [(3, .int .i64 0)] <| OJ.nil <| SJ.ret rfl (Res.run (ys := [c_api_IP.val s9, .int .i64 0]) (.cell (j := 1) (b := b2) (cd := c_api_IP) (q := s9) (by kernel_rfl) rfl Ty28 (At.whole _) (.tmp (by kernel_rfl) .nil)) rfl)
noncomputable def r4_Solicited (a0 : api_IP) : M (api_IP × Int) :=
 slot 28 >>= fun b1 =>
 slot 28 >>= fun b2 =>
 r4_Class a0 >>= fun r3 =>
 (if a0.V ≠ 6 then
   pure true
  else
   pure (r3 == 1)) >>= fun y4 =>
 (if y4 = true then
   pure true
  else
   pure (r3 == 3)) >>= fun y5 =>
 if y5 = true then
  pure (z_api_IP, 40)
 else
  r4_ParseIP str25 >>= fun r6 =>
  slot 28 >>= fun b7 =>
  loopM (fun s_ : (Int × api_IP) => r4_Solicited.L1 a0 s_.1 s_.2) (13, r6.1)
theorem r4_Solicited_ok (a0 : api_IP) : Ref Tryz.prog 27 [c_api_IP.val a0] (r4_Solicited a0) r4_Solicited.out := by
 refine Ref.of (cd := r4_Solicited.B) Tryz.func27 ?_
 show SJ r4_Solicited.cx [.code r4_Solicited.B] [(0, c_api_IP.val a0)] [] (r4_Solicited a0) r4_Solicited.F0
 unfold r4_Solicited
 refine SJ.sr 3 <| OJ.slotOf (d := 1) (op := (.box 28 (.tmp 0))) (cd := c_api_IP) (u := a0) (owed := []) (box_run (by kernel_rfl)) (fun b1 => ?_)
 refine OW.nil <| OJ.slotOf (d := 2) (op := (.alloc 28)) (cd := c_api_IP) (u := z_api_IP) (owed := []) (alloc_run Ty28) (fun b2 => ?_)
 refine OW.nil <| OJ.go 1 [(3, .int .i64 0)] <| OJ.nil <| SJ.sr 3 <| OJ.kld (d := 9) (y := .tmp 1) (cd := c_api_IP) (j := 1) (b := b1) (o := 0) a0 (pend2 := []) Ty28 rfl (At.whole _) rfl ?_
 refine OJ.call (d := 10) (g := 53) (ats := #[28]) (args := [.tmp 9]) (owed := []) F53 (r4_Class_ok a0) (fun r3 => ?_)
 refine OW.nil <| OJ.go 1 [(4, .int .i64 r3)] <| OJ.nil <| SJ.seq <| SJ.sr 11 <| OJ.go 1 [(11, .pointer (some (pt b1 0)))] <| OJ.kld (d := 12) (y := .tmp 11) (cd := (cI .i64)) (j := 1) (b := b1) (o := 0) a0.V (pend2 := []) Ty3 rfl (At_api_IP_V a0) rfl ?_
 refine OJ.go 2 [(14, .bool (a0.V != 6)), (13, .bool (a0.V != 6))] <| OJ.join (b := (a0.V != 6)) [4, 5, 6] [7, 8, 9, 10] [1, 2, 4, 17] (fun y4 => [(1, .pointer (some (pt b1 0))), (2, .pointer (some (pt b2 0))), (4, .int .i64 r3), (17, .bool y4)]) [] [] (t := 14) bne_iff_ne (fun hp_ => ?_) (fun hp_ => ?_) (fun _ _ _ _ _ _ h_ => h_) (fun y4 => ?_)
 ·exact OJ.go 3 [(17, .bool true), (16, undef), (15, undef)] <| OJ.x0
 ·exact OJ.go 3 [(17, .bool (r3 == 1)), (16, .bool (r3 == 1)), (15, .int .i64 r3)] <| OJ.x0
 ·refine OJ.go 1 [(18, .bool y4)] <| OJ.join (b := y4) [8, 9, 10] [] [1, 2, 21] (fun y5 => [(1, .pointer (some (pt b1 0))), (2, .pointer (some (pt b2 0))), (21, .bool y5)]) [] [] (t := 18) Iff.rfl (fun hp_ => ?_) (fun hp_ => ?_) (fun _ _ _ _ _ _ h_ => h_) (fun y5 => ?_)
  ·exact OJ.go 3 [(21, .bool true), (20, undef), (19, undef)] <| OJ.x0
  ·exact OJ.go 3 [(21, .bool (r3 == 3)), (20, .bool (r3 == 3)), (19, .int .i64 r3)] <| OJ.x0
  ·refine OJ.nil <| SJ.cond (t := (.tmp 21)) (b := y5) Iff.rfl (fun hc20 => ?_) (fun hc20 => ?_)
   ·refine SJ.sr 3 <| OJ.build (d := 22) (T := 28) (parts := []) (ps := []) (cd := c_api_IP) (z0 := z_api_IP) z_api_IP Ty28 rfl Filled.nil ?_
    refine OJ.kst (y := .tmp 2) (z := .tmp 22) (cd := c_api_IP) (u := z_api_IP) (j := 0) (b := b2) (o := 0) (c_api_IP.enc z_api_IP) (owed := []) Ty28 rfl (Upd.whole ((Cod.len _ _).trans (Cod.len _ _).symm)) rfl ?_
    exact OW.nil <| OJ.go 1 [(3, .int .i64 40)] <| OJ.nil <| SJ.ret rfl (Res.run (ys := [c_api_IP.val z_api_IP, .int .i64 40]) (.cell (j := 0) (b := b2) (cd := c_api_IP) (q := z_api_IP) (by kernel_rfl) rfl Ty28 (At.whole _) (.tmp (by kernel_rfl) .nil)) rfl)
   ·refine SJ.skip <| SJ.sr 9 <| OJ.call (d := 24) (g := 36) (ats := #[9]) (args := [.const (.string str25)]) (owed := []) F36 (r4_ParseIP_ok str25) (fun r6 => ?_)
    refine OW.nil <| OJ.go 4 [(27, .int .i64 r6.2.2), (26, .int .i64 r6.2.1), (25, c_api_IP.val r6.1), (23, .tuple #[c_api_IP.val r6.1, .int .i64 r6.2.1, .int .i64 r6.2.2])] <| OJ.slotOf (d := 5) (op := (.alloc 28)) (cd := c_api_IP) (u := z_api_IP) (owed := []) (alloc_run Ty28) (fun b7 => ?_)
    refine OW.nil <| OJ.kst (y := .tmp 5) (z := .tmp 25) (cd := c_api_IP) (u := r6.1) (j := 0) (b := b7) (o := 0) (c_api_IP.enc r6.1) (owed := []) Ty28 rfl (Upd.whole ((Cod.len _ _).trans (Cod.len _ _).symm)) rfl ?_
    exact OW.nil <| OJ.go 2 [(7, .int .i64 r6.2.2), (6, .int .i64 r6.2.1)] <| OJ.nil <| SJ.seq <| SJ.sr 1 <| OJ.go 1 [(8, .int .i64 13)] <| OJ.nil <| SJ.block (id := 0) <| SJ.loop (fun s_ : (Int × api_IP) => [(1, .pointer (some (pt b1 0))), (2, .pointer (some (pt b2 0))), (5, .pointer (some (pt b7 0))), (8, .int .i64 s_.1)]) (fun s_ : (Int × api_IP) => [(b7, c_api_IP.enc s_.2), (b2, c_api_IP.enc z_api_IP), (b1, c_api_IP.enc a0)]) [1, 2, 5, 8] rfl (fun _ _ => rfl) (fun s_ => r4_Solicited.L1_ok a0 b1 b2 b7 s_.1 s_.2)

/-! ### weir/weirlaw4.plays: function 14 -/
noncomputable def l4_plays.B : Code := (Tryz.f14.body).getD .skip
noncomputable def l4_plays.cx : Fx := ⟨Tryz.prog, 14, Tryz.f14⟩
noncomputable def l4_plays.out (r_ : Bool) : Value := .bool r_
noncomputable def l4_plays.F0 (r_ : Bool) : Reach := .ret (l4_plays.out r_)
noncomputable def l4_plays.K1 (a0 : l4_Op) (j480 : Bool) : M Bool :=
 if j480 = true then
  l4_known a0 >>= fun r521 =>
  pure r521
 else
  if a0.Kind = 13 then
   addr_GroupMac a0.A >>= fun r541 =>
   slot 40 >>= fun b542 =>
   r4_GroupMac a0.A >>= fun r543 =>
   slot 40 >>= fun b544 =>
   (if r541.1 = r543.1 then
     l4_num r541.2 >>= fun r545 =>
     pure (r545 == r543.2)
    else
     pure false) >>= fun y546 =>
   pure y546
  else
   if a0.Kind = 14 then
    addr_Solicited a0.A >>= fun r553 =>
    slot 28 >>= fun b554 =>
    r4_Solicited a0.A >>= fun r555 =>
    slot 28 >>= fun b556 =>
    (if r553.1 = r555.1 then
      l4_num r553.2 >>= fun r557 =>
      pure (r557 == r555.2)
     else
      pure false) >>= fun y558 =>
    pure y558
   else
    pure true
theorem l4_plays.K1_ok (a0 : l4_Op) (b1 : Nat) (j480 : Bool) :
  SJ l4_plays.cx [.code (c2 (c2 (c2 (c2 (c2 (c1 (c2 (c1 (c2 l4_plays.B))))))))), .inBlock 0, .code (c2 (c2 l4_plays.B))] [(1, .pointer (some (pt b1 0))), (12, .int .i64 a0.Kind), (25, .bool j480)] [(b1, c_weirlaw4_Op.enc a0)] (l4_plays.K1 a0 j480) l4_plays.F0 := by
 unfold l4_plays.K1
 refine SJ.cond (t := (.tmp 25)) (b := j480) Iff.rfl (fun hc561 => ?_) (fun hc561 => ?_)
 ·refine SJ.sr 3 <| OJ.kld (d := 32) (y := .tmp 1) (cd := c_weirlaw4_Op) (j := 0) (b := b1) (o := 0) a0 (pend2 := []) Ty42 rfl (At.whole _) rfl ?_
  refine OJ.call (d := 33) (g := 23) (ats := #[42]) (args := [.tmp 32]) (owed := []) F23 (l4_known_ok a0) (fun r521 => ?_)
  exact OW.nil <| OJ.go 1 [(2, .bool r521)] <| OJ.nil <| SJ.r1 (.bool r521) rfl rfl
 ·refine SJ.sr 2 <| OJ.go 2 [(34, .bool (a0.Kind == 13)), (35, .bool (a0.Kind == 13))] <| OJ.nil <| SJ.cond (t := (.tmp 34)) (b := (a0.Kind == 13)) beq_iff_eq (fun hc560 => ?_) (fun hc560 => ?_)
  ·refine SJ.sr 9 <| OJ.go 1 [(37, .pointer (some (pt b1 2)))] <| OJ.kld (d := 38) (y := .tmp 37) (cd := c_api_IP) (j := 0) (b := b1) (o := 2) a0.A (pend2 := []) Ty28 rfl (At_weirlaw4_Op_A a0) rfl ?_
   refine OJ.call (d := 39) (g := 24) (ats := #[28]) (args := [.tmp 38]) (owed := []) F24 (addr_GroupMac_ok a0.A) (fun r541 => ?_)
   refine OW.nil <| OJ.go 3 [(41, .int .i64 r541.2), (40, ((cI .u8).arr 6).val r541.1), (36, .tuple #[((cI .u8).arr 6).val r541.1, .int .i64 r541.2])] <| OJ.slotOf (d := 3) (op := (.alloc 40)) (cd := ((cI .u8).arr 6)) (u := (Vec.rep 6 0)) (owed := []) (alloc_run Ty40) (fun b542 => ?_)
   refine OW.nil <| OJ.kst (y := .tmp 3) (z := .tmp 40) (cd := ((cI .u8).arr 6)) (u := r541.1) (j := 0) (b := b542) (o := 0) (((cI .u8).arr 6).enc r541.1) (owed := []) Ty40 rfl (Upd.whole ((Cod.len _ _).trans (Cod.len _ _).symm)) rfl ?_
   refine OW.nil <| OJ.go 1 [(4, .int .i64 r541.2)] <| OJ.nil <| SJ.sr 9 <| OJ.go 1 [(43, .pointer (some (pt b1 2)))] <| OJ.kld (d := 44) (y := .tmp 43) (cd := c_api_IP) (j := 1) (b := b1) (o := 2) a0.A (pend2 := []) Ty28 rfl (At_weirlaw4_Op_A a0) rfl ?_
   refine OJ.call (d := 45) (g := 25) (ats := #[28]) (args := [.tmp 44]) (owed := []) F25 (r4_GroupMac_ok a0.A) (fun r543 => ?_)
   refine OW.nil <| OJ.go 3 [(47, .int .i64 r543.2), (46, ((cI .u8).arr 6).val r543.1), (42, .tuple #[((cI .u8).arr 6).val r543.1, .int .i64 r543.2])] <| OJ.slotOf (d := 5) (op := (.alloc 40)) (cd := ((cI .u8).arr 6)) (u := (Vec.rep 6 0)) (owed := []) (alloc_run Ty40) (fun b544 => ?_)
   refine OW.nil <| OJ.kst (y := .tmp 5) (z := .tmp 46) (cd := ((cI .u8).arr 6)) (u := r543.1) (j := 0) (b := b544) (o := 0) (((cI .u8).arr 6).enc r543.1) (owed := []) Ty40 rfl (Upd.whole ((Cod.len _ _).trans (Cod.len _ _).symm)) rfl ?_
   refine OW.nil <| OJ.go 1 [(6, .int .i64 r543.2)] <| OJ.nil <| SJ.sr 10 <| OJ.kld (d := 48) (y := .tmp 3) (cd := ((cI .u8).arr 6)) (j := 1) (b := b542) (o := 0) r541.1 (pend2 := []) Ty40 rfl (At.whole _) rfl ?_
   refine OJ.kld (d := 49) (y := .tmp 5) (cd := ((cI .u8).arr 6)) (j := 0) (b := b544) (o := 0) r543.1 (pend2 := []) Ty40 rfl (At.whole _) rfl ?_
   refine OJ.eql (d := 50) (T := 40) (yT := 40) (y := .tmp 48) (z := .tmp 49) (cd := ((cI .u8).arr 6)) (p := r541.1) (q := r543.1) rfl Eq40 ?_
   refine OJ.go 1 [(51, .bool (eqv r541.1 r543.1))] <| OJ.join (b := (eqv r541.1 r543.1)) [4, 5, 6, 7, 8] [9] [56] (fun y546 => [(56, .bool y546)]) [] [] (t := 51) eqv_iff (fun hp_ => ?_) (fun hp_ => ?_) (fun _ _ _ _ _ _ h_ => h_) (fun y546 => ?_)
   ·refine OJ.go 1 [(52, .int .i64 r541.2)] <| OJ.call (d := 53) (g := 13) (ats := #[29]) (args := [.tmp 52]) (owed := []) F13 (l4_num_ok r541.2) (fun r545 => ?_)
    exact OW.nil <| OJ.go 3 [(56, .bool (r545 == r543.2)), (55, .bool (r545 == r543.2)), (54, .int .i64 r543.2)] <| OJ.x0
   ·exact OJ.go 5 [(56, .bool false), (55, undef), (54, undef), (53, undef), (52, undef)] <| OJ.x0
   ·exact OJ.go 1 [(2, .bool y546)] <| OJ.nil <| SJ.r1 (.bool y546) rfl rfl
  ·refine SJ.sr 2 <| OJ.go 2 [(57, .bool (a0.Kind == 14)), (58, .bool (a0.Kind == 14))] <| OJ.nil <| SJ.cond (t := (.tmp 57)) (b := (a0.Kind == 14)) beq_iff_eq (fun hc559 => ?_) (fun hc559 => ?_)
   ·refine SJ.sr 9 <| OJ.go 1 [(60, .pointer (some (pt b1 2)))] <| OJ.kld (d := 61) (y := .tmp 60) (cd := c_api_IP) (j := 0) (b := b1) (o := 2) a0.A (pend2 := []) Ty28 rfl (At_weirlaw4_Op_A a0) rfl ?_
    refine OJ.call (d := 62) (g := 26) (ats := #[28]) (args := [.tmp 61]) (owed := []) F26 (addr_Solicited_ok a0.A) (fun r553 => ?_)
    refine OW.nil <| OJ.go 3 [(64, .int .i64 r553.2), (63, c_api_IP.val r553.1), (59, .tuple #[c_api_IP.val r553.1, .int .i64 r553.2])] <| OJ.slotOf (d := 7) (op := (.alloc 28)) (cd := c_api_IP) (u := z_api_IP) (owed := []) (alloc_run Ty28) (fun b554 => ?_)
    refine OW.nil <| OJ.kst (y := .tmp 7) (z := .tmp 63) (cd := c_api_IP) (u := r553.1) (j := 0) (b := b554) (o := 0) (c_api_IP.enc r553.1) (owed := []) Ty28 rfl (Upd.whole ((Cod.len _ _).trans (Cod.len _ _).symm)) rfl ?_
    refine OW.nil <| OJ.go 1 [(8, .int .i64 r553.2)] <| OJ.nil <| SJ.sr 9 <| OJ.go 1 [(66, .pointer (some (pt b1 2)))] <| OJ.kld (d := 67) (y := .tmp 66) (cd := c_api_IP) (j := 1) (b := b1) (o := 2) a0.A (pend2 := []) Ty28 rfl (At_weirlaw4_Op_A a0) rfl ?_
    refine OJ.call (d := 68) (g := 27) (ats := #[28]) (args := [.tmp 67]) (owed := []) F27 (r4_Solicited_ok a0.A) (fun r555 => ?_)
    refine OW.nil <| OJ.go 3 [(70, .int .i64 r555.2), (69, c_api_IP.val r555.1), (65, .tuple #[c_api_IP.val r555.1, .int .i64 r555.2])] <| OJ.slotOf (d := 9) (op := (.alloc 28)) (cd := c_api_IP) (u := z_api_IP) (owed := []) (alloc_run Ty28) (fun b556 => ?_)
    refine OW.nil <| OJ.kst (y := .tmp 9) (z := .tmp 69) (cd := c_api_IP) (u := r555.1) (j := 0) (b := b556) (o := 0) (c_api_IP.enc r555.1) (owed := []) Ty28 rfl (Upd.whole ((Cod.len _ _).trans (Cod.len _ _).symm)) rfl ?_
    refine OW.nil <| OJ.go 1 [(10, .int .i64 r555.2)] <| OJ.nil <| SJ.sr 10 <| OJ.kld (d := 71) (y := .tmp 7) (cd := c_api_IP) (j := 1) (b := b554) (o := 0) r553.1 (pend2 := []) Ty28 rfl (At.whole _) rfl ?_
    refine OJ.kld (d := 72) (y := .tmp 9) (cd := c_api_IP) (j := 0) (b := b556) (o := 0) r555.1 (pend2 := []) Ty28 rfl (At.whole _) rfl ?_
    refine OJ.eql (d := 73) (T := 28) (yT := 28) (y := .tmp 71) (z := .tmp 72) (cd := c_api_IP) (p := r553.1) (q := r555.1) rfl Eq28 ?_
    refine OJ.go 1 [(74, .bool (eqv r553.1 r555.1))] <| OJ.join (b := (eqv r553.1 r555.1)) [4, 5, 6, 7, 8] [9] [79] (fun y558 => [(79, .bool y558)]) [] [] (t := 74) eqv_iff (fun hp_ => ?_) (fun hp_ => ?_) (fun _ _ _ _ _ _ h_ => h_) (fun y558 => ?_)
    ·refine OJ.go 1 [(75, .int .i64 r553.2)] <| OJ.call (d := 76) (g := 13) (ats := #[29]) (args := [.tmp 75]) (owed := []) F13 (l4_num_ok r553.2) (fun r557 => ?_)
     exact OW.nil <| OJ.go 3 [(79, .bool (r557 == r555.2)), (78, .bool (r557 == r555.2)), (77, .int .i64 r555.2)] <| OJ.x0
    ·exact OJ.go 5 [(79, .bool false), (78, undef), (77, undef), (76, undef), (75, undef)] <| OJ.x0
    ·exact OJ.go 1 [(2, .bool y558)] <| OJ.nil <| SJ.r1 (.bool y558) rfl rfl
   ·exact SJ.skip <| SJ.inBlock <| SJ.sr 1 <| OJ.go 1 [(2, .bool true)] <| OJ.nil <| SJ.r1 (.bool true) rfl rfl
noncomputable def l4_plays.K2 (a0 : l4_Op) (j576 : Bool) : M Bool :=
 l4_plays.K1 a0 j576
theorem l4_plays.K2_ok (a0 : l4_Op) (b1 : Nat) (j576 : Bool) :
  SJ l4_plays.cx [.code (c2 (c2 (c2 (c2 (c2 (c1 (c2 (c1 (c2 l4_plays.B))))))))), .inBlock 0, .code (c2 (c2 l4_plays.B))] [(1, .pointer (some (pt b1 0))), (12, .int .i64 a0.Kind), (25, .bool j576)] [(b1, c_weirlaw4_Op.enc a0)] (l4_plays.K2 a0 j576) l4_plays.F0 := by
 unfold l4_plays.K2
 refine SJ.less [1, 12, 25] (m' := [(1, .pointer (some (pt b1 0))), (12, .int .i64 a0.Kind), (25, .bool j576)]) ?_
 exact l4_plays.K1_ok a0 b1 j576
noncomputable def l4_plays.K3 (a0 : l4_Op) (j583 : Bool) : M Bool :=
 l4_plays.K2 a0 j583
theorem l4_plays.K3_ok (a0 : l4_Op) (b1 : Nat) (j583 : Bool) :
  SJ l4_plays.cx [.code (c2 (c2 (c2 (c2 (c2 (c1 (c2 (c1 (c2 l4_plays.B))))))))), .inBlock 0, .code (c2 (c2 l4_plays.B))] [(1, .pointer (some (pt b1 0))), (12, .int .i64 a0.Kind), (25, .bool j583)] [(b1, c_weirlaw4_Op.enc a0)] (l4_plays.K3 a0 j583) l4_plays.F0 := by
 unfold l4_plays.K3
 refine SJ.less [1, 12, 25] (m' := [(1, .pointer (some (pt b1 0))), (12, .int .i64 a0.Kind), (25, .bool j583)]) ?_
 exact l4_plays.K2_ok a0 b1 j583
noncomputable def l4_plays.K4 (a0 : l4_Op) (j586 : Bool) : M Bool :=
 l4_plays.K3 a0 j586
theorem l4_plays.K4_ok (a0 : l4_Op) (b1 : Nat) (j586 : Bool) :
  SJ l4_plays.cx [.code (c2 (c2 (c2 (c2 (c2 (c1 (c2 (c1 (c2 l4_plays.B))))))))), .inBlock 0, .code (c2 (c2 l4_plays.B))] [(1, .pointer (some (pt b1 0))), (12, .int .i64 a0.Kind), (25, .bool j586)] [(b1, c_weirlaw4_Op.enc a0)] (l4_plays.K4 a0 j586) l4_plays.F0 := by
 unfold l4_plays.K4
 refine SJ.less [1, 12, 25] (m' := [(1, .pointer (some (pt b1 0))), (12, .int .i64 a0.Kind), (25, .bool j586)]) ?_
 exact l4_plays.K3_ok a0 b1 j586
noncomputable def l4_plays.K5 (a0 : l4_Op) (j587 : Bool) : M Bool :=
 l4_plays.K4 a0 j587
theorem l4_plays.K5_ok (a0 : l4_Op) (b1 : Nat) (j587 : Bool) :
  SJ l4_plays.cx [.code (c2 (c2 (c2 (c2 (c2 (c1 (c2 (c1 (c2 l4_plays.B))))))))), .inBlock 0, .code (c2 (c2 l4_plays.B))] [(1, .pointer (some (pt b1 0))), (12, .int .i64 a0.Kind), (25, .bool j587)] [(b1, c_weirlaw4_Op.enc a0)] (l4_plays.K5 a0 j587) l4_plays.F0 := by
 unfold l4_plays.K5
 refine SJ.less [1, 12, 25] (m' := [(1, .pointer (some (pt b1 0))), (12, .int .i64 a0.Kind), (25, .bool j587)]) ?_
 exact l4_plays.K4_ok a0 b1 j587
noncomputable def l4_plays.K6 (a0 : l4_Op) (j304 : Bool) : M Bool :=
 if j304 = true then
  l4_printed a0 >>= fun r449 =>
  pure r449
 else
  if a0.Kind = 7 then
   l4_plays.K1 a0 (a0.Kind == 7)
  else
   if a0.Kind = 8 then
    l4_plays.K2 a0 (a0.Kind == 8)
   else
    if a0.Kind = 9 then
     l4_plays.K3 a0 (a0.Kind == 9)
    else
     if a0.Kind = 10 then
      l4_plays.K4 a0 (a0.Kind == 10)
     else
      if a0.Kind = 11 then
       l4_plays.K5 a0 (a0.Kind == 11)
      else
       l4_plays.K5 a0 (a0.Kind == 12)
theorem l4_plays.K6_ok (a0 : l4_Op) (b1 : Nat) (j304 : Bool) :
  SJ l4_plays.cx [.code (c2 (c2 (c2 (c1 (c2 (c1 (c2 l4_plays.B))))))), .inBlock 0, .code (c2 (c2 l4_plays.B))] [(1, .pointer (some (pt b1 0))), (12, .int .i64 a0.Kind), (19, .bool j304)] [(b1, c_weirlaw4_Op.enc a0)] (l4_plays.K6 a0 j304) l4_plays.F0 := by
 unfold l4_plays.K6
 refine SJ.cond (t := (.tmp 19)) (b := j304) Iff.rfl (fun hc593 => ?_) (fun hc593 => ?_)
 ·refine SJ.sr 3 <| OJ.kld (d := 23) (y := .tmp 1) (cd := c_weirlaw4_Op) (j := 0) (b := b1) (o := 0) a0 (pend2 := []) Ty42 rfl (At.whole _) rfl ?_
  refine OJ.call (d := 24) (g := 22) (ats := #[42]) (args := [.tmp 23]) (owed := []) F22 (l4_printed_ok a0) (fun r449 => ?_)
  exact OW.nil <| OJ.go 1 [(2, .bool r449)] <| OJ.nil <| SJ.r1 (.bool r449) rfl rfl
 ·refine SJ.seq <| SJ.sr 2 <| OJ.go 2 [(25, .bool (a0.Kind == 7)), (26, .bool (a0.Kind == 7))] <| OJ.nil <| SJ.cond (t := (.tmp 25)) (b := (a0.Kind == 7)) beq_iff_eq (fun hc592 => ?_) (fun hc592 => ?_)
  ·refine SJ.skip <| SJ.less [1, 12, 25] (m' := [(1, .pointer (some (pt b1 0))), (12, .int .i64 a0.Kind), (25, .bool (a0.Kind == 7))]) ?_
   exact l4_plays.K1_ok a0 b1 (a0.Kind == 7)
  ·refine SJ.sr 2 <| OJ.go 2 [(25, .bool (a0.Kind == 8)), (27, .bool (a0.Kind == 8))] <| OJ.nil <| SJ.cond (t := (.tmp 25)) (b := (a0.Kind == 8)) beq_iff_eq (fun hc591 => ?_) (fun hc591 => ?_)
   ·refine SJ.skip <| SJ.less [1, 12, 25] (m' := [(1, .pointer (some (pt b1 0))), (12, .int .i64 a0.Kind), (25, .bool (a0.Kind == 8))]) ?_
    exact l4_plays.K2_ok a0 b1 (a0.Kind == 8)
   ·refine SJ.sr 2 <| OJ.go 2 [(25, .bool (a0.Kind == 9)), (28, .bool (a0.Kind == 9))] <| OJ.nil <| SJ.cond (t := (.tmp 25)) (b := (a0.Kind == 9)) beq_iff_eq (fun hc590 => ?_) (fun hc590 => ?_)
    ·refine SJ.skip <| SJ.less [1, 12, 25] (m' := [(1, .pointer (some (pt b1 0))), (12, .int .i64 a0.Kind), (25, .bool (a0.Kind == 9))]) ?_
     exact l4_plays.K3_ok a0 b1 (a0.Kind == 9)
    ·refine SJ.sr 2 <| OJ.go 2 [(25, .bool (a0.Kind == 10)), (29, .bool (a0.Kind == 10))] <| OJ.nil <| SJ.cond (t := (.tmp 25)) (b := (a0.Kind == 10)) beq_iff_eq (fun hc589 => ?_) (fun hc589 => ?_)
     ·refine SJ.skip <| SJ.less [1, 12, 25] (m' := [(1, .pointer (some (pt b1 0))), (12, .int .i64 a0.Kind), (25, .bool (a0.Kind == 10))]) ?_
      exact l4_plays.K4_ok a0 b1 (a0.Kind == 10)
     ·refine SJ.sr 2 <| OJ.go 2 [(25, .bool (a0.Kind == 11)), (30, .bool (a0.Kind == 11))] <| OJ.nil <| SJ.cond (t := (.tmp 25)) (b := (a0.Kind == 11)) beq_iff_eq (fun hc588 => ?_) (fun hc588 => ?_)
      ·refine SJ.skip <| SJ.less [1, 12, 25] (m' := [(1, .pointer (some (pt b1 0))), (12, .int .i64 a0.Kind), (25, .bool (a0.Kind == 11))]) ?_
       exact l4_plays.K5_ok a0 b1 (a0.Kind == 11)
      ·refine SJ.rg 2 <| OJ.go 2 [(25, .bool (a0.Kind == 12)), (31, .bool (a0.Kind == 12))] <| OJ.nil <| SJ.less [1, 12, 25] (m' := [(1, .pointer (some (pt b1 0))), (12, .int .i64 a0.Kind), (25, .bool (a0.Kind == 12))]) ?_
       exact l4_plays.K5_ok a0 b1 (a0.Kind == 12)
noncomputable def l4_plays.K7 (a0 : l4_Op) (j594 : Bool) : M Bool :=
 l4_plays.K6 a0 j594
theorem l4_plays.K7_ok (a0 : l4_Op) (b1 : Nat) (j594 : Bool) :
  SJ l4_plays.cx [.code (c2 (c2 (c2 (c1 (c2 (c1 (c2 l4_plays.B))))))), .inBlock 0, .code (c2 (c2 l4_plays.B))] [(1, .pointer (some (pt b1 0))), (12, .int .i64 a0.Kind), (19, .bool j594)] [(b1, c_weirlaw4_Op.enc a0)] (l4_plays.K7 a0 j594) l4_plays.F0 := by
 unfold l4_plays.K7
 refine SJ.less [1, 12, 19] (m' := [(1, .pointer (some (pt b1 0))), (12, .int .i64 a0.Kind), (19, .bool j594)]) ?_
 exact l4_plays.K6_ok a0 b1 j594
noncomputable def l4_plays.K8 (a0 : l4_Op) (j4 : Bool) : M Bool :=
 if j4 = true then
  l4_parsed a0 >>= fun r301 =>
  pure r301
 else
  if a0.Kind = 4 then
   l4_plays.K6 a0 (a0.Kind == 4)
  else
   if a0.Kind = 5 then
    l4_plays.K7 a0 (a0.Kind == 5)
   else
    l4_plays.K7 a0 (a0.Kind == 6)
theorem l4_plays.K8_ok (a0 : l4_Op) (b1 : Nat) (j4 : Bool) :
  SJ l4_plays.cx [.code (c2 (c1 (c2 (c1 (c2 l4_plays.B))))), .inBlock 0, .code (c2 (c2 l4_plays.B))] [(1, .pointer (some (pt b1 0))), (12, .int .i64 a0.Kind), (13, .bool j4)] [(b1, c_weirlaw4_Op.enc a0)] (l4_plays.K8 a0 j4) l4_plays.F0 := by
 unfold l4_plays.K8
 refine SJ.cond (t := (.tmp 13)) (b := j4) Iff.rfl (fun hc597 => ?_) (fun hc597 => ?_)
 ·refine SJ.sr 3 <| OJ.kld (d := 17) (y := .tmp 1) (cd := c_weirlaw4_Op) (j := 0) (b := b1) (o := 0) a0 (pend2 := []) Ty42 rfl (At.whole _) rfl ?_
  refine OJ.call (d := 18) (g := 21) (ats := #[42]) (args := [.tmp 17]) (owed := []) F21 (l4_parsed_ok a0) (fun r301 => ?_)
  exact OW.nil <| OJ.go 1 [(2, .bool r301)] <| OJ.nil <| SJ.r1 (.bool r301) rfl rfl
 ·refine SJ.seq <| SJ.sr 2 <| OJ.go 2 [(19, .bool (a0.Kind == 4)), (20, .bool (a0.Kind == 4))] <| OJ.nil <| SJ.cond (t := (.tmp 19)) (b := (a0.Kind == 4)) beq_iff_eq (fun hc596 => ?_) (fun hc596 => ?_)
  ·refine SJ.skip <| SJ.less [1, 12, 19] (m' := [(1, .pointer (some (pt b1 0))), (12, .int .i64 a0.Kind), (19, .bool (a0.Kind == 4))]) ?_
   exact l4_plays.K6_ok a0 b1 (a0.Kind == 4)
  ·refine SJ.sr 2 <| OJ.go 2 [(19, .bool (a0.Kind == 5)), (21, .bool (a0.Kind == 5))] <| OJ.nil <| SJ.cond (t := (.tmp 19)) (b := (a0.Kind == 5)) beq_iff_eq (fun hc595 => ?_) (fun hc595 => ?_)
   ·refine SJ.skip <| SJ.less [1, 12, 19] (m' := [(1, .pointer (some (pt b1 0))), (12, .int .i64 a0.Kind), (19, .bool (a0.Kind == 5))]) ?_
    exact l4_plays.K7_ok a0 b1 (a0.Kind == 5)
   ·refine SJ.rg 2 <| OJ.go 2 [(19, .bool (a0.Kind == 6)), (22, .bool (a0.Kind == 6))] <| OJ.nil <| SJ.less [1, 12, 19] (m' := [(1, .pointer (some (pt b1 0))), (12, .int .i64 a0.Kind), (19, .bool (a0.Kind == 6))]) ?_
    exact l4_plays.K7_ok a0 b1 (a0.Kind == 6)
noncomputable def l4_plays.K9 (a0 : l4_Op) (j598 : Bool) : M Bool :=
 l4_plays.K8 a0 j598
theorem l4_plays.K9_ok (a0 : l4_Op) (b1 : Nat) (j598 : Bool) :
  SJ l4_plays.cx [.code (c2 (c1 (c2 (c1 (c2 l4_plays.B))))), .inBlock 0, .code (c2 (c2 l4_plays.B))] [(1, .pointer (some (pt b1 0))), (12, .int .i64 a0.Kind), (13, .bool j598)] [(b1, c_weirlaw4_Op.enc a0)] (l4_plays.K9 a0 j598) l4_plays.F0 := by
 unfold l4_plays.K9
 refine SJ.less [1, 12, 13] (m' := [(1, .pointer (some (pt b1 0))), (12, .int .i64 a0.Kind), (13, .bool j598)]) ?_
 exact l4_plays.K8_ok a0 b1 j598
noncomputable def l4_plays (a0 : l4_Op) : M Bool :=
 slot 42 >>= fun b1 =>
 if a0.Kind = 1 then
  l4_plays.K8 a0 (a0.Kind == 1)
 else
  if a0.Kind = 2 then
   l4_plays.K9 a0 (a0.Kind == 2)
  else
   l4_plays.K9 a0 (a0.Kind == 3)
theorem l4_plays_ok (a0 : l4_Op) : Ref Tryz.prog 14 [c_weirlaw4_Op.val a0] (l4_plays a0) l4_plays.out := by
 refine Ref.of (cd := l4_plays.B) Tryz.func14 ?_
 show SJ l4_plays.cx [.code l4_plays.B] [(0, c_weirlaw4_Op.val a0)] [] (l4_plays a0) l4_plays.F0
 unfold l4_plays
 refine SJ.sr 2 <| OJ.slotOf (d := 1) (op := (.box 42 (.tmp 0))) (cd := c_weirlaw4_Op) (u := a0) (owed := []) (box_run (by kernel_rfl)) (fun b1 => ?_)
 refine OW.nil <| OJ.go 1 [(2, .bool false)] <| OJ.nil <| SJ.seq <| SJ.sr 2 <| OJ.go 1 [(11, .pointer (some (pt b1 0)))] <| OJ.kld (d := 12) (y := .tmp 11) (cd := (cI .i64)) (j := 0) (b := b1) (o := 0) a0.Kind (pend2 := []) Ty3 rfl (At_weirlaw4_Op_Kind a0) rfl ?_
 refine OJ.nil <| SJ.block (id := 0) <| SJ.seq <| SJ.sr 2 <| OJ.go 2 [(13, .bool (a0.Kind == 1)), (14, .bool (a0.Kind == 1))] <| OJ.nil <| SJ.cond (t := (.tmp 13)) (b := (a0.Kind == 1)) beq_iff_eq (fun hc600 => ?_) (fun hc600 => ?_)
 ·refine SJ.skip <| SJ.less [1, 12, 13] (m' := [(1, .pointer (some (pt b1 0))), (12, .int .i64 a0.Kind), (13, .bool (a0.Kind == 1))]) ?_
  exact l4_plays.K8_ok a0 b1 (a0.Kind == 1)
 ·refine SJ.sr 2 <| OJ.go 2 [(13, .bool (a0.Kind == 2)), (15, .bool (a0.Kind == 2))] <| OJ.nil <| SJ.cond (t := (.tmp 13)) (b := (a0.Kind == 2)) beq_iff_eq (fun hc599 => ?_) (fun hc599 => ?_)
  ·refine SJ.skip <| SJ.less [1, 12, 13] (m' := [(1, .pointer (some (pt b1 0))), (12, .int .i64 a0.Kind), (13, .bool (a0.Kind == 2))]) ?_
   exact l4_plays.K9_ok a0 b1 (a0.Kind == 2)
  ·refine SJ.rg 2 <| OJ.go 2 [(13, .bool (a0.Kind == 3)), (16, .bool (a0.Kind == 3))] <| OJ.nil <| SJ.less [1, 12, 13] (m' := [(1, .pointer (some (pt b1 0))), (12, .int .i64 a0.Kind), (13, .bool (a0.Kind == 3))]) ?_
   exact l4_plays.K9_ok a0 b1 (a0.Kind == 3)

/-! ### weir/weirlaw4.upTo: function 8 -/
noncomputable def l4_upTo.B : Code := (Tryz.f8.body).getD .skip
noncomputable def l4_upTo.cx : Fx := ⟨Tryz.prog, 8, Tryz.f8⟩
noncomputable def l4_upTo.out (r_ : Bool) : Value := .bool r_
noncomputable def l4_upTo.F0 (r_ : Bool) : Reach := .ret (l4_upTo.out r_)
noncomputable def l4_upTo.F1 (a0 : Sl) (a1 : Int) (a2 : Int) : (LS Int Bool) → Reach := loopF [.inLoop (c1 (c1 (c2 (c1 (c2 l4_upTo.B))))), .inBlock 0, .code (c2 (c2 l4_upTo.B))] (fun s_ : Int => [(0, Sl.v a0), (1, .int .i64 a1), (2, .int .i64 a2), (7, .int .i64 s_)]) (fun s_ : Int => []) l4_upTo.F0
noncomputable def l4_upTo.L1 (a0 : Sl) (a1 : Int) (a2 : Int) (s1 : Int) : M (LS Int Bool) :=
 if s1 < (a0.len : Int) then
  idx a0.a a0.len s1 61 >>= fun p17 =>
  ld (cI .i64) p17 >>= fun x18 =>
  (if x18 ≥ a1 then
    idx a0.a a0.len s1 61 >>= fun p19 =>
    ld (cI .i64) p19 >>= fun x20 =>
    pure (decide (x20 ≤ a2))
   else
    pure false) >>= fun y21 =>
  if y21 = true then
   idx a0.a a0.len s1 61 >>= fun p26 =>
   ld c_weirlaw4_Op p26 >>= fun x27 =>
   l4_plays x27 >>= fun r28 =>
   if ¬ (r28 = true) then
    pure (LS.done false)
   else
    pure (LS.next (IntKind.wrap .i64 (s1 + 1)))
  else
   pure (LS.next (IntKind.wrap .i64 (s1 + 1)))
 else
  pure (LS.done true)
theorem l4_upTo.L1_ok (a0 : Sl) (a1 : Int) (a2 : Int) (s1 : Int) :
  SJ l4_upTo.cx [.code (c1 (c1 (c2 (c1 (c2 l4_upTo.B))))), .inLoop (c1 (c1 (c2 (c1 (c2 l4_upTo.B))))), .inBlock 0, .code (c2 (c2 l4_upTo.B))] [(0, Sl.v a0), (1, .int .i64 a1), (2, .int .i64 a2), (7, .int .i64 s1)] [] (l4_upTo.L1 a0 a1 a2 s1) (l4_upTo.F1 a0 a1 a2) := by
 unfold l4_upTo.L1
 refine SJ.seq <| SJ.sr 4 <| OJ.go 4 [(12, .bool (decide (s1 < (a0.len : Int)))), (11, .int .i64 (a0.len : Int)), (10, Sl.v a0), (9, .int .i64 s1)] <| OJ.nil <| SJ.cond (t := (.tmp 12)) (b := decide (s1 < (a0.len : Int))) decide_eq_true_iff (fun hc31 => ?_) (fun hc31 => ?_)
 ·refine SJ.skip <| SJ.seq <| SJ.block (id := 1) <| SJ.sr 16 <| OJ.go 2 [(16, .int .i64 s1), (15, Sl.v a0)] <| OJ.idxS (d := 17) (T := 22) (y := .tmp 15) (j := .tmp 16) (E := 42) (cap := a0.cap) (k := .i64) (fun p17 => ?_)
  refine OJ.go 1 [(18, .pointer (some p17))] <| OJ.ld (d := 19) (y := .tmp 18) (pend2 := fun x18 => []) Ty3 (fun _ => rfl) (fun x18 => ?_)
  refine OJ.go 3 [(22, .bool (decide (x18 ≥ a1))), (21, .bool (decide (x18 ≥ a1))), (20, .int .i64 a1)] <| OJ.join (b := decide (x18 ≥ a1)) [8, 9, 10, 11, 12, 13, 14, 15] [] [0, 1, 2, 7, 30] (fun y21 => [(0, Sl.v a0), (1, .int .i64 a1), (2, .int .i64 a2), (7, .int .i64 s1), (30, .bool y21)]) [] [] (t := 22) decide_eq_true_iff (fun hp_ => ?_) (fun hp_ => ?_) (fun _ _ _ _ _ _ h_ => h_) (fun y21 => ?_)
  ·refine OJ.go 2 [(24, .int .i64 s1), (23, Sl.v a0)] <| OJ.idxS (d := 25) (T := 22) (y := .tmp 23) (j := .tmp 24) (E := 42) (cap := a0.cap) (k := .i64) (fun p19 => ?_)
   refine OJ.go 1 [(26, .pointer (some p19))] <| OJ.ld (d := 27) (y := .tmp 26) (pend2 := fun x20 => []) Ty3 (fun _ => rfl) (fun x20 => ?_)
   exact OJ.go 3 [(30, .bool (decide (x20 ≤ a2))), (29, .bool (decide (x20 ≤ a2))), (28, .int .i64 a2)] <| OJ.x0
  ·exact OJ.go 8 [(30, .bool false), (29, undef), (28, undef), (27, undef), (26, undef), (25, undef), (24, undef), (23, undef)] <| OJ.x0
  ·refine OJ.nil <| SJ.cond (t := (.tmp 30)) (b := y21) Iff.rfl (fun hc30 => ?_) (fun hc30 => ?_)
   ·refine SJ.sr 6 <| OJ.go 2 [(32, .int .i64 s1), (31, Sl.v a0)] <| OJ.idxS (d := 33) (T := 22) (y := .tmp 31) (j := .tmp 32) (E := 42) (cap := a0.cap) (k := .i64) (fun p26 => ?_)
    refine OJ.ld (d := 34) (y := .tmp 33) (pend2 := fun x27 => []) Ty42 (fun _ => rfl) (fun x27 => ?_)
    refine OJ.call (d := 35) (g := 14) (ats := #[42]) (args := [.tmp 34]) (owed := []) F14 (l4_plays_ok x27) (fun r28 => ?_)
    refine OW.nil <| OJ.go 1 [(8, .bool r28)] <| OJ.nil <| SJ.sr 2 <| OJ.go 2 [(37, .bool (!r28)), (36, .bool r28)] <| OJ.nil <| SJ.cond (t := (.tmp 37)) (b := (!r28)) (bnot_iff Iff.rfl) (fun hc29 => ?_) (fun hc29 => ?_)
    ·exact SJ.sr 1 <| OJ.go 1 [(6, .bool false)] <| OJ.nil <| SJ.r1 (.bool false) rfl rfl
    ·exact SJ.skip <| SJ.inBlock <| SJ.rg 3 <| OJ.go 3 [(7, .int .i64 (IntKind.wrap .i64 (s1 + 1))), (14, .int .i64 (IntKind.wrap .i64 (s1 + 1))), (13, .int .i64 s1)] <| OJ.nil <| SJ.at_ [0, 1, 2, 7] rfl
   ·exact SJ.skip <| SJ.inBlock <| SJ.rg 3 <| OJ.go 3 [(7, .int .i64 (IntKind.wrap .i64 (s1 + 1))), (14, .int .i64 (IntKind.wrap .i64 (s1 + 1))), (13, .int .i64 s1)] <| OJ.nil <| SJ.at_ [0, 1, 2, 7] rfl
 ·exact SJ.exit (id := 0) (by rfl) <| SJ.sr 1 <| OJ.go 1 [(6, .bool true)] <| OJ.nil <| SJ.r1 (.bool true) rfl rfl
noncomputable def l4_upTo (a0 : Sl) (a1 : Int) (a2 : Int) : M Bool :=
 loopM (fun s_ : Int => l4_upTo.L1 a0 a1 a2 s_) 0
theorem l4_upTo_ok (a0 : Sl) (a1 : Int) (a2 : Int) : Ref Tryz.prog 8 [Sl.v a0, .int .i64 a1, .int .i64 a2] (l4_upTo a0 a1 a2) l4_upTo.out := by
 refine Ref.of (cd := l4_upTo.B) Tryz.func8 ?_
 show SJ l4_upTo.cx [.code l4_upTo.B] [(0, Sl.v a0), (1, .int .i64 a1), (2, .int .i64 a2)] [] (l4_upTo a0 a1 a2) l4_upTo.F0
 unfold l4_upTo
 exact SJ.sr 1 <| OJ.go 1 [(6, .bool false)] <| OJ.nil <| SJ.seq <| SJ.sr 1 <| OJ.go 1 [(7, .int .i64 0)] <| OJ.nil <| SJ.block (id := 0) <| SJ.loop (fun s_ : Int => [(0, Sl.v a0), (1, .int .i64 a1), (2, .int .i64 a2), (7, .int .i64 s_)]) (fun s_ : Int => []) [0, 1, 2, 7] rfl (fun _ _ => rfl) (fun s_ => l4_upTo.L1_ok a0 a1 a2 s_)

/-! ### weir/weirlaw4.AddrPlays: function 6 -/
noncomputable def l4_AddrPlays.B : Code := (Tryz.f6.body).getD .skip
noncomputable def l4_AddrPlays.cx : Fx := ⟨Tryz.prog, 6, Tryz.f6⟩
noncomputable def l4_AddrPlays.out (r_ : Bool) : Value := .bool r_
noncomputable def l4_AddrPlays.F0 (r_ : Bool) : Reach := .ret (l4_AddrPlays.out r_)
noncomputable def l4_AddrPlays (a0 : Sl) : M Bool :=
 l4_started >>= fun r1 =>
 (if r1 = true then
   l4_upTo a0 1 14 >>= fun r2 =>
   pure r2
  else
   pure false) >>= fun y3 =>
 pure y3
theorem l4_AddrPlays_ok (a0 : Sl) : Ref Tryz.prog 6 [Sl.v a0] (l4_AddrPlays a0) l4_AddrPlays.out := by
 refine Ref.of (cd := l4_AddrPlays.B) Tryz.func6 ?_
 show SJ l4_AddrPlays.cx [.code l4_AddrPlays.B] [(0, Sl.v a0)] [] (l4_AddrPlays a0) l4_AddrPlays.F0
 unfold l4_AddrPlays
 refine SJ.sr 1 <| OJ.go 1 [(2, .bool false)] <| OJ.nil <| SJ.sr 6 <| OJ.call (d := 3) (g := 7) (ats := #[]) (args := []) (owed := []) F7 (l4_started_ok ) (fun r1 => ?_)
 refine OW.nil <| OJ.go 1 [(4, .bool r1)] <| OJ.join (b := r1) [2, 3, 4] [5] [7] (fun y3 => [(7, .bool y3)]) [] [] (t := 4) Iff.rfl (fun hp_ => ?_) (fun hp_ => ?_) (fun _ _ _ _ _ _ h_ => h_) (fun y3 => ?_)
 ·refine OJ.go 1 [(5, Sl.v a0)] <| OJ.call (d := 6) (g := 8) (ats := #[22, 3, 3]) (args := [.tmp 5, .const (.int .i64 1), .const (.int .i64 14)]) (owed := []) F8 (l4_upTo_ok a0 1 14) (fun r2 => ?_)
  exact OW.nil <| OJ.go 1 [(7, .bool r2)] <| OJ.x0
 ·exact OJ.go 3 [(7, .bool false), (6, undef), (5, undef)] <| OJ.x0
 ·exact OJ.go 1 [(2, .bool y3)] <| OJ.nil <| SJ.r1 (.bool y3) rfl rfl
end Go.Proofs.YtddmmgcfanpmmaaGreatDoor.Lx
