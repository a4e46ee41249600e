/- Programs of the M-world for Go functions, each with the proof that the Go text does what it says. Printed by lxgen.py. -/
import Derived.Test.YtddmmgcfanpmmaaDoorLxT
import Derived.Test.YtddmmgcfanpmmaaDoorLxP0
set_option linter.unusedVariables false
set_option linter.unusedSimpArgs false
namespace Go.Proofs.YtddmmgcfanpmmaaDoor.Lx
open Go Go.Proofs
/-! ### (*weir/addr.six).group: function 50 -/
noncomputable def addr_six_group.B : Code := (Tryd.f50.body).getD .skip
noncomputable def addr_six_group.cx : Fx := ⟨Tryd.prog, 50, Tryd.f50⟩
noncomputable def addr_six_group.out (r_ : (Bool × (Option Addr))) : Value := .tuple #[.bool r_.1, .pointer r_.2]
noncomputable def addr_six_group.F0 (r_ : (Bool × (Option Addr))) : Reach := .ret (addr_six_group.out r_)
noncomputable def addr_six_group.K1 (a0 : (Option Addr)) (x2 : Int) (s3 : Int) (s4 : Int) : M (Bool × (Option Addr)) :=
  if s4 = x2 then
    nilck a0 >>= fun p22 =>
    ld cS p22 >>= fun x23 =>
    addr_missing x23 x2 >>= fun r24 =>
    pure (false, r24)
  else
    nilck a0 >>= fun p25 =>
    ld cS p25 >>= fun x26 =>
    (if s4 < (x26.size : Int) then
        nilck a0 >>= fun p27 =>
        ld cS p27 >>= fun x28 =>
        chk ((0 : Int) ≤ s4 ∧ s4 < (x28.size : Int)) >>= fun _ =>
        pure ((sb x28 s4) == 46)
      else
        pure false) >>= fun y31 =>
    (if y31 = true then
        nilck a0 >>= fun p32 =>
        ld cL (Addr.add p32 2) >>= fun x33 =>
        (if (x33.len : Int) > 0 then
            pure true
          else
            nilck a0 >>= fun p34 =>
            ld (cI .i64) (Addr.add p34 3) >>= fun x35 =>
            pure (decide (x35 ≥ 0))) >>= fun y36 =>
        pure y36
      else
        pure false) >>= fun y37 =>
    if y37 = true then
      addr_six_room a0 >>= fun r51 =>
      if r51 < 2 then
        newv 61 c_addr_fault (⟨44, x2⟩ : addr_fault) >>= fun b53 =>
        pure (false, (some (pt b53 0)))
      else
        nilck a0 >>= fun p54 =>
        ld cS p54 >>= fun x55 =>
        addr_four x55 x2 >>= fun r56 =>
        slot 86 >>= fun b57 =>
        draw >>= fun _ =>
        nilck a0 >>= fun p58 =>
        ld cL (Addr.add p58 2) >>= fun x59 =>
        slot 3 >>= fun b60 =>
        same cL (Addr.add p58 2) x59 >>= fun _ =>
        appl (cI .i64) 3 8 0 x59 [bor .i64 (IntKind.wrap .i64 ((IntKind.wrap .i64 (Vec.g r56.1 0 0)) * 2 ^ 8)) (IntKind.wrap .i64 (Vec.g r56.1 1 0)), bor .i64 (IntKind.wrap .i64 ((IntKind.wrap .i64 (Vec.g r56.1 2 0)) * 2 ^ 8)) (IntKind.wrap .i64 (Vec.g r56.1 3 0))] >>= fun r61 =>
        nilck a0 >>= fun p62 =>
        st cL (Addr.add p62 2) r61 >>= fun _ =>
        pure (true, r56.2)
    else
      addr_six_room a0 >>= fun r64 =>
      if r64 < 1 then
        newv 61 c_addr_fault (⟨44, x2⟩ : addr_fault) >>= fun b66 =>
        pure (false, (some (pt b66 0)))
      else
        if (IntKind.wrap .i64 (s4 - x2)) > 4 then
          newv 61 c_addr_fault (⟨43, x2⟩ : addr_fault) >>= fun b68 =>
          pure (false, (some (pt b68 0)))
        else
          nilck a0 >>= fun p69 =>
          ld cL (Addr.add p69 2) >>= fun x70 =>
          slot 3 >>= fun b71 =>
          appl (cI .i64) 3 8 0 x70 [s3] >>= fun r72 =>
          nilck a0 >>= fun p73 =>
          st cL (Addr.add p73 2) r72 >>= fun _ =>
          nilck a0 >>= fun p74 =>
          st (cI .i64) (Addr.add p74 1) s4 >>= fun _ =>
          pure (false, none)
theorem addr_six_group.K1_ok (a0 : (Option Addr)) (x2 : Int) (s3 : Int) (s4 : Int) :
    SJ addr_six_group.cx [.code (c2 (c2 (c2 (c2 addr_six_group.B))))] [(0, .pointer a0), (4, .int .i64 x2), (5, .int .i64 s3), (6, .int .i64 s4)] [] (addr_six_group.K1 a0 x2 s3 s4) addr_six_group.F0 := by
  unfold addr_six_group.K1
  refine SJ.seq ?_
  refine SJ.sr 3 ?_
  refine OJ.go 3 [(46, .bool (s4 == x2)), (45, .int .i64 x2), (44, .int .i64 s4)] ?_
  refine OJ.nil ?_
  refine SJ.cond (t := (.tmp 46)) (b := (s4 == x2)) beq_iff_eq (fun hc78 => ?_) (fun hc78 => ?_)
  · refine SJ.sr 8 ?_
    refine OJ.go 1 [(47, .pointer a0)] ?_
    refine OJ.nilck (d := 48) (y := .tmp 47) (fun p22 => ?_)
    refine OJ.go 1 [(49, .pointer (some p22))] ?_
    refine OJ.ld (d := 50) (y := .tmp 49) (pend2 := fun x23 => []) Ty9 (fun _ => rfl) (fun x23 => ?_)
    refine OJ.go 1 [(51, .int .i64 x2)] ?_
    refine OJ.call (d := 52) (g := 47) (ats := #[9, 3]) (args := [.tmp 50, .tmp 51]) (owed := []) F47 (addr_missing_ok x23 x2) (fun r24 => ?_)
    refine OW.nil ?_
    refine OJ.go 2 [(3, .pointer r24), (2, .bool false)] ?_
    refine OJ.nil ?_
    exact SJ.ret rfl (Res.run (ys := [.bool false, .pointer r24]) (.tmp (by kernel_rfl) (.tmp (by kernel_rfl) .nil)) rfl)
  · refine SJ.skip ?_
    refine SJ.seq ?_
    refine SJ.sr 31 ?_
    refine OJ.go 2 [(54, .pointer a0), (53, .int .i64 s4)] ?_
    refine OJ.nilck (d := 55) (y := .tmp 54) (fun p25 => ?_)
    refine OJ.go 1 [(56, .pointer (some p25))] ?_
    refine OJ.ld (d := 57) (y := .tmp 56) (pend2 := fun x26 => []) Ty9 (fun _ => rfl) (fun x26 => ?_)
    refine OJ.go 3 [(60, .bool (decide (s4 < (x26.size : Int)))), (59, .bool (decide (s4 < (x26.size : Int)))), (58, .int .i64 (x26.size : Int))] ?_
    refine OJ.join (b := decide (s4 < (x26.size : Int))) [8, 9, 10, 11, 12, 13, 14, 15] [16, 17, 18, 19, 20, 21, 22, 23, 24, 25, 26, 27, 28, 29, 30] [0, 4, 5, 6, 68] (fun y31 => [(0, .pointer a0), (4, .int .i64 x2), (5, .int .i64 s3), (6, .int .i64 s4), (68, .bool y31)]) [] [] (t := 60) decide_eq_true_iff (fun hp_ => ?_) (fun hp_ => ?_) (fun _ _ _ _ _ _ h_ => h_) (fun y31 => ?_)
    · refine OJ.go 1 [(61, .pointer a0)] ?_
      refine OJ.nilck (d := 62) (y := .tmp 61) (fun p27 => ?_)
      refine OJ.go 1 [(63, .pointer (some p27))] ?_
      refine OJ.ld (d := 64) (y := .tmp 63) (pend2 := fun x28 => []) Ty9 (fun _ => rfl) (fun x28 => ?_)
      refine OJ.go 1 [(65, .int .i64 s4)] ?_
      refine OJ.idxT (d := 66) (T := 9) (y := .tmp 64) (j := .tmp 65) (k := .i64) (fun hb29 hb30 => ?_)
      refine OJ.go 2 [(68, .bool ((sb x28 s4) == 46)), (67, .bool ((sb x28 s4) == 46))] ?_
      exact OJ.nil ⟨(Cov.mem Cov.nil), rfl, _, rfl, by kernel_rfl⟩
    · refine OJ.go 8 [(68, .bool false), (67, undef), (66, undef), (65, undef), (64, undef), (63, undef), (62, undef), (61, undef)] ?_
      exact OJ.nil ⟨(Cov.mem Cov.nil), rfl, _, rfl, by kernel_rfl⟩
    · refine OJ.go 1 [(69, .bool y31)] ?_
      refine OJ.join (b := y31) [17, 18, 19, 20, 21, 22, 23, 24, 25, 26, 27, 28, 29, 30] [] [0, 4, 5, 6, 83] (fun y37 => [(0, .pointer a0), (4, .int .i64 x2), (5, .int .i64 s3), (6, .int .i64 s4), (83, .bool y37)]) [] [] (t := 69) Iff.rfl (fun hp_ => ?_) (fun hp_ => ?_) (fun _ _ _ _ _ _ h_ => h_) (fun y37 => ?_)
      · refine OJ.go 1 [(70, .pointer a0)] ?_
        refine OJ.nilck (d := 71) (y := .tmp 70) (fun p32 => ?_)
        refine OJ.go 1 [(72, .pointer (some (Addr.add p32 2)))] ?_
        refine OJ.ld (d := 73) (y := .tmp 72) (pend2 := fun x33 => []) Ty23 (fun _ => rfl) (fun x33 => ?_)
        refine OJ.go 3 [(76, .bool (decide ((x33.len : Int) > 0))), (75, .bool (decide ((x33.len : Int) > 0))), (74, .int .i64 (x33.len : Int))] ?_
        refine OJ.join (b := decide ((x33.len : Int) > 0)) [24, 25, 26, 27, 28, 29] [30] [0, 4, 5, 6, 69, 82] (fun y36 => [(0, .pointer a0), (4, .int .i64 x2), (5, .int .i64 s3), (6, .int .i64 s4), (69, .bool true), (82, .bool y36)]) [] [] (t := 76) decide_eq_true_iff (fun hp_ => ?_) (fun hp_ => ?_) (fun _ _ _ _ _ hq_ h_ => ⟨fun e_ he_ => (hq_ e_ he_).elim (fun h => h_.1 e_ h) (fun h => nomatch h), h_.2⟩) (fun y36 => ?_)
        · refine OJ.go 6 [(82, .bool true), (81, undef), (80, undef), (79, undef), (78, undef), (77, undef)] ?_
          exact OJ.nil ⟨(Cov.mem Cov.nil), rfl, _, rfl, by kernel_rfl⟩
        · refine OJ.go 1 [(77, .pointer a0)] ?_
          refine OJ.nilck (d := 78) (y := .tmp 77) (fun p34 => ?_)
          refine OJ.go 1 [(79, .pointer (some (Addr.add p34 3)))] ?_
          refine OJ.ld (d := 80) (y := .tmp 79) (pend2 := fun x35 => []) Ty3 (fun _ => rfl) (fun x35 => ?_)
          refine OJ.go 2 [(82, .bool (decide (x35 ≥ 0))), (81, .bool (decide (x35 ≥ 0)))] ?_
          exact OJ.nil ⟨(Cov.mem Cov.nil), rfl, _, rfl, by kernel_rfl⟩
        · refine OJ.go 1 [(83, .bool y36)] ?_
          exact OJ.nil ⟨(Cov.mem Cov.nil), rfl, _, rfl, by kernel_rfl⟩
      · refine OJ.go 14 [(83, .bool false), (82, undef), (81, undef), (80, undef), (79, undef), (78, undef), (77, undef), (76, undef), (75, undef), (74, undef), (73, undef), (72, undef), (71, undef), (70, undef)] ?_
        exact OJ.nil ⟨(Cov.mem Cov.nil), rfl, _, rfl, by kernel_rfl⟩
      · refine OJ.nil ?_
        refine SJ.cond (t := (.tmp 83)) (b := y37) Iff.rfl (fun hc77 => ?_) (fun hc77 => ?_)
        · refine SJ.seq ?_
          refine SJ.sr 3 ?_
          refine OJ.go 1 [(84, .pointer a0)] ?_
          refine OJ.call (d := 85) (g := 57) (ats := #[89]) (args := [.tmp 84]) (owed := []) F57 (addr_six_room_ok a0) (fun r51 => ?_)
          refine OW.nil ?_
          refine OJ.go 1 [(86, .bool (decide (r51 < 2)))] ?_
          refine OJ.nil ?_
          refine SJ.cond (t := (.tmp 86)) (b := decide (r51 < 2)) decide_eq_true_iff (fun hc63 => ?_) (fun hc63 => ?_)
          · refine SJ.sr 5 ?_
            refine OJ.go 1 [(87, .int .i64 x2)] ?_
            refine OJ.build (d := 88) (T := 61) (parts := [(0, .const (.int .i64 44)), (1, .tmp 87)]) (ps := [(0, (cI .i64).val 44), (1, (cI .i64).val x2)]) (cd := c_addr_fault) (z0 := z_addr_fault) (⟨44, x2⟩ : addr_fault) Ty61 rfl (Filled.cons (cd := (cI .i64)) (q := 44) (o := 0) (by kernel_rfl) (Up_addr_fault_why z_addr_fault 44) (Filled.cons (cd := (cI .i64)) (q := x2) (o := 1) (by kernel_rfl) (Up_addr_fault_at_ (⟨44, z_addr_fault.at_⟩ : addr_fault) x2) Filled.nil)) ?_
            refine OJ.newOf (d := 89) (op := (.box 61 (.tmp 88))) (cd := c_addr_fault) (u := (⟨44, x2⟩ : addr_fault)) (owed := []) (box_run (by kernel_rfl)) (fun b53 => ?_)
            refine OW.nil ?_
            refine OJ.go 2 [(3, .pointer (some (pt b53 0))), (2, .bool false)] ?_
            refine OJ.nil ?_
            exact SJ.ret rfl (Res.run (ys := [.bool false, .pointer (some (pt b53 0))]) (.tmp (by kernel_rfl) (.tmp (by kernel_rfl) .nil)) rfl)
          · refine SJ.skip ?_
            refine SJ.sr 12 ?_
            refine OJ.go 1 [(91, .pointer a0)] ?_
            refine OJ.nilck (d := 92) (y := .tmp 91) (fun p54 => ?_)
            refine OJ.go 1 [(93, .pointer (some p54))] ?_
            refine OJ.ld (d := 94) (y := .tmp 93) (pend2 := fun x55 => []) Ty9 (fun _ => rfl) (fun x55 => ?_)
            refine OJ.go 1 [(95, .int .i64 x2)] ?_
            refine OJ.call (d := 96) (g := 38) (ats := #[9, 3]) (args := [.tmp 94, .tmp 95]) (owed := []) F38 (addr_four_ok x55 x2) (fun r56 => ?_)
            refine OW.nil ?_
            refine OJ.go 3 [(98, .pointer r56.2), (97, ((cI .u8).arr 4).val r56.1), (90, .tuple #[((cI .u8).arr 4).val r56.1, .pointer r56.2])] ?_
            refine OJ.slotOf (d := 7) (op := (.alloc 86)) (cd := ((cI .u8).arr 4)) (u := (Vec.rep 4 0)) (owed := []) (alloc_run Ty86) (fun b57 => ?_)
            refine OW.nil ?_
            refine OJ.kst (y := .tmp 7) (z := .tmp 97) (cd := ((cI .u8).arr 4)) (u := r56.1) (j := 0) (b := b57) (o := 0) (((cI .u8).arr 4).enc r56.1) (owed := []) Ty86 rfl (Upd.whole ((Cod.len _ _).trans (Cod.len _ _).symm)) rfl ?_
            refine OW.nil ?_
            refine OJ.go 1 [(8, .pointer r56.2)] ?_
            refine OJ.nil ?_
            refine SJ.seq ?_
            refine SJ.draw (id := 12) (kd := [0, 0, 0, 0, 1, 0, 1, 0, 0, 0, 1, 0, 0, 0, 1, 0, 0, 0, 1, 0, 0, 2, 2, 0, 0, 2]) (bef := [0, 0, 2, 6, 14, 0, 32, 96, 224, 0, 512, 1536, 4064, 0, 8192, 24576, 57344, 0, 131072, 393216, 1040384, 2097120, 4194302, 8388607, 16777215, 33554431]) (ord := [0, 1, 2, 3, 4, 5, 6, 7, 8, 9, 10, 11, 12, 13, 14, 15, 16, 17, 18, 19, 20, 21, 22, 23, 24, 25]) mixed ?_
            refine OJ.go 2 [(100, .pointer a0), (99, .pointer a0)] ?_
            refine OJ.nilck (d := 101) (y := .tmp 100) (fun p58 => ?_)
            refine OJ.go 1 [(102, .pointer (some (Addr.add p58 2)))] ?_
            refine OJ.ld (d := 103) (y := .tmp 102) (pend2 := fun x59 => [⟨4, 23, (Addr.add p58 2), cL.val x59⟩]) Ty23 (fun _ => rfl) (fun x59 => ?_)
            refine OJ.go 1 [(104, .pointer (some (pt b57 0)))] ?_
            refine OJ.kld (d := 105) (y := .tmp 104) (cd := (cI .u8)) (j := 0) (b := b57) (o := 0) (Vec.g r56.1 0 0) (pend2 := [⟨6, 5, (pt b57 0), (cI .u8).val (Vec.g r56.1 0 0)⟩, ⟨4, 23, (Addr.add p58 2), cL.val x59⟩]) Ty5 rfl (At.zero (At.arr (z := 0) (by decide) (by decide))) rfl ?_
            refine OJ.go 3 [(108, .pointer (some (pt b57 1))), (107, .int .i64 (IntKind.wrap .i64 ((IntKind.wrap .i64 (Vec.g r56.1 0 0)) * 2 ^ 8))), (106, .int .i64 (IntKind.wrap .i64 (Vec.g r56.1 0 0)))] ?_
            refine OJ.kld (d := 109) (y := .tmp 108) (cd := (cI .u8)) (j := 0) (b := b57) (o := 1) (Vec.g r56.1 1 0) (pend2 := [⟨10, 5, (pt b57 1), (cI .u8).val (Vec.g r56.1 1 0)⟩, ⟨6, 5, (pt b57 0), (cI .u8).val (Vec.g r56.1 0 0)⟩, ⟨4, 23, (Addr.add p58 2), cL.val x59⟩]) Ty5 rfl (At.zero (At.arr (z := 0) (by decide) (by decide))) rfl ?_
            refine OJ.go 3 [(112, .pointer (some (pt b57 2))), (111, .int .i64 (bor .i64 (IntKind.wrap .i64 ((IntKind.wrap .i64 (Vec.g r56.1 0 0)) * 2 ^ 8)) (IntKind.wrap .i64 (Vec.g r56.1 1 0)))), (110, .int .i64 (IntKind.wrap .i64 (Vec.g r56.1 1 0)))] ?_
            refine OJ.kld (d := 113) (y := .tmp 112) (cd := (cI .u8)) (j := 0) (b := b57) (o := 2) (Vec.g r56.1 2 0) (pend2 := [⟨14, 5, (pt b57 2), (cI .u8).val (Vec.g r56.1 2 0)⟩, ⟨10, 5, (pt b57 1), (cI .u8).val (Vec.g r56.1 1 0)⟩, ⟨6, 5, (pt b57 0), (cI .u8).val (Vec.g r56.1 0 0)⟩, ⟨4, 23, (Addr.add p58 2), cL.val x59⟩]) Ty5 rfl (At.zero (At.arr (z := 0) (by decide) (by decide))) rfl ?_
            refine OJ.go 3 [(116, .pointer (some (pt b57 3))), (115, .int .i64 (IntKind.wrap .i64 ((IntKind.wrap .i64 (Vec.g r56.1 2 0)) * 2 ^ 8))), (114, .int .i64 (IntKind.wrap .i64 (Vec.g r56.1 2 0)))] ?_
            refine OJ.kld (d := 117) (y := .tmp 116) (cd := (cI .u8)) (j := 0) (b := b57) (o := 3) (Vec.g r56.1 3 0) (pend2 := [⟨18, 5, (pt b57 3), (cI .u8).val (Vec.g r56.1 3 0)⟩, ⟨14, 5, (pt b57 2), (cI .u8).val (Vec.g r56.1 2 0)⟩, ⟨10, 5, (pt b57 1), (cI .u8).val (Vec.g r56.1 1 0)⟩, ⟨6, 5, (pt b57 0), (cI .u8).val (Vec.g r56.1 0 0)⟩, ⟨4, 23, (Addr.add p58 2), cL.val x59⟩]) Ty5 rfl (At.zero (At.arr (z := 0) (by decide) (by decide))) rfl ?_
            refine OJ.go 2 [(119, .int .i64 (bor .i64 (IntKind.wrap .i64 ((IntKind.wrap .i64 (Vec.g r56.1 2 0)) * 2 ^ 8)) (IntKind.wrap .i64 (Vec.g r56.1 3 0)))), (118, .int .i64 (IntKind.wrap .i64 (Vec.g r56.1 3 0)))] ?_
            refine OJ.rowSlot (d := 120) (t := 23) (parts := [(0, .tmp 111), (1, .tmp 119)]) (ps := [(0, (cI .i64).val (bor .i64 (IntKind.wrap .i64 ((IntKind.wrap .i64 (Vec.g r56.1 0 0)) * 2 ^ 8)) (IntKind.wrap .i64 (Vec.g r56.1 1 0)))), (1, (cI .i64).val (bor .i64 (IntKind.wrap .i64 ((IntKind.wrap .i64 (Vec.g r56.1 2 0)) * 2 ^ 8)) (IntKind.wrap .i64 (Vec.g r56.1 3 0))))]) (cd := (cI .i64)) (⟨[bor .i64 (IntKind.wrap .i64 ((IntKind.wrap .i64 (Vec.g r56.1 0 0)) * 2 ^ 8)) (IntKind.wrap .i64 (Vec.g r56.1 1 0)), bor .i64 (IntKind.wrap .i64 ((IntKind.wrap .i64 (Vec.g r56.1 2 0)) * 2 ^ 8)) (IntKind.wrap .i64 (Vec.g r56.1 3 0))], rfl⟩ : Vec Int 2) (owed := [⟨4, 23, (Addr.add p58 2), cL.val x59⟩]) Ty3 (Filled.cons (cd := (cI .i64)) (q := (bor .i64 (IntKind.wrap .i64 ((IntKind.wrap .i64 (Vec.g r56.1 0 0)) * 2 ^ 8)) (IntKind.wrap .i64 (Vec.g r56.1 1 0)))) (o := 0) rfl (Upd.arr (i := 0) (by decide) (by decide)) (Filled.cons (cd := (cI .i64)) (q := (bor .i64 (IntKind.wrap .i64 ((IntKind.wrap .i64 (Vec.g r56.1 2 0)) * 2 ^ 8)) (IntKind.wrap .i64 (Vec.g r56.1 3 0)))) (o := 1) rfl (Upd.arr (i := 1) (by decide) (by decide)) Filled.nil)) (fun b60 => ?_)
            refine OW.same Ty23 ?_
            refine OW.nil ?_
            refine OJ.appl (d := 121) (t := 23) (u := 23) (so := .tmp 103) (xo := .tmp 120) (j := 0) (b := b60) (l := ((cI .i64).arr 2).enc (⟨[bor .i64 (IntKind.wrap .i64 ((IntKind.wrap .i64 (Vec.g r56.1 0 0)) * 2 ^ 8)) (IntKind.wrap .i64 (Vec.g r56.1 1 0)), bor .i64 (IntKind.wrap .i64 ((IntKind.wrap .i64 (Vec.g r56.1 2 0)) * 2 ^ 8)) (IntKind.wrap .i64 (Vec.g r56.1 3 0))], rfl⟩ : Vec Int 2)) (n := 2) (k := 2) [bor .i64 (IntKind.wrap .i64 ((IntKind.wrap .i64 (Vec.g r56.1 0 0)) * 2 ^ 8)) (IntKind.wrap .i64 (Vec.g r56.1 1 0)), bor .i64 (IntKind.wrap .i64 ((IntKind.wrap .i64 (Vec.g r56.1 2 0)) * 2 ^ 8)) (IntKind.wrap .i64 (Vec.g r56.1 3 0))] (owed := []) Ty3 (by rfl) (Cod.arr_enc _ _ _) (by rfl) (fun r61 => ?_)
            refine OW.nil ?_
            refine OJ.nilck (d := 122) (y := .tmp 99) (fun p62 => ?_)
            refine OJ.go 1 [(123, .pointer (some (Addr.add p62 2)))] ?_
            refine OJ.st (y := .tmp 123) (z := .tmp 121) (owed := []) Ty23 ?_
            refine OW.nil ?_
            refine OJ.nil ?_
            refine SJ.sr 3 ?_
            refine OJ.go 3 [(3, .pointer r56.2), (2, .bool true), (124, .pointer r56.2)] ?_
            refine OJ.nil ?_
            exact SJ.ret rfl (Res.run (ys := [.bool true, .pointer r56.2]) (.tmp (by kernel_rfl) (.tmp (by kernel_rfl) .nil)) rfl)
        · refine SJ.skip ?_
          refine SJ.seq ?_
          refine SJ.sr 3 ?_
          refine OJ.go 1 [(125, .pointer a0)] ?_
          refine OJ.call (d := 126) (g := 57) (ats := #[89]) (args := [.tmp 125]) (owed := []) F57 (addr_six_room_ok a0) (fun r64 => ?_)
          refine OW.nil ?_
          refine OJ.go 1 [(127, .bool (decide (r64 < 1)))] ?_
          refine OJ.nil ?_
          refine SJ.cond (t := (.tmp 127)) (b := decide (r64 < 1)) decide_eq_true_iff (fun hc76 => ?_) (fun hc76 => ?_)
          · refine SJ.sr 5 ?_
            refine OJ.go 1 [(128, .int .i64 x2)] ?_
            refine OJ.build (d := 129) (T := 61) (parts := [(0, .const (.int .i64 44)), (1, .tmp 128)]) (ps := [(0, (cI .i64).val 44), (1, (cI .i64).val x2)]) (cd := c_addr_fault) (z0 := z_addr_fault) (⟨44, x2⟩ : addr_fault) Ty61 rfl (Filled.cons (cd := (cI .i64)) (q := 44) (o := 0) (by kernel_rfl) (Up_addr_fault_why z_addr_fault 44) (Filled.cons (cd := (cI .i64)) (q := x2) (o := 1) (by kernel_rfl) (Up_addr_fault_at_ (⟨44, z_addr_fault.at_⟩ : addr_fault) x2) Filled.nil)) ?_
            refine OJ.newOf (d := 130) (op := (.box 61 (.tmp 129))) (cd := c_addr_fault) (u := (⟨44, x2⟩ : addr_fault)) (owed := []) (box_run (by kernel_rfl)) (fun b66 => ?_)
            refine OW.nil ?_
            refine OJ.go 2 [(3, .pointer (some (pt b66 0))), (2, .bool false)] ?_
            refine OJ.nil ?_
            exact SJ.ret rfl (Res.run (ys := [.bool false, .pointer (some (pt b66 0))]) (.tmp (by kernel_rfl) (.tmp (by kernel_rfl) .nil)) rfl)
          · refine SJ.skip ?_
            refine SJ.seq ?_
            refine SJ.sr 4 ?_
            refine OJ.go 4 [(134, .bool (decide ((IntKind.wrap .i64 (s4 - x2)) > 4))), (133, .int .i64 (IntKind.wrap .i64 (s4 - x2))), (132, .int .i64 x2), (131, .int .i64 s4)] ?_
            refine OJ.nil ?_
            refine SJ.cond (t := (.tmp 134)) (b := decide ((IntKind.wrap .i64 (s4 - x2)) > 4)) decide_eq_true_iff (fun hc75 => ?_) (fun hc75 => ?_)
            · refine SJ.sr 5 ?_
              refine OJ.go 1 [(135, .int .i64 x2)] ?_
              refine OJ.build (d := 136) (T := 61) (parts := [(0, .const (.int .i64 43)), (1, .tmp 135)]) (ps := [(0, (cI .i64).val 43), (1, (cI .i64).val x2)]) (cd := c_addr_fault) (z0 := z_addr_fault) (⟨43, x2⟩ : addr_fault) Ty61 rfl (Filled.cons (cd := (cI .i64)) (q := 43) (o := 0) (by kernel_rfl) (Up_addr_fault_why z_addr_fault 43) (Filled.cons (cd := (cI .i64)) (q := x2) (o := 1) (by kernel_rfl) (Up_addr_fault_at_ (⟨43, z_addr_fault.at_⟩ : addr_fault) x2) Filled.nil)) ?_
              refine OJ.newOf (d := 137) (op := (.box 61 (.tmp 136))) (cd := c_addr_fault) (u := (⟨43, x2⟩ : addr_fault)) (owed := []) (box_run (by kernel_rfl)) (fun b68 => ?_)
              refine OW.nil ?_
              refine OJ.go 2 [(3, .pointer (some (pt b68 0))), (2, .bool false)] ?_
              refine OJ.nil ?_
              exact SJ.ret rfl (Res.run (ys := [.bool false, .pointer (some (pt b68 0))]) (.tmp (by kernel_rfl) (.tmp (by kernel_rfl) .nil)) rfl)
            · refine SJ.skip ?_
              refine SJ.sr 11 ?_
              refine OJ.go 2 [(139, .pointer a0), (138, .pointer a0)] ?_
              refine OJ.nilck (d := 140) (y := .tmp 139) (fun p69 => ?_)
              refine OJ.go 1 [(141, .pointer (some (Addr.add p69 2)))] ?_
              refine OJ.ld (d := 142) (y := .tmp 141) (pend2 := fun x70 => []) Ty23 (fun _ => rfl) (fun x70 => ?_)
              refine OJ.go 1 [(143, .int .i64 s3)] ?_
              refine OJ.rowSlot (d := 144) (t := 23) (parts := [(0, .tmp 143)]) (ps := [(0, (cI .i64).val s3)]) (cd := (cI .i64)) (⟨[s3], rfl⟩ : Vec Int 1) (owed := []) Ty3 (Filled.cons (cd := (cI .i64)) (q := s3) (o := 0) rfl (Upd.arr (i := 0) (by decide) (by decide)) Filled.nil) (fun b71 => ?_)
              refine OW.nil ?_
              refine OJ.appl (d := 145) (t := 23) (u := 23) (so := .tmp 142) (xo := .tmp 144) (j := 0) (b := b71) (l := ((cI .i64).arr 1).enc (⟨[s3], rfl⟩ : Vec Int 1)) (n := 1) (k := 1) [s3] (owed := []) Ty3 (by rfl) (Cod.arr_enc _ _ _) (by rfl) (fun r72 => ?_)
              refine OW.nil ?_
              refine OJ.nilck (d := 146) (y := .tmp 138) (fun p73 => ?_)
              refine OJ.go 1 [(147, .pointer (some (Addr.add p73 2)))] ?_
              refine OJ.st (y := .tmp 147) (z := .tmp 145) (owed := []) Ty23 ?_
              refine OW.nil ?_
              refine OJ.nil ?_
              refine SJ.sr 5 ?_
              refine OJ.go 2 [(149, .int .i64 s4), (148, .pointer a0)] ?_
              refine OJ.nilck (d := 150) (y := .tmp 148) (fun p74 => ?_)
              refine OJ.go 1 [(151, .pointer (some (Addr.add p74 1)))] ?_
              refine OJ.st (y := .tmp 151) (z := .tmp 149) (owed := []) Ty3 ?_
              refine OW.nil ?_
              refine OJ.nil ?_
              refine SJ.sr 2 ?_
              refine OJ.go 2 [(3, .pointer none), (2, .bool false)] ?_
              refine OJ.nil ?_
              exact SJ.ret rfl (Res.run (ys := [.bool false, .pointer none]) (.tmp (by kernel_rfl) (.tmp (by kernel_rfl) .nil)) rfl)
noncomputable def addr_six_group.F1 (a0 : (Option Addr)) (x2 : Int) : (LS (Int × Int) (Bool × (Option Addr))) → Reach := loopF [.inLoop (c1 (c1 (c1 (c2 (c2 (c2 addr_six_group.B)))))), .inBlock 0, .code (c2 (c2 (c2 (c2 addr_six_group.B))))] (fun s_ : (Int × Int) => [(0, .pointer a0), (4, .int .i64 x2), (5, .int .i64 s_.1), (6, .int .i64 s_.2)]) (fun s_ : (Int × Int) => []) addr_six_group.F0
noncomputable def addr_six_group.L1 (a0 : (Option Addr)) (x2 : Int) (s3 : Int) (s4 : Int) : M (LS (Int × Int) (Bool × (Option Addr))) :=
  nilck a0 >>= fun p79 =>
  ld cS p79 >>= fun x80 =>
  (if s4 < (x80.size : Int) then
      nilck a0 >>= fun p81 =>
      ld cS p81 >>= fun x82 =>
      chk ((0 : Int) ≤ s4 ∧ s4 < (x82.size : Int)) >>= fun _ =>
      addr_hexa (sb x82 s4) >>= fun r85 =>
      pure (decide (r85 ≥ 0))
    else
      pure false) >>= fun y86 =>
  if y86 = true then
    nilck a0 >>= fun p87 =>
    ld cS p87 >>= fun x88 =>
    chk ((0 : Int) ≤ s4 ∧ s4 < (x88.size : Int)) >>= fun _ =>
    addr_hexa (sb x88 s4) >>= fun r91 =>
    pure (LS.next (bor .i64 (band .i64 (IntKind.wrap .i64 (s3 * 2 ^ 4)) 1048575) r91, IntKind.wrap .i64 (s4 + 1)))
  else
    (addr_six_group.K1 a0 x2 s3 s4) >>= fun b => pure (LS.done b)
theorem addr_six_group.L1_ok (a0 : (Option Addr)) (x2 : Int) (s3 : Int) (s4 : Int) :
    SJ addr_six_group.cx [.code (c1 (c1 (c1 (c2 (c2 (c2 addr_six_group.B)))))), .inLoop (c1 (c1 (c1 (c2 (c2 (c2 addr_six_group.B)))))), .inBlock 0, .code (c2 (c2 (c2 (c2 addr_six_group.B))))] [(0, .pointer a0), (4, .int .i64 x2), (5, .int .i64 s3), (6, .int .i64 s4)] [] (addr_six_group.L1 a0 x2 s3 s4) (addr_six_group.F1 a0 x2) := by
  unfold addr_six_group.L1
  refine SJ.seq ?_
  refine SJ.sr 17 ?_
  refine OJ.go 2 [(15, .pointer a0), (14, .int .i64 s4)] ?_
  refine OJ.nilck (d := 16) (y := .tmp 15) (fun p79 => ?_)
  refine OJ.go 1 [(17, .pointer (some p79))] ?_
  refine OJ.ld (d := 18) (y := .tmp 17) (pend2 := fun x80 => []) Ty9 (fun _ => rfl) (fun x80 => ?_)
  refine OJ.go 3 [(21, .bool (decide (s4 < (x80.size : Int)))), (20, .bool (decide (s4 < (x80.size : Int)))), (19, .int .i64 (x80.size : Int))] ?_
  refine OJ.join (b := decide (s4 < (x80.size : Int))) [8, 9, 10, 11, 12, 13, 14, 15, 16] [] [0, 4, 5, 6, 30] (fun y86 => [(0, .pointer a0), (4, .int .i64 x2), (5, .int .i64 s3), (6, .int .i64 s4), (30, .bool y86)]) [] [] (t := 21) decide_eq_true_iff (fun hp_ => ?_) (fun hp_ => ?_) (fun _ _ _ _ _ _ h_ => h_) (fun y86 => ?_)
  · refine OJ.go 1 [(22, .pointer a0)] ?_
    refine OJ.nilck (d := 23) (y := .tmp 22) (fun p81 => ?_)
    refine OJ.go 1 [(24, .pointer (some p81))] ?_
    refine OJ.ld (d := 25) (y := .tmp 24) (pend2 := fun x82 => []) Ty9 (fun _ => rfl) (fun x82 => ?_)
    refine OJ.go 1 [(26, .int .i64 s4)] ?_
    refine OJ.idxT (d := 27) (T := 9) (y := .tmp 25) (j := .tmp 26) (k := .i64) (fun hb83 hb84 => ?_)
    refine OJ.call (d := 28) (g := 36) (ats := #[5]) (args := [.tmp 27]) (owed := []) F36 (addr_hexa_ok (sb x82 s4)) (fun r85 => ?_)
    refine OW.nil ?_
    refine OJ.go 2 [(30, .bool (decide (r85 ≥ 0))), (29, .bool (decide (r85 ≥ 0)))] ?_
    exact OJ.nil ⟨(Cov.mem Cov.nil), rfl, _, rfl, by kernel_rfl⟩
  · refine OJ.go 9 [(30, .bool false), (29, undef), (28, undef), (27, undef), (26, undef), (25, undef), (24, undef), (23, undef), (22, undef)] ?_
    exact OJ.nil ⟨(Cov.mem Cov.nil), rfl, _, rfl, by kernel_rfl⟩
  · refine OJ.nil ?_
    refine SJ.cond (t := (.tmp 30)) (b := y86) Iff.rfl (fun hc92 => ?_) (fun hc92 => ?_)
    · refine SJ.skip ?_
      refine SJ.block (id := 1) ?_
      refine SJ.sr 12 ?_
      refine OJ.go 4 [(34, .pointer a0), (33, .int .i64 (band .i64 (IntKind.wrap .i64 (s3 * 2 ^ 4)) 1048575)), (32, .int .i64 (IntKind.wrap .i64 (s3 * 2 ^ 4))), (31, .int .i64 s3)] ?_
      refine OJ.nilck (d := 35) (y := .tmp 34) (fun p87 => ?_)
      refine OJ.go 1 [(36, .pointer (some p87))] ?_
      refine OJ.ld (d := 37) (y := .tmp 36) (pend2 := fun x88 => []) Ty9 (fun _ => rfl) (fun x88 => ?_)
      refine OJ.go 1 [(38, .int .i64 s4)] ?_
      refine OJ.idxT (d := 39) (T := 9) (y := .tmp 37) (j := .tmp 38) (k := .i64) (fun hb89 hb90 => ?_)
      refine OJ.call (d := 40) (g := 36) (ats := #[5]) (args := [.tmp 39]) (owed := []) F36 (addr_hexa_ok (sb x88 s4)) (fun r91 => ?_)
      refine OW.nil ?_
      refine OJ.go 2 [(5, .int .i64 (bor .i64 (band .i64 (IntKind.wrap .i64 (s3 * 2 ^ 4)) 1048575) r91)), (41, .int .i64 (bor .i64 (band .i64 (IntKind.wrap .i64 (s3 * 2 ^ 4)) 1048575) r91))] ?_
      refine OJ.nil ?_
      refine SJ.rg 3 ?_
      refine OJ.go 3 [(6, .int .i64 (IntKind.wrap .i64 (s4 + 1))), (43, .int .i64 (IntKind.wrap .i64 (s4 + 1))), (42, .int .i64 s4)] ?_
      refine OJ.nil ?_
      refine SJ.inBlock ?_
      exact SJ.at_ [0, 4, 5, 6] rfl
    · refine SJ.exit (id := 0) (by rfl) ?_
      refine SJ.less [0, 4, 5, 6] (m' := [(0, .pointer a0), (4, .int .i64 x2), (5, .int .i64 s3), (6, .int .i64 s4)]) ?_
      refine SJ.done ?_
      exact addr_six_group.K1_ok a0 x2 s3 s4
noncomputable def addr_six_group (a0 : (Option Addr)) : M (Bool × (Option Addr)) :=
  nilck a0 >>= fun p1 =>
  ld (cI .i64) (Addr.add p1 1) >>= fun x2 =>
  loopM (fun s_ : (Int × Int) => addr_six_group.L1 a0 x2 s_.1 s_.2) (0, x2)
theorem addr_six_group_ok (a0 : (Option Addr)) : Ref Tryd.prog 50 [.pointer a0] (addr_six_group a0) addr_six_group.out := by
  refine Ref.of (cd := addr_six_group.B) Tryd.func50 ?_
  show SJ addr_six_group.cx [.code addr_six_group.B] [(0, .pointer a0)] [] (addr_six_group a0) addr_six_group.F0
  unfold addr_six_group
  refine SJ.sr 2 ?_
  refine OJ.go 2 [(3, .pointer none), (2, .bool false)] ?_
  refine OJ.nil ?_
  refine SJ.sr 6 ?_
  refine OJ.go 1 [(9, .pointer a0)] ?_
  refine OJ.nilck (d := 10) (y := .tmp 9) (fun p1 => ?_)
  refine OJ.go 1 [(11, .pointer (some (Addr.add p1 1)))] ?_
  refine OJ.ld (d := 12) (y := .tmp 11) (pend2 := fun x2 => []) Ty3 (fun _ => rfl) (fun x2 => ?_)
  refine OJ.go 2 [(5, .int .i64 0), (4, .int .i64 x2)] ?_
  refine OJ.nil ?_
  refine SJ.sr 2 ?_
  refine OJ.go 2 [(6, .int .i64 x2), (13, .int .i64 x2)] ?_
  refine OJ.nil ?_
  refine SJ.seq ?_
  refine SJ.block (id := 0) ?_
  exact SJ.loop (fun s_ : (Int × Int) => [(0, .pointer a0), (4, .int .i64 x2), (5, .int .i64 s_.1), (6, .int .i64 s_.2)]) (fun s_ : (Int × Int) => []) [0, 4, 5, 6] rfl (fun _ _ => rfl) (fun s_ => addr_six_group.L1_ok a0 x2 s_.1 s_.2)

/-! ### (*weir/addr.six).read: function 39 -/
noncomputable def addr_six_read.B : Code := (Tryd.f39.body).getD .skip
noncomputable def addr_six_read.cx : Fx := ⟨Tryd.prog, 39, Tryd.f39⟩
noncomputable def addr_six_read.out (r_ : (Option Addr)) : Value := .pointer r_
noncomputable def addr_six_read.F0 (r_ : (Option Addr)) : Reach := .ret (addr_six_read.out r_)
noncomputable def addr_six_read.F1 (a0 : (Option Addr)) : (LS Bool (Option Addr)) → Reach := loopF [.inLoop (c1 (c1 (c2 (c2 (c2 addr_six_read.B))))), .inBlock 0] (fun s_ : Bool => [(0, .pointer a0), (5, .bool s_)]) (fun s_ : Bool => []) addr_six_read.F0
noncomputable def addr_six_read.L1 (a0 : (Option Addr)) (s4 : Bool) : M (LS Bool (Option Addr)) :=
  draw >>= fun _ =>
  nilck a0 >>= fun p5 =>
  ld (cI .i64) (Addr.add p5 1) >>= fun x6 =>
  nilck a0 >>= fun p7 =>
  ld cS p7 >>= fun x8 =>
  (if x6 = (x8.size : Int) then
      pure s4
    else
      pure false) >>= fun y9 =>
  if y9 = true then
    pure (LS.done none)
  else
    addr_six_group a0 >>= fun r10 =>
    if ¬ (r10.2 = none) then
      pure (LS.done r10.2)
    else
      draw >>= fun _ =>
      (if r10.1 = true then
          pure true
        else
          nilck a0 >>= fun p11 =>
          ld (cI .i64) (Addr.add p11 1) >>= fun x12 =>
          nilck a0 >>= fun p13 =>
          ld cS p13 >>= fun x14 =>
          pure (x12 == (x14.size : Int))) >>= fun y15 =>
      if y15 = true then
        nilck a0 >>= fun p28 =>
        ld (cI .i64) (Addr.add p28 3) >>= fun x29 =>
        (if x29 < 0 then
            nilck a0 >>= fun p30 =>
            ld cL (Addr.add p30 2) >>= fun x31 =>
            pure ((x31.len : Int) != 8)
          else
            pure false) >>= fun y32 =>
        if y32 = true then
          nilck a0 >>= fun p36 =>
          ld cS p36 >>= fun x37 =>
          newv 61 c_addr_fault (⟨42, (x37.size : Int)⟩ : addr_fault) >>= fun b38 =>
          pure (LS.done (some (pt b38 0)))
        else
          pure (LS.done none)
      else
        addr_six_double a0 >>= fun r40 =>
        if ¬ (r40.2 = none) then
          pure (LS.done r40.2)
        else
          if ¬ (r40.1 = true) then
            draw >>= fun _ =>
            nilck a0 >>= fun p57 =>
            ld cS p57 >>= fun x58 =>
            nilck a0 >>= fun p59 =>
            ld (cI .i64) (Addr.add p59 1) >>= fun x60 =>
            chk ((0 : Int) ≤ x60 ∧ x60 < (x58.size : Int)) >>= fun _ =>
            if (sb x58 x60) ≠ 58 then
              nilck a0 >>= fun p66 =>
              ld (cI .i64) (Addr.add p66 1) >>= fun x67 =>
              newv 61 c_addr_fault (⟨41, x67⟩ : addr_fault) >>= fun b68 =>
              pure (LS.done (some (pt b68 0)))
            else
              nilck a0 >>= fun p69 =>
              ld (cI .i64) (Addr.add p69 1) >>= fun x70 =>
              nilck a0 >>= fun p71 =>
              st (cI .i64) (Addr.add p71 1) (IntKind.wrap .i64 (x70 + 1)) >>= fun _ =>
              pure (LS.next r40.1)
          else
            pure (LS.next r40.1)
theorem addr_six_read.L1_ok (a0 : (Option Addr)) (s4 : Bool) :
    SJ addr_six_read.cx [.code (c1 (c1 (c2 (c2 (c2 addr_six_read.B))))), .inLoop (c1 (c1 (c2 (c2 (c2 addr_six_read.B))))), .inBlock 0] [(0, .pointer a0), (5, .bool s4)] [] (addr_six_read.L1 a0 s4) (addr_six_read.F1 a0) := by
  unfold addr_six_read.L1
  refine SJ.block (id := 1) ?_
  refine SJ.seq ?_
  refine SJ.seq ?_
  refine SJ.draw (id := 5) (kd := [0, 0, 0, 1, 0, 0, 0, 1, 0, 0, 0, 0, 0]) (bef := [0, 1, 3, 7, 0, 16, 48, 112, 240, 511, 1023, 2047, 4095]) (ord := [0, 1, 2, 3, 4, 5, 6, 7, 8, 9, 10, 11, 12]) mixed ?_
  refine OJ.go 1 [(21, .pointer a0)] ?_
  refine OJ.nilck (d := 22) (y := .tmp 21) (fun p5 => ?_)
  refine OJ.go 1 [(23, .pointer (some (Addr.add p5 1)))] ?_
  refine OJ.ld (d := 24) (y := .tmp 23) (pend2 := fun x6 => [⟨3, 3, (Addr.add p5 1), (cI .i64).val x6⟩]) Ty3 (fun _ => rfl) (fun x6 => ?_)
  refine OJ.go 1 [(25, .pointer a0)] ?_
  refine OJ.nilck (d := 26) (y := .tmp 25) (fun p7 => ?_)
  refine OJ.go 1 [(27, .pointer (some p7))] ?_
  refine OJ.ld (d := 28) (y := .tmp 27) (pend2 := fun x8 => [⟨7, 9, p7, cS.val x8⟩, ⟨3, 3, (Addr.add p5 1), (cI .i64).val x6⟩]) Ty9 (fun _ => rfl) (fun x8 => ?_)
  refine OJ.go 3 [(31, .bool (x6 == (x8.size : Int))), (30, .bool (x6 == (x8.size : Int))), (29, .int .i64 (x8.size : Int))] ?_
  refine OJ.join (b := (x6 == (x8.size : Int))) [11, 12] [] [0, 33] (fun y9 => [(0, .pointer a0), (33, .bool y9)]) [⟨7, 9, p7, cS.val x8⟩, ⟨3, 3, (Addr.add p5 1), (cI .i64).val x6⟩] [] (t := 31) beq_iff_eq (fun hp_ => ?_) (fun hp_ => ?_) (fun _ _ _ _ _ _ h_ => h_) (fun y9 => ?_)
  · refine OJ.go 2 [(33, .bool s4), (32, .bool s4)] ?_
    exact OJ.nil ⟨(Cov.mem (Cov.keep (List.mem_of_getElem? (i := 0) rfl) (Cov.keep (List.mem_of_getElem? (i := 1) rfl) Cov.nil))), rfl, _, rfl, by kernel_rfl⟩
  · refine OJ.go 2 [(33, .bool false), (32, undef)] ?_
    exact OJ.nil ⟨(Cov.mem (Cov.keep (List.mem_of_getElem? (i := 0) rfl) (Cov.keep (List.mem_of_getElem? (i := 1) rfl) Cov.nil))), rfl, _, rfl, by kernel_rfl⟩
  · refine OJ.nil ?_
    refine SJ.cond (t := (.tmp 33)) (b := y9) Iff.rfl (fun hc77 => ?_) (fun hc77 => ?_)
    · refine SJ.sr 1 ?_
      refine OJ.go 1 [(2, .pointer none)] ?_
      refine OJ.nil ?_
      exact SJ.ret rfl (Res.run (ys := [.pointer none]) (.tmp (by kernel_rfl) .nil) rfl)
    · refine SJ.skip ?_
      refine SJ.sr 7 ?_
      refine OJ.go 1 [(35, .pointer a0)] ?_
      refine OJ.call (d := 36) (g := 50) (ats := #[89]) (args := [.tmp 35]) (owed := []) F50 (addr_six_group_ok a0) (fun r10 => ?_)
      refine OW.nil ?_
      refine OJ.go 5 [(7, .pointer r10.2), (6, .bool r10.1), (38, .pointer r10.2), (37, .bool r10.1), (34, .tuple #[.bool r10.1, .pointer r10.2])] ?_
      refine OJ.nil ?_
      refine SJ.seq ?_
      refine SJ.sr 2 ?_
      refine OJ.go 2 [(40, .bool (!(Option.isNone r10.2))), (39, .pointer r10.2)] ?_
      refine OJ.nil ?_
      refine SJ.cond (t := (.tmp 40)) (b := (!(Option.isNone r10.2))) (bnot_iff Option.isNone_iff_eq_none) (fun hc76 => ?_) (fun hc76 => ?_)
      · refine SJ.sr 2 ?_
        refine OJ.go 2 [(2, .pointer r10.2), (41, .pointer r10.2)] ?_
        refine OJ.nil ?_
        exact SJ.ret rfl (Res.run (ys := [.pointer r10.2]) (.tmp (by kernel_rfl) .nil) rfl)
      · refine SJ.skip ?_
        refine SJ.seq ?_
        refine SJ.seq ?_
        refine SJ.draw (id := 10) (kd := [0, 0, 0, 0, 0, 1, 0, 0, 0, 1, 0, 0, 0]) (bef := [0, 1, 3, 7, 15, 31, 3, 67, 195, 451, 963, 2047, 4095]) (ord := [0, 1, 2, 3, 4, 5, 6, 7, 8, 9, 10, 11, 12]) mixed ?_
        refine OJ.go 2 [(43, .bool r10.1), (42, .bool r10.1)] ?_
        refine OJ.join (b := r10.1) [2, 3, 4, 5, 6, 7, 8, 9, 10, 11, 12] [] [0, 54] (fun y15 => [(0, .pointer a0), (54, .bool y15)]) [] [5, 9] (t := 43) Iff.rfl (fun hp_ => ?_) (fun hp_ => ?_) (fun _ _ _ _ _ _ h_ => h_) (fun y15 => ?_)
        · refine OJ.go 11 [(54, .bool true), (53, undef), (52, undef), (51, undef), (50, undef), (49, undef), (48, undef), (47, undef), (46, undef), (45, undef), (44, undef)] ?_
          exact OJ.nil ⟨(Cov.mem Cov.nil), rfl, _, rfl, by kernel_rfl⟩
        · refine OJ.go 1 [(44, .pointer a0)] ?_
          refine OJ.nilck (d := 45) (y := .tmp 44) (fun p11 => ?_)
          refine OJ.go 1 [(46, .pointer (some (Addr.add p11 1)))] ?_
          refine OJ.ld (d := 47) (y := .tmp 46) (pend2 := fun x12 => [⟨5, 3, (Addr.add p11 1), (cI .i64).val x12⟩]) Ty3 (fun _ => rfl) (fun x12 => ?_)
          refine OJ.go 1 [(48, .pointer a0)] ?_
          refine OJ.nilck (d := 49) (y := .tmp 48) (fun p13 => ?_)
          refine OJ.go 1 [(50, .pointer (some p13))] ?_
          refine OJ.ld (d := 51) (y := .tmp 50) (pend2 := fun x14 => [⟨9, 9, p13, cS.val x14⟩, ⟨5, 3, (Addr.add p11 1), (cI .i64).val x12⟩]) Ty9 (fun _ => rfl) (fun x14 => ?_)
          refine OJ.go 3 [(54, .bool (x12 == (x14.size : Int))), (53, .bool (x12 == (x14.size : Int))), (52, .int .i64 (x14.size : Int))] ?_
          exact OJ.nil ⟨(Cov.mem (Cov.drop (List.mem_of_getElem? (i := 1) rfl) (Cov.drop (List.mem_of_getElem? (i := 0) rfl) Cov.nil))), rfl, _, rfl, by kernel_rfl⟩
        · refine OJ.nil ?_
          refine SJ.cond (t := (.tmp 54)) (b := y15) Iff.rfl (fun hc75 => ?_) (fun hc75 => ?_)
          · refine SJ.seq ?_
            refine SJ.sr 13 ?_
            refine OJ.go 1 [(55, .pointer a0)] ?_
            refine OJ.nilck (d := 56) (y := .tmp 55) (fun p28 => ?_)
            refine OJ.go 1 [(57, .pointer (some (Addr.add p28 3)))] ?_
            refine OJ.ld (d := 58) (y := .tmp 57) (pend2 := fun x29 => []) Ty3 (fun _ => rfl) (fun x29 => ?_)
            refine OJ.go 2 [(60, .bool (decide (x29 < 0))), (59, .bool (decide (x29 < 0)))] ?_
            refine OJ.join (b := decide (x29 < 0)) [6, 7, 8, 9, 10, 11, 12] [] [0, 67] (fun y32 => [(0, .pointer a0), (67, .bool y32)]) [] [] (t := 60) decide_eq_true_iff (fun hp_ => ?_) (fun hp_ => ?_) (fun _ _ _ _ _ _ h_ => h_) (fun y32 => ?_)
            · refine OJ.go 1 [(61, .pointer a0)] ?_
              refine OJ.nilck (d := 62) (y := .tmp 61) (fun p30 => ?_)
              refine OJ.go 1 [(63, .pointer (some (Addr.add p30 2)))] ?_
              refine OJ.ld (d := 64) (y := .tmp 63) (pend2 := fun x31 => []) Ty23 (fun _ => rfl) (fun x31 => ?_)
              refine OJ.go 3 [(67, .bool ((x31.len : Int) != 8)), (66, .bool ((x31.len : Int) != 8)), (65, .int .i64 (x31.len : Int))] ?_
              exact OJ.nil ⟨(Cov.mem Cov.nil), rfl, _, rfl, by kernel_rfl⟩
            · refine OJ.go 7 [(67, .bool false), (66, undef), (65, undef), (64, undef), (63, undef), (62, undef), (61, undef)] ?_
              exact OJ.nil ⟨(Cov.mem Cov.nil), rfl, _, rfl, by kernel_rfl⟩
            · refine OJ.nil ?_
              refine SJ.cond (t := (.tmp 67)) (b := y32) Iff.rfl (fun hc39 => ?_) (fun hc39 => ?_)
              · refine SJ.sr 8 ?_
                refine OJ.go 1 [(68, .pointer a0)] ?_
                refine OJ.nilck (d := 69) (y := .tmp 68) (fun p36 => ?_)
                refine OJ.go 1 [(70, .pointer (some p36))] ?_
                refine OJ.ld (d := 71) (y := .tmp 70) (pend2 := fun x37 => []) Ty9 (fun _ => rfl) (fun x37 => ?_)
                refine OJ.go 1 [(72, .int .i64 (x37.size : Int))] ?_
                refine OJ.build (d := 73) (T := 61) (parts := [(0, .const (.int .i64 42)), (1, .tmp 72)]) (ps := [(0, (cI .i64).val 42), (1, (cI .i64).val (x37.size : Int))]) (cd := c_addr_fault) (z0 := z_addr_fault) (⟨42, (x37.size : Int)⟩ : addr_fault) Ty61 rfl (Filled.cons (cd := (cI .i64)) (q := 42) (o := 0) (by kernel_rfl) (Up_addr_fault_why z_addr_fault 42) (Filled.cons (cd := (cI .i64)) (q := (x37.size : Int)) (o := 1) (by kernel_rfl) (Up_addr_fault_at_ (⟨42, z_addr_fault.at_⟩ : addr_fault) (x37.size : Int)) Filled.nil)) ?_
                refine OJ.newOf (d := 74) (op := (.box 61 (.tmp 73))) (cd := c_addr_fault) (u := (⟨42, (x37.size : Int)⟩ : addr_fault)) (owed := []) (box_run (by kernel_rfl)) (fun b38 => ?_)
                refine OW.nil ?_
                refine OJ.go 1 [(2, .pointer (some (pt b38 0)))] ?_
                refine OJ.nil ?_
                exact SJ.ret rfl (Res.run (ys := [.pointer (some (pt b38 0))]) (.tmp (by kernel_rfl) .nil) rfl)
              · refine SJ.skip ?_
                refine SJ.sr 1 ?_
                refine OJ.go 1 [(2, .pointer none)] ?_
                refine OJ.nil ?_
                exact SJ.ret rfl (Res.run (ys := [.pointer none]) (.tmp (by kernel_rfl) .nil) rfl)
          · refine SJ.skip ?_
            refine SJ.sr 7 ?_
            refine OJ.go 1 [(76, .pointer a0)] ?_
            refine OJ.call (d := 77) (g := 49) (ats := #[89]) (args := [.tmp 76]) (owed := []) F49 (addr_six_double_ok a0) (fun r40 => ?_)
            refine OW.nil ?_
            refine OJ.go 5 [(7, .pointer r40.2), (5, .bool r40.1), (79, .pointer r40.2), (78, .bool r40.1), (75, .tuple #[.bool r40.1, .pointer r40.2])] ?_
            refine OJ.nil ?_
            refine SJ.seq ?_
            refine SJ.sr 2 ?_
            refine OJ.go 2 [(81, .bool (!(Option.isNone r40.2))), (80, .pointer r40.2)] ?_
            refine OJ.nil ?_
            refine SJ.cond (t := (.tmp 81)) (b := (!(Option.isNone r40.2))) (bnot_iff Option.isNone_iff_eq_none) (fun hc74 => ?_) (fun hc74 => ?_)
            · refine SJ.sr 2 ?_
              refine OJ.go 2 [(2, .pointer r40.2), (82, .pointer r40.2)] ?_
              refine OJ.nil ?_
              exact SJ.ret rfl (Res.run (ys := [.pointer r40.2]) (.tmp (by kernel_rfl) .nil) rfl)
            · refine SJ.skip ?_
              refine SJ.sr 2 ?_
              refine OJ.go 2 [(84, .bool (!r40.1)), (83, .bool r40.1)] ?_
              refine OJ.nil ?_
              refine SJ.cond (t := (.tmp 84)) (b := (!r40.1)) (bnot_iff Iff.rfl) (fun hc73 => ?_) (fun hc73 => ?_)
              · refine SJ.seq ?_
                refine SJ.seq ?_
                refine SJ.draw (id := 18) (kd := [0, 0, 0, 1, 0, 0, 0, 1, 0, 0]) (bef := [0, 1, 3, 7, 0, 16, 48, 112, 255, 511]) (ord := [0, 1, 2, 3, 4, 5, 6, 7, 8, 9]) mixed ?_
                refine OJ.go 1 [(85, .pointer a0)] ?_
                refine OJ.nilck (d := 86) (y := .tmp 85) (fun p57 => ?_)
                refine OJ.go 1 [(87, .pointer (some p57))] ?_
                refine OJ.ld (d := 88) (y := .tmp 87) (pend2 := fun x58 => [⟨3, 9, p57, cS.val x58⟩]) Ty9 (fun _ => rfl) (fun x58 => ?_)
                refine OJ.go 1 [(89, .pointer a0)] ?_
                refine OJ.nilck (d := 90) (y := .tmp 89) (fun p59 => ?_)
                refine OJ.go 1 [(91, .pointer (some (Addr.add p59 1)))] ?_
                refine OJ.ld (d := 92) (y := .tmp 91) (pend2 := fun x60 => [⟨7, 3, (Addr.add p59 1), (cI .i64).val x60⟩, ⟨3, 9, p57, cS.val x58⟩]) Ty3 (fun _ => rfl) (fun x60 => ?_)
                refine OJ.idxT (d := 93) (T := 9) (y := .tmp 88) (j := .tmp 92) (k := .i64) (fun hb61 hb62 => ?_)
                refine OJ.go 1 [(94, .bool ((sb x58 x60) != 58))] ?_
                refine OJ.nil ?_
                refine SJ.cond (t := (.tmp 94)) (b := ((sb x58 x60) != 58)) bne_iff_ne (fun hc72 => ?_) (fun hc72 => ?_)
                · refine SJ.sr 7 ?_
                  refine OJ.go 1 [(95, .pointer a0)] ?_
                  refine OJ.nilck (d := 96) (y := .tmp 95) (fun p66 => ?_)
                  refine OJ.go 1 [(97, .pointer (some (Addr.add p66 1)))] ?_
                  refine OJ.ld (d := 98) (y := .tmp 97) (pend2 := fun x67 => []) Ty3 (fun _ => rfl) (fun x67 => ?_)
                  refine OJ.build (d := 99) (T := 61) (parts := [(0, .const (.int .i64 41)), (1, .tmp 98)]) (ps := [(0, (cI .i64).val 41), (1, (cI .i64).val x67)]) (cd := c_addr_fault) (z0 := z_addr_fault) (⟨41, x67⟩ : addr_fault) Ty61 rfl (Filled.cons (cd := (cI .i64)) (q := 41) (o := 0) (by kernel_rfl) (Up_addr_fault_why z_addr_fault 41) (Filled.cons (cd := (cI .i64)) (q := x67) (o := 1) (by kernel_rfl) (Up_addr_fault_at_ (⟨41, z_addr_fault.at_⟩ : addr_fault) x67) Filled.nil)) ?_
                  refine OJ.newOf (d := 100) (op := (.box 61 (.tmp 99))) (cd := c_addr_fault) (u := (⟨41, x67⟩ : addr_fault)) (owed := []) (box_run (by kernel_rfl)) (fun b68 => ?_)
                  refine OW.nil ?_
                  refine OJ.go 1 [(2, .pointer (some (pt b68 0)))] ?_
                  refine OJ.nil ?_
                  exact SJ.ret rfl (Res.run (ys := [.pointer (some (pt b68 0))]) (.tmp (by kernel_rfl) .nil) rfl)
                · refine SJ.skip ?_
                  refine SJ.rg 8 ?_
                  refine OJ.go 1 [(101, .pointer a0)] ?_
                  refine OJ.nilck (d := 102) (y := .tmp 101) (fun p69 => ?_)
                  refine OJ.go 1 [(103, .pointer (some (Addr.add p69 1)))] ?_
                  refine OJ.ld (d := 104) (y := .tmp 103) (pend2 := fun x70 => []) Ty3 (fun _ => rfl) (fun x70 => ?_)
                  refine OJ.go 1 [(105, .int .i64 (IntKind.wrap .i64 (x70 + 1)))] ?_
                  refine OJ.nilck (d := 106) (y := .tmp 101) (fun p71 => ?_)
                  refine OJ.go 1 [(107, .pointer (some (Addr.add p71 1)))] ?_
                  refine OJ.st (y := .tmp 107) (z := .tmp 105) (owed := []) Ty3 ?_
                  refine OW.nil ?_
                  refine OJ.nil ?_
                  refine SJ.inBlock ?_
                  exact SJ.at_ [0, 5] rfl
              · refine SJ.skip ?_
                refine SJ.inBlock ?_
                exact SJ.at_ [0, 5] rfl
noncomputable def addr_six_read (a0 : (Option Addr)) : M (Option Addr) :=
  addr_six_double a0 >>= fun r1 =>
  if ¬ (r1.2 = none) then
    pure r1.2
  else
    nilck a0 >>= fun p2 =>
    ld (cI .i64) (Addr.add p2 3) >>= fun x3 =>
    loopM (fun s_ : Bool => addr_six_read.L1 a0 s_) (decide (x3 ≥ 0))
theorem addr_six_read_ok (a0 : (Option Addr)) : Ref Tryd.prog 39 [.pointer a0] (addr_six_read a0) addr_six_read.out := by
  refine Ref.of (cd := addr_six_read.B) Tryd.func39 ?_
  show SJ addr_six_read.cx [.code addr_six_read.B] [(0, .pointer a0)] [] (addr_six_read a0) addr_six_read.F0
  unfold addr_six_read
  refine SJ.sr 1 ?_
  refine OJ.go 1 [(2, .pointer none)] ?_
  refine OJ.nil ?_
  refine SJ.seq ?_
  refine SJ.sr 7 ?_
  refine OJ.go 1 [(9, .pointer a0)] ?_
  refine OJ.call (d := 10) (g := 49) (ats := #[89]) (args := [.tmp 9]) (owed := []) F49 (addr_six_double_ok a0) (fun r1 => ?_)
  refine OW.nil ?_
  refine OJ.go 5 [(4, .pointer r1.2), (3, .bool r1.1), (12, .pointer r1.2), (11, .bool r1.1), (8, .tuple #[.bool r1.1, .pointer r1.2])] ?_
  refine OJ.nil ?_
  refine SJ.sr 2 ?_
  refine OJ.go 2 [(14, .bool (!(Option.isNone r1.2))), (13, .pointer r1.2)] ?_
  refine OJ.nil ?_
  refine SJ.cond (t := (.tmp 14)) (b := (!(Option.isNone r1.2))) (bnot_iff Option.isNone_iff_eq_none) (fun hc78 => ?_) (fun hc78 => ?_)
  · refine SJ.sr 2 ?_
    refine OJ.go 2 [(2, .pointer r1.2), (15, .pointer r1.2)] ?_
    refine OJ.nil ?_
    exact SJ.ret rfl (Res.run (ys := [.pointer r1.2]) (.tmp (by kernel_rfl) .nil) rfl)
  · refine SJ.skip ?_
    refine SJ.sr 6 ?_
    refine OJ.go 1 [(16, .pointer a0)] ?_
    refine OJ.nilck (d := 17) (y := .tmp 16) (fun p2 => ?_)
    refine OJ.go 1 [(18, .pointer (some (Addr.add p2 3)))] ?_
    refine OJ.ld (d := 19) (y := .tmp 18) (pend2 := fun x3 => []) Ty3 (fun _ => rfl) (fun x3 => ?_)
    refine OJ.go 2 [(5, .bool (decide (x3 ≥ 0))), (20, .bool (decide (x3 ≥ 0)))] ?_
    refine OJ.nil ?_
    refine SJ.block (id := 0) ?_
    exact SJ.loop (fun s_ : Bool => [(0, .pointer a0), (5, .bool s_)]) (fun s_ : Bool => []) [0, 5] rfl (fun _ _ => rfl) (fun s_ => addr_six_read.L1_ok a0 s_)

/-! ### (*weir/addr.six).bytes: function 40 -/
noncomputable def addr_six_bytes.B : Code := (Tryd.f40.body).getD .skip
noncomputable def addr_six_bytes.cx : Fx := ⟨Tryd.prog, 40, Tryd.f40⟩
noncomputable def addr_six_bytes.out (r_ : (Vec Int 16)) : Value := ((cI .u8).arr 16).val r_
noncomputable def addr_six_bytes.F0 (r_ : (Vec Int 16)) : Reach := .ret (addr_six_bytes.out r_)
noncomputable def addr_six_bytes.F1 (a0 : (Option Addr)) (b1 : Nat) (b2 : Nat) (x4 : Sl) : (LS (Int × (Vec Int 16)) (Vec Int 16)) → Reach := loopF [.inLoop (c1 (c1 (c2 (c1 (c2 (c2 addr_six_bytes.B)))))), .inBlock 0, .code (c2 (c2 (c2 addr_six_bytes.B)))] (fun s_ : (Int × (Vec Int 16)) => [(0, .pointer a0), (2, .pointer (some (pt b1 0))), (3, .pointer (some (pt b2 0))), (9, Sl.v x4), (10, .int .i64 (x4.len : Int)), (11, .int .i64 s_.1)]) (fun s_ : (Int × (Vec Int 16)) => [(b2, ((cI .u8).arr 16).enc s_.2), (b1, ((cI .u8).arr 16).enc (Vec.rep 16 0))]) addr_six_bytes.F0
noncomputable def addr_six_bytes.K1 (s5 : Int) (s6 : (Vec Int 16)) (x26 : Int) (j34 : Int) : M (LS (Int × (Vec Int 16)) (Vec Int 16)) :=
  chk ((0 : Int) ≤ (IntKind.wrap .i64 (2 * j34)) ∧ (IntKind.wrap .i64 (2 * j34)) < (16 : Nat)) >>= fun _ =>
  chk ((0 : Int) ≤ (IntKind.wrap .i64 ((IntKind.wrap .i64 (2 * j34)) + 1)) ∧ (IntKind.wrap .i64 ((IntKind.wrap .i64 (2 * j34)) + 1)) < (16 : Nat)) >>= fun _ =>
  pure (LS.next (IntKind.wrap .i64 (s5 + 1), (Vec.s (Vec.s s6 (IntKind.wrap .i64 (2 * j34)) (IntKind.wrap .u8 (Int.fdiv x26 (2 ^ 8)))) (IntKind.wrap .i64 ((IntKind.wrap .i64 (2 * j34)) + 1)) (IntKind.wrap .u8 x26))))
theorem addr_six_bytes.K1_ok (a0 : (Option Addr)) (b1 : Nat) (b2 : Nat) (x4 : Sl) (s5 : Int) (s6 : (Vec Int 16)) (x26 : Int) (j34 : Int) :
    SJ addr_six_bytes.cx [.code (c2 (c2 (c1 (c1 (c2 (c2 (c1 (c1 (c2 (c1 (c2 (c2 addr_six_bytes.B)))))))))))), .inBlock 1, .code (c2 (c2 (c2 (c1 (c1 (c2 (c1 (c2 (c2 addr_six_bytes.B))))))))), .inLoop (c1 (c1 (c2 (c1 (c2 (c2 addr_six_bytes.B)))))), .inBlock 0, .code (c2 (c2 (c2 addr_six_bytes.B)))] [(0, .pointer a0), (2, .pointer (some (pt b1 0))), (3, .pointer (some (pt b2 0))), (9, Sl.v x4), (10, .int .i64 (x4.len : Int)), (11, .int .i64 s5), (4, .int .i64 j34), (5, .int .i64 x26)] [(b2, ((cI .u8).arr 16).enc s6), (b1, ((cI .u8).arr 16).enc (Vec.rep 16 0))] (addr_six_bytes.K1 s5 s6 x26 j34) (addr_six_bytes.F1 a0 b1 b2 x4) := by
  unfold addr_six_bytes.K1
  refine SJ.rg 14 ?_
  refine OJ.go 10 [(46, .int .u8 (IntKind.wrap .u8 x26)), (45, .int .i64 x26), (44, .int .u8 (IntKind.wrap .u8 (Int.fdiv x26 (2 ^ 8)))), (43, .int .i64 (Int.fdiv x26 (2 ^ 8))), (42, .int .i64 x26), (41, .int .i64 (IntKind.wrap .i64 ((IntKind.wrap .i64 (2 * j34)) + 1))), (40, .int .i64 (IntKind.wrap .i64 (2 * j34))), (39, .int .i64 j34), (38, .int .i64 (IntKind.wrap .i64 (2 * j34))), (37, .int .i64 j34)] ?_
  refine OJ.idxK (d := 47) (T := 22) (y := .tmp 3) (j := .tmp 38) (E := 5) (sz := 1) (b := b2) (o := 0) (k := .i64) (fun hb35 hb36 => ?_)
  refine OJ.kst (y := .tmp 47) (z := .tmp 44) (cd := (cI .u8)) (u := (IntKind.wrap .u8 (Int.fdiv x26 (2 ^ 8)))) (j := 0) (b := b2) (o := (0 + (IntKind.wrap .i64 (2 * j34)).toNat * 1)) (((cI .u8).arr 16).enc (Vec.s s6 (IntKind.wrap .i64 (2 * j34)) (IntKind.wrap .u8 (Int.fdiv x26 (2 ^ 8))))) (owed := []) Ty5 rfl (Upd.zero (Upd.arr hb35 hb36)) rfl ?_
  refine OW.nil ?_
  refine OJ.idxK (d := 48) (T := 22) (y := .tmp 3) (j := .tmp 41) (E := 5) (sz := 1) (b := b2) (o := 0) (k := .i64) (fun hb37 hb38 => ?_)
  refine OJ.kst (y := .tmp 48) (z := .tmp 46) (cd := (cI .u8)) (u := (IntKind.wrap .u8 x26)) (j := 0) (b := b2) (o := (0 + (IntKind.wrap .i64 ((IntKind.wrap .i64 (2 * j34)) + 1)).toNat * 1)) (((cI .u8).arr 16).enc (Vec.s (Vec.s s6 (IntKind.wrap .i64 (2 * j34)) (IntKind.wrap .u8 (Int.fdiv x26 (2 ^ 8)))) (IntKind.wrap .i64 ((IntKind.wrap .i64 (2 * j34)) + 1)) (IntKind.wrap .u8 x26))) (owed := []) Ty5 rfl (Upd.zero (Upd.arr hb37 hb38)) rfl ?_
  refine OW.nil ?_
  refine OJ.nil ?_
  refine SJ.inBlock ?_
  refine SJ.rg 2 ?_
  refine OJ.go 2 [(11, .int .i64 (IntKind.wrap .i64 (s5 + 1))), (49, .int .i64 (IntKind.wrap .i64 (s5 + 1)))] ?_
  refine OJ.nil ?_
  exact SJ.at_ [0, 2, 3, 9, 10, 11] rfl
noncomputable def addr_six_bytes.L1 (a0 : (Option Addr)) (x4 : Sl) (s5 : Int) (s6 : (Vec Int 16)) : M (LS (Int × (Vec Int 16)) (Vec Int 16)) :=
  if s5 < (x4.len : Int) then
    idx x4.a x4.len s5 1 >>= fun p25 =>
    ld (cI .i64) p25 >>= fun x26 =>
    nilck a0 >>= fun p27 =>
    ld (cI .i64) (Addr.add p27 3) >>= fun x28 =>
    (if x28 ≥ 0 then
        nilck a0 >>= fun p29 =>
        ld (cI .i64) (Addr.add p29 3) >>= fun x30 =>
        pure (decide (s5 ≥ x30))
      else
        pure false) >>= fun y31 =>
    if y31 = true then
      nilck a0 >>= fun p39 =>
      ld cL (Addr.add p39 2) >>= fun x40 =>
      addr_six_bytes.K1 s5 s6 x26 (IntKind.wrap .i64 (s5 + (IntKind.wrap .i64 (8 - (x40.len : Int)))))
    else
      addr_six_bytes.K1 s5 s6 x26 s5
  else
    pure (LS.done s6)
theorem addr_six_bytes.L1_ok (a0 : (Option Addr)) (b1 : Nat) (b2 : Nat) (x4 : Sl) (s5 : Int) (s6 : (Vec Int 16)) :
    SJ addr_six_bytes.cx [.code (c1 (c1 (c2 (c1 (c2 (c2 addr_six_bytes.B)))))), .inLoop (c1 (c1 (c2 (c1 (c2 (c2 addr_six_bytes.B)))))), .inBlock 0, .code (c2 (c2 (c2 addr_six_bytes.B)))] [(0, .pointer a0), (2, .pointer (some (pt b1 0))), (3, .pointer (some (pt b2 0))), (9, Sl.v x4), (10, .int .i64 (x4.len : Int)), (11, .int .i64 s5)] [(b2, ((cI .u8).arr 16).enc s6), (b1, ((cI .u8).arr 16).enc (Vec.rep 16 0))] (addr_six_bytes.L1 a0 x4 s5 s6) (addr_six_bytes.F1 a0 b1 b2 x4) := by
  unfold addr_six_bytes.L1
  refine SJ.sr 1 ?_
  refine OJ.go 1 [(12, .bool (decide (s5 < (x4.len : Int))))] ?_
  refine OJ.nil ?_
  refine SJ.seq ?_
  refine SJ.cond (t := (.tmp 12)) (b := decide (s5 < (x4.len : Int))) decide_eq_true_iff (fun hc42 => ?_) (fun hc42 => ?_)
  · refine SJ.skip ?_
    refine SJ.seq ?_
    refine SJ.block (id := 1) ?_
    refine SJ.sr 5 ?_
    refine OJ.go 1 [(13, .int .i64 s5)] ?_
    refine OJ.idxS (d := 14) (T := 23) (y := .tmp 9) (j := .tmp 11) (E := 3) (cap := x4.cap) (k := .i64) (fun p25 => ?_)
    refine OJ.ld (d := 15) (y := .tmp 14) (pend2 := fun x26 => []) Ty3 (fun _ => rfl) (fun x26 => ?_)
    refine OJ.go 2 [(5, .int .i64 x26), (4, .int .i64 s5)] ?_
    refine OJ.nil ?_
    refine SJ.seq ?_
    refine SJ.sr 13 ?_
    refine OJ.go 1 [(16, .pointer a0)] ?_
    refine OJ.nilck (d := 17) (y := .tmp 16) (fun p27 => ?_)
    refine OJ.go 1 [(18, .pointer (some (Addr.add p27 3)))] ?_
    refine OJ.ld (d := 19) (y := .tmp 18) (pend2 := fun x28 => []) Ty3 (fun _ => rfl) (fun x28 => ?_)
    refine OJ.go 2 [(21, .bool (decide (x28 ≥ 0))), (20, .bool (decide (x28 ≥ 0)))] ?_
    refine OJ.join (b := decide (x28 ≥ 0)) [6, 7, 8, 9, 10, 11, 12] [] [0, 2, 3, 9, 10, 11, 4, 5, 28] (fun y31 => [(0, .pointer a0), (2, .pointer (some (pt b1 0))), (3, .pointer (some (pt b2 0))), (9, Sl.v x4), (10, .int .i64 (x4.len : Int)), (11, .int .i64 s5), (4, .int .i64 s5), (5, .int .i64 x26), (28, .bool y31)]) [] [] (t := 21) decide_eq_true_iff (fun hp_ => ?_) (fun hp_ => ?_) (fun _ _ _ _ _ _ h_ => h_) (fun y31 => ?_)
    · refine OJ.go 2 [(23, .pointer a0), (22, .int .i64 s5)] ?_
      refine OJ.nilck (d := 24) (y := .tmp 23) (fun p29 => ?_)
      refine OJ.go 1 [(25, .pointer (some (Addr.add p29 3)))] ?_
      refine OJ.ld (d := 26) (y := .tmp 25) (pend2 := fun x30 => []) Ty3 (fun _ => rfl) (fun x30 => ?_)
      refine OJ.go 2 [(28, .bool (decide (s5 ≥ x30))), (27, .bool (decide (s5 ≥ x30)))] ?_
      exact OJ.nil ⟨(Cov.mem Cov.nil), rfl, _, rfl, by kernel_rfl⟩
    · refine OJ.go 7 [(28, .bool false), (27, undef), (26, undef), (25, undef), (24, undef), (23, undef), (22, undef)] ?_
      exact OJ.nil ⟨(Cov.mem Cov.nil), rfl, _, rfl, by kernel_rfl⟩
    · refine OJ.nil ?_
      refine SJ.cond (t := (.tmp 28)) (b := y31) Iff.rfl (fun hc41 => ?_) (fun hc41 => ?_)
      · refine SJ.rg 9 ?_
        refine OJ.go 2 [(30, .pointer a0), (29, .int .i64 s5)] ?_
        refine OJ.nilck (d := 31) (y := .tmp 30) (fun p39 => ?_)
        refine OJ.go 1 [(32, .pointer (some (Addr.add p39 2)))] ?_
        refine OJ.ld (d := 33) (y := .tmp 32) (pend2 := fun x40 => []) Ty23 (fun _ => rfl) (fun x40 => ?_)
        refine OJ.go 4 [(4, .int .i64 (IntKind.wrap .i64 (s5 + (IntKind.wrap .i64 (8 - (x40.len : Int)))))), (36, .int .i64 (IntKind.wrap .i64 (s5 + (IntKind.wrap .i64 (8 - (x40.len : Int)))))), (35, .int .i64 (IntKind.wrap .i64 (8 - (x40.len : Int)))), (34, .int .i64 (x40.len : Int))] ?_
        refine OJ.nil ?_
        refine SJ.less [0, 2, 3, 9, 10, 11, 4, 5] (m' := [(0, .pointer a0), (2, .pointer (some (pt b1 0))), (3, .pointer (some (pt b2 0))), (9, Sl.v x4), (10, .int .i64 (x4.len : Int)), (11, .int .i64 s5), (4, .int .i64 (IntKind.wrap .i64 (s5 + (IntKind.wrap .i64 (8 - (x40.len : Int)))))), (5, .int .i64 x26)]) ?_
        exact addr_six_bytes.K1_ok a0 b1 b2 x4 s5 s6 x26 (IntKind.wrap .i64 (s5 + (IntKind.wrap .i64 (8 - (x40.len : Int)))))
      · refine SJ.skip ?_
        refine SJ.less [0, 2, 3, 9, 10, 11, 4, 5] (m' := [(0, .pointer a0), (2, .pointer (some (pt b1 0))), (3, .pointer (some (pt b2 0))), (9, Sl.v x4), (10, .int .i64 (x4.len : Int)), (11, .int .i64 s5), (4, .int .i64 s5), (5, .int .i64 x26)]) ?_
        exact addr_six_bytes.K1_ok a0 b1 b2 x4 s5 s6 x26 s5
  · refine SJ.exit (id := 0) (by rfl) ?_
    refine SJ.sr 2 ?_
    refine OJ.kld (d := 50) (y := .tmp 3) (cd := ((cI .u8).arr 16)) (j := 0) (b := b2) (o := 0) s6 (pend2 := []) Ty22 rfl (At.whole _) rfl ?_
    refine OJ.kst (y := .tmp 2) (z := .tmp 50) (cd := ((cI .u8).arr 16)) (u := s6) (j := 1) (b := b1) (o := 0) (((cI .u8).arr 16).enc s6) (owed := []) Ty22 rfl (Upd.whole ((Cod.len _ _).trans (Cod.len _ _).symm)) rfl ?_
    refine OW.nil ?_
    refine OJ.nil ?_
    exact SJ.ret rfl (Res.run (ys := [((cI .u8).arr 16).val s6]) (.cell (j := 1) (b := b1) (cd := ((cI .u8).arr 16)) (q := s6) (by kernel_rfl) rfl Ty22 (At.whole _) .nil) rfl)
noncomputable def addr_six_bytes (a0 : (Option Addr)) : M (Vec Int 16) :=
  slot 22 >>= fun b1 =>
  slot 22 >>= fun b2 =>
  nilck a0 >>= fun p3 =>
  ld cL (Addr.add p3 2) >>= fun x4 =>
  loopM (fun s_ : (Int × (Vec Int 16)) => addr_six_bytes.L1 a0 x4 s_.1 s_.2) (0, (Vec.rep 16 0))
theorem addr_six_bytes_ok (a0 : (Option Addr)) : Ref Tryd.prog 40 [.pointer a0] (addr_six_bytes a0) addr_six_bytes.out := by
  refine Ref.of (cd := addr_six_bytes.B) Tryd.func40 ?_
  show SJ addr_six_bytes.cx [.code addr_six_bytes.B] [(0, .pointer a0)] [] (addr_six_bytes a0) addr_six_bytes.F0
  unfold addr_six_bytes
  refine SJ.sr 1 ?_
  refine OJ.slotOf (d := 2) (op := (.alloc 22)) (cd := ((cI .u8).arr 16)) (u := (Vec.rep 16 0)) (owed := []) (alloc_run Ty22) (fun b1 => ?_)
  refine OW.nil ?_
  refine OJ.nil ?_
  refine SJ.sr 1 ?_
  refine OJ.slotOf (d := 3) (op := (.alloc 22)) (cd := ((cI .u8).arr 16)) (u := (Vec.rep 16 0)) (owed := []) (alloc_run Ty22) (fun b2 => ?_)
  refine OW.nil ?_
  refine OJ.nil ?_
  refine SJ.seq ?_
  refine SJ.sr 6 ?_
  refine OJ.go 1 [(6, .pointer a0)] ?_
  refine OJ.nilck (d := 7) (y := .tmp 6) (fun p3 => ?_)
  refine OJ.go 1 [(8, .pointer (some (Addr.add p3 2)))] ?_
  refine OJ.ld (d := 9) (y := .tmp 8) (pend2 := fun x4 => []) Ty23 (fun _ => rfl) (fun x4 => ?_)
  refine OJ.go 2 [(11, .int .i64 0), (10, .int .i64 (x4.len : Int))] ?_
  refine OJ.nil ?_
  refine SJ.block (id := 0) ?_
  exact SJ.loop (fun s_ : (Int × (Vec Int 16)) => [(0, .pointer a0), (2, .pointer (some (pt b1 0))), (3, .pointer (some (pt b2 0))), (9, Sl.v x4), (10, .int .i64 (x4.len : Int)), (11, .int .i64 s_.1)]) (fun s_ : (Int × (Vec Int 16)) => [(b2, ((cI .u8).arr 16).enc s_.2), (b1, ((cI .u8).arr 16).enc (Vec.rep 16 0))]) [0, 2, 3, 9, 10, 11] rfl (fun _ _ => rfl) (fun s_ => addr_six_bytes.L1_ok a0 b1 b2 x4 s_.1 s_.2)

/-! ### weir/addr.parse: function 23 -/
noncomputable def addr_parse.B : Code := (Tryd.f23.body).getD .skip
noncomputable def addr_parse.cx : Fx := ⟨Tryd.prog, 23, Tryd.f23⟩
noncomputable def addr_parse.out (r_ : (api_IP × (Option Addr))) : Value := .tuple #[c_api_IP.val r_.1, .pointer r_.2]
noncomputable def addr_parse.F0 (r_ : (api_IP × (Option Addr))) : Reach := .ret (addr_parse.out r_)
noncomputable def addr_parse (a0 : ByteArray) : M (api_IP × (Option Addr)) :=
  slot 27 >>= fun b1 =>
  if (a0.size : Int) > 45 then
    newv 61 c_addr_fault (⟨2, 45⟩ : addr_fault) >>= fun b3 =>
    pure (z_api_IP, (some (pt b3 0)))
  else
    strings_Contains a0 str4 >>= fun r4 =>
    if ¬ (r4 = true) then
      addr_four a0 0 >>= fun r8 =>
      slot 86 >>= fun b9 =>
      if ¬ (r8.2 = none) then
        pure (z_api_IP, r8.2)
      else
        pure ((⟨4, (⟨[(Vec.g r8.1 0 0), (Vec.g r8.1 1 0), (Vec.g r8.1 2 0), (Vec.g r8.1 3 0), 0, 0, 0, 0, 0, 0, 0, 0, 0, 0, 0, 0], rfl⟩ : (Vec Int 16))⟩ : api_IP), none)
    else
      newv 91 c_addr_six (⟨a0, z_addr_six.at_, z_addr_six.groups, (-1)⟩ : addr_six) >>= fun b11 =>
      addr_six_read (some (pt b11 0)) >>= fun r12 =>
      if ¬ (r12 = none) then
        pure (z_api_IP, r12)
      else
        addr_six_bytes (some (pt b11 0)) >>= fun r13 =>
        pure ((⟨6, r13⟩ : api_IP), none)
theorem addr_parse_ok (a0 : ByteArray) : Ref Tryd.prog 23 [.string a0] (addr_parse a0) addr_parse.out := by
  refine Ref.of (cd := addr_parse.B) Tryd.func23 ?_
  show SJ addr_parse.cx [.code addr_parse.B] [(0, .string a0)] [] (addr_parse a0) addr_parse.F0
  unfold addr_parse
  refine SJ.sr 2 ?_
  refine OJ.slotOf (d := 2) (op := (.alloc 27)) (cd := c_api_IP) (u := z_api_IP) (owed := []) (alloc_run Ty27) (fun b1 => ?_)
  refine OW.nil ?_
  refine OJ.go 1 [(3, .pointer none)] ?_
  refine OJ.nil ?_
  refine SJ.seq ?_
  refine SJ.sr 3 ?_
  refine OJ.go 3 [(10, .bool (decide ((a0.size : Int) > 45))), (9, .int .i64 (a0.size : Int)), (8, .string a0)] ?_
  refine OJ.nil ?_
  refine SJ.cond (t := (.tmp 10)) (b := decide ((a0.size : Int) > 45)) decide_eq_true_iff (fun hc16 => ?_) (fun hc16 => ?_)
  · refine SJ.sr 5 ?_
    refine OJ.build (d := 11) (T := 27) (parts := []) (ps := []) (cd := c_api_IP) (z0 := z_api_IP) z_api_IP Ty27 rfl Filled.nil ?_
    refine OJ.build (d := 12) (T := 61) (parts := [(0, .const (.int .i64 2)), (1, .const (.int .i64 45))]) (ps := [(0, (cI .i64).val 2), (1, (cI .i64).val 45)]) (cd := c_addr_fault) (z0 := z_addr_fault) (⟨2, 45⟩ : addr_fault) Ty61 rfl (Filled.cons (cd := (cI .i64)) (q := 2) (o := 0) (by kernel_rfl) (Up_addr_fault_why z_addr_fault 2) (Filled.cons (cd := (cI .i64)) (q := 45) (o := 1) (by kernel_rfl) (Up_addr_fault_at_ (⟨2, z_addr_fault.at_⟩ : addr_fault) 45) Filled.nil)) ?_
    refine OJ.newOf (d := 13) (op := (.box 61 (.tmp 12))) (cd := c_addr_fault) (u := (⟨2, 45⟩ : addr_fault)) (owed := []) (box_run (by kernel_rfl)) (fun b3 => ?_)
    refine OW.nil ?_
    refine OJ.kst (y := .tmp 2) (z := .tmp 11) (cd := c_api_IP) (u := z_api_IP) (j := 0) (b := b1) (o := 0) (c_api_IP.enc z_api_IP) (owed := []) Ty27 rfl (Upd.whole ((Cod.len _ _).trans (Cod.len _ _).symm)) rfl ?_
    refine OW.nil ?_
    refine OJ.go 1 [(3, .pointer (some (pt b3 0)))] ?_
    refine OJ.nil ?_
    exact SJ.ret rfl (Res.run (ys := [c_api_IP.val z_api_IP, .pointer (some (pt b3 0))]) (.cell (j := 0) (b := b1) (cd := c_api_IP) (q := z_api_IP) (by kernel_rfl) rfl Ty27 (At.whole _) (.tmp (by kernel_rfl) .nil)) rfl)
  · refine SJ.skip ?_
    refine SJ.seq ?_
    refine SJ.sr 3 ?_
    refine OJ.go 1 [(14, .string a0)] ?_
    refine OJ.call (d := 15) (g := 37) (ats := #[9, 9]) (args := [.tmp 14, .const (.string str4)]) (owed := []) F37 (strings_Contains_ok a0 str4) (fun r4 => ?_)
    refine OW.nil ?_
    refine OJ.go 1 [(16, .bool (!r4))] ?_
    refine OJ.nil ?_
    refine SJ.cond (t := (.tmp 16)) (b := (!r4)) (bnot_iff Iff.rfl) (fun hc15 => ?_) (fun hc15 => ?_)
    · refine SJ.sr 8 ?_
      refine OJ.go 1 [(18, .string a0)] ?_
      refine OJ.call (d := 19) (g := 38) (ats := #[9, 3]) (args := [.tmp 18, .const (.int .i64 0)]) (owed := []) F38 (addr_four_ok a0 0) (fun r8 => ?_)
      refine OW.nil ?_
      refine OJ.go 3 [(21, .pointer r8.2), (20, ((cI .u8).arr 4).val r8.1), (17, .tuple #[((cI .u8).arr 4).val r8.1, .pointer r8.2])] ?_
      refine OJ.slotOf (d := 4) (op := (.alloc 86)) (cd := ((cI .u8).arr 4)) (u := (Vec.rep 4 0)) (owed := []) (alloc_run Ty86) (fun b9 => ?_)
      refine OW.nil ?_
      refine OJ.kst (y := .tmp 4) (z := .tmp 20) (cd := ((cI .u8).arr 4)) (u := r8.1) (j := 0) (b := b9) (o := 0) (((cI .u8).arr 4).enc r8.1) (owed := []) Ty86 rfl (Upd.whole ((Cod.len _ _).trans (Cod.len _ _).symm)) rfl ?_
      refine OW.nil ?_
      refine OJ.go 1 [(5, .pointer r8.2)] ?_
      refine OJ.nil ?_
      refine SJ.seq ?_
      refine SJ.sr 2 ?_
      refine OJ.go 2 [(23, .bool (!(Option.isNone r8.2))), (22, .pointer r8.2)] ?_
      refine OJ.nil ?_
      refine SJ.cond (t := (.tmp 23)) (b := (!(Option.isNone r8.2))) (bnot_iff Option.isNone_iff_eq_none) (fun hc10 => ?_) (fun hc10 => ?_)
      · refine SJ.sr 4 ?_
        refine OJ.build (d := 24) (T := 27) (parts := []) (ps := []) (cd := c_api_IP) (z0 := z_api_IP) z_api_IP Ty27 rfl Filled.nil ?_
        refine OJ.go 1 [(25, .pointer r8.2)] ?_
        refine OJ.kst (y := .tmp 2) (z := .tmp 24) (cd := c_api_IP) (u := z_api_IP) (j := 1) (b := b1) (o := 0) (c_api_IP.enc z_api_IP) (owed := []) Ty27 rfl (Upd.whole ((Cod.len _ _).trans (Cod.len _ _).symm)) rfl ?_
        refine OW.nil ?_
        refine OJ.go 1 [(3, .pointer r8.2)] ?_
        refine OJ.nil ?_
        exact SJ.ret rfl (Res.run (ys := [c_api_IP.val z_api_IP, .pointer r8.2]) (.cell (j := 1) (b := b1) (cd := c_api_IP) (q := z_api_IP) (by kernel_rfl) rfl Ty27 (At.whole _) (.tmp (by kernel_rfl) .nil)) rfl)
      · refine SJ.skip ?_
        refine SJ.sr 12 ?_
        refine OJ.go 1 [(26, .pointer (some (pt b9 0)))] ?_
        refine OJ.kld (d := 27) (y := .tmp 26) (cd := (cI .u8)) (j := 0) (b := b9) (o := 0) (Vec.g r8.1 0 0) (pend2 := []) Ty5 rfl (At.zero (At.arr (z := 0) (by decide) (by decide))) rfl ?_
        refine OJ.go 1 [(28, .pointer (some (pt b9 1)))] ?_
        refine OJ.kld (d := 29) (y := .tmp 28) (cd := (cI .u8)) (j := 0) (b := b9) (o := 1) (Vec.g r8.1 1 0) (pend2 := []) Ty5 rfl (At.zero (At.arr (z := 0) (by decide) (by decide))) rfl ?_
        refine OJ.go 1 [(30, .pointer (some (pt b9 2)))] ?_
        refine OJ.kld (d := 31) (y := .tmp 30) (cd := (cI .u8)) (j := 0) (b := b9) (o := 2) (Vec.g r8.1 2 0) (pend2 := []) Ty5 rfl (At.zero (At.arr (z := 0) (by decide) (by decide))) rfl ?_
        refine OJ.go 1 [(32, .pointer (some (pt b9 3)))] ?_
        refine OJ.kld (d := 33) (y := .tmp 32) (cd := (cI .u8)) (j := 0) (b := b9) (o := 3) (Vec.g r8.1 3 0) (pend2 := []) Ty5 rfl (At.zero (At.arr (z := 0) (by decide) (by decide))) rfl ?_
        refine OJ.build (d := 34) (T := 22) (parts := [(0, .tmp 27), (1, .tmp 29), (2, .tmp 31), (3, .tmp 33)]) (ps := [(0, (cI .u8).val (Vec.g r8.1 0 0)), (1, (cI .u8).val (Vec.g r8.1 1 0)), (2, (cI .u8).val (Vec.g r8.1 2 0)), (3, (cI .u8).val (Vec.g r8.1 3 0))]) (cd := ((cI .u8).arr 16)) (z0 := (Vec.rep 16 0)) (⟨[(Vec.g r8.1 0 0), (Vec.g r8.1 1 0), (Vec.g r8.1 2 0), (Vec.g r8.1 3 0), 0, 0, 0, 0, 0, 0, 0, 0, 0, 0, 0, 0], rfl⟩ : (Vec Int 16)) Ty22 rfl (Filled.cons (cd := (cI .u8)) (q := (Vec.g r8.1 0 0)) (o := 0) (by kernel_rfl) (Upd.arr (i := 0) (by decide) (by decide)) (Filled.cons (cd := (cI .u8)) (q := (Vec.g r8.1 1 0)) (o := 1) (by kernel_rfl) (Upd.arr (i := 1) (by decide) (by decide)) (Filled.cons (cd := (cI .u8)) (q := (Vec.g r8.1 2 0)) (o := 2) (by kernel_rfl) (Upd.arr (i := 2) (by decide) (by decide)) (Filled.cons (cd := (cI .u8)) (q := (Vec.g r8.1 3 0)) (o := 3) (by kernel_rfl) (Upd.arr (i := 3) (by decide) (by decide)) Filled.nil)))) ?_
        refine OJ.build (d := 35) (T := 27) (parts := [(0, .const (.int .i64 4)), (1, .tmp 34)]) (ps := [(0, (cI .i64).val 4), (1, ((cI .u8).arr 16).val (⟨[(Vec.g r8.1 0 0), (Vec.g r8.1 1 0), (Vec.g r8.1 2 0), (Vec.g r8.1 3 0), 0, 0, 0, 0, 0, 0, 0, 0, 0, 0, 0, 0], rfl⟩ : (Vec Int 16)))]) (cd := c_api_IP) (z0 := z_api_IP) (⟨4, (⟨[(Vec.g r8.1 0 0), (Vec.g r8.1 1 0), (Vec.g r8.1 2 0), (Vec.g r8.1 3 0), 0, 0, 0, 0, 0, 0, 0, 0, 0, 0, 0, 0], rfl⟩ : (Vec Int 16))⟩ : api_IP) Ty27 rfl (Filled.cons (cd := (cI .i64)) (q := 4) (o := 0) (by kernel_rfl) (Up_api_IP_V z_api_IP 4) (Filled.cons (cd := ((cI .u8).arr 16)) (q := (⟨[(Vec.g r8.1 0 0), (Vec.g r8.1 1 0), (Vec.g r8.1 2 0), (Vec.g r8.1 3 0), 0, 0, 0, 0, 0, 0, 0, 0, 0, 0, 0, 0], rfl⟩ : (Vec Int 16))) (o := 1) (by kernel_rfl) (Up_api_IP_A (⟨4, z_api_IP.A⟩ : api_IP) (⟨[(Vec.g r8.1 0 0), (Vec.g r8.1 1 0), (Vec.g r8.1 2 0), (Vec.g r8.1 3 0), 0, 0, 0, 0, 0, 0, 0, 0, 0, 0, 0, 0], rfl⟩ : (Vec Int 16))) Filled.nil)) ?_
        refine OJ.kst (y := .tmp 2) (z := .tmp 35) (cd := c_api_IP) (u := (⟨4, (⟨[(Vec.g r8.1 0 0), (Vec.g r8.1 1 0), (Vec.g r8.1 2 0), (Vec.g r8.1 3 0), 0, 0, 0, 0, 0, 0, 0, 0, 0, 0, 0, 0], rfl⟩ : (Vec Int 16))⟩ : api_IP)) (j := 1) (b := b1) (o := 0) (c_api_IP.enc (⟨4, (⟨[(Vec.g r8.1 0 0), (Vec.g r8.1 1 0), (Vec.g r8.1 2 0), (Vec.g r8.1 3 0), 0, 0, 0, 0, 0, 0, 0, 0, 0, 0, 0, 0], rfl⟩ : (Vec Int 16))⟩ : api_IP)) (owed := []) Ty27 rfl (Upd.whole ((Cod.len _ _).trans (Cod.len _ _).symm)) rfl ?_
        refine OW.nil ?_
        refine OJ.go 1 [(3, .pointer none)] ?_
        refine OJ.nil ?_
        exact SJ.ret rfl (Res.run (ys := [c_api_IP.val (⟨4, (⟨[(Vec.g r8.1 0 0), (Vec.g r8.1 1 0), (Vec.g r8.1 2 0), (Vec.g r8.1 3 0), 0, 0, 0, 0, 0, 0, 0, 0, 0, 0, 0, 0], rfl⟩ : (Vec Int 16))⟩ : api_IP), .pointer none]) (.cell (j := 1) (b := b1) (cd := c_api_IP) (q := (⟨4, (⟨[(Vec.g r8.1 0 0), (Vec.g r8.1 1 0), (Vec.g r8.1 2 0), (Vec.g r8.1 3 0), 0, 0, 0, 0, 0, 0, 0, 0, 0, 0, 0, 0], rfl⟩ : (Vec Int 16))⟩ : api_IP)) (by kernel_rfl) rfl Ty27 (At.whole _) (.tmp (by kernel_rfl) .nil)) rfl)
    · refine SJ.skip ?_
      refine SJ.sr 4 ?_
      refine OJ.go 1 [(36, .string a0)] ?_
      refine OJ.build (d := 37) (T := 91) (parts := [(0, .tmp 36), (3, .const (.int .i64 (-1)))]) (ps := [(0, cS.val a0), (3, (cI .i64).val (-1))]) (cd := c_addr_six) (z0 := z_addr_six) (⟨a0, z_addr_six.at_, z_addr_six.groups, (-1)⟩ : addr_six) Ty91 rfl (Filled.cons (cd := cS) (q := a0) (o := 0) (by kernel_rfl) (Up_addr_six_s z_addr_six a0) (Filled.cons (cd := (cI .i64)) (q := (-1)) (o := 3) (by kernel_rfl) (Up_addr_six_gap (⟨a0, z_addr_six.at_, z_addr_six.groups, z_addr_six.gap⟩ : addr_six) (-1)) Filled.nil)) ?_
      refine OJ.newOf (d := 38) (op := (.box 91 (.tmp 37))) (cd := c_addr_six) (u := (⟨a0, z_addr_six.at_, z_addr_six.groups, (-1)⟩ : addr_six)) (owed := []) (box_run (by kernel_rfl)) (fun b11 => ?_)
      refine OW.nil ?_
      refine OJ.go 1 [(6, .pointer (some (pt b11 0)))] ?_
      refine OJ.nil ?_
      refine SJ.seq ?_
      refine SJ.sr 3 ?_
      refine OJ.go 1 [(39, .pointer (some (pt b11 0)))] ?_
      refine OJ.call (d := 40) (g := 39) (ats := #[89]) (args := [.tmp 39]) (owed := []) F39 (addr_six_read_ok (some (pt b11 0))) (fun r12 => ?_)
      refine OW.nil ?_
      refine OJ.go 1 [(7, .pointer r12)] ?_
      refine OJ.nil ?_
      refine SJ.sr 2 ?_
      refine OJ.go 2 [(42, .bool (!(Option.isNone r12))), (41, .pointer r12)] ?_
      refine OJ.nil ?_
      refine SJ.cond (t := (.tmp 42)) (b := (!(Option.isNone r12))) (bnot_iff Option.isNone_iff_eq_none) (fun hc14 => ?_) (fun hc14 => ?_)
      · refine SJ.sr 4 ?_
        refine OJ.build (d := 43) (T := 27) (parts := []) (ps := []) (cd := c_api_IP) (z0 := z_api_IP) z_api_IP Ty27 rfl Filled.nil ?_
        refine OJ.go 1 [(44, .pointer r12)] ?_
        refine OJ.kst (y := .tmp 2) (z := .tmp 43) (cd := c_api_IP) (u := z_api_IP) (j := 0) (b := b1) (o := 0) (c_api_IP.enc z_api_IP) (owed := []) Ty27 rfl (Upd.whole ((Cod.len _ _).trans (Cod.len _ _).symm)) rfl ?_
        refine OW.nil ?_
        refine OJ.go 1 [(3, .pointer r12)] ?_
        refine OJ.nil ?_
        exact SJ.ret rfl (Res.run (ys := [c_api_IP.val z_api_IP, .pointer r12]) (.cell (j := 0) (b := b1) (cd := c_api_IP) (q := z_api_IP) (by kernel_rfl) rfl Ty27 (At.whole _) (.tmp (by kernel_rfl) .nil)) rfl)
      · refine SJ.skip ?_
        refine SJ.sr 5 ?_
        refine OJ.go 1 [(45, .pointer (some (pt b11 0)))] ?_
        refine OJ.call (d := 46) (g := 40) (ats := #[89]) (args := [.tmp 45]) (owed := []) F40 (addr_six_bytes_ok (some (pt b11 0))) (fun r13 => ?_)
        refine OW.nil ?_
        refine OJ.build (d := 47) (T := 27) (parts := [(0, .const (.int .i64 6)), (1, .tmp 46)]) (ps := [(0, (cI .i64).val 6), (1, ((cI .u8).arr 16).val r13)]) (cd := c_api_IP) (z0 := z_api_IP) (⟨6, r13⟩ : api_IP) Ty27 rfl (Filled.cons (cd := (cI .i64)) (q := 6) (o := 0) (by kernel_rfl) (Up_api_IP_V z_api_IP 6) (Filled.cons (cd := ((cI .u8).arr 16)) (q := r13) (o := 1) (by kernel_rfl) (Up_api_IP_A (⟨6, z_api_IP.A⟩ : api_IP) r13) Filled.nil)) ?_
        refine OJ.kst (y := .tmp 2) (z := .tmp 47) (cd := c_api_IP) (u := (⟨6, r13⟩ : api_IP)) (j := 0) (b := b1) (o := 0) (c_api_IP.enc (⟨6, r13⟩ : api_IP)) (owed := []) Ty27 rfl (Upd.whole ((Cod.len _ _).trans (Cod.len _ _).symm)) rfl ?_
        refine OW.nil ?_
        refine OJ.go 1 [(3, .pointer none)] ?_
        refine OJ.nil ?_
        exact SJ.ret rfl (Res.run (ys := [c_api_IP.val (⟨6, r13⟩ : api_IP), .pointer none]) (.cell (j := 0) (b := b1) (cd := c_api_IP) (q := (⟨6, r13⟩ : api_IP)) (by kernel_rfl) rfl Ty27 (At.whole _) (.tmp (by kernel_rfl) .nil)) rfl)

/-! ### weir/addr.ParseIP: function 10 -/
noncomputable def addr_ParseIP.B : Code := (Tryd.f10.body).getD .skip
noncomputable def addr_ParseIP.cx : Fx := ⟨Tryd.prog, 10, Tryd.f10⟩
noncomputable def addr_ParseIP.out (r_ : (api_IP × Int × Int)) : Value := .tuple #[c_api_IP.val r_.1, .int .i64 r_.2.1, .int .i64 r_.2.2]
noncomputable def addr_ParseIP.F0 (r_ : (api_IP × Int × Int)) : Reach := .ret (addr_ParseIP.out r_)
noncomputable def addr_ParseIP (a0 : ByteArray) : M (api_IP × Int × Int) :=
  slot 27 >>= fun b1 =>
  addr_parse a0 >>= fun r2 =>
  slot 27 >>= fun b3 =>
  if ¬ (r2.2 = none) then
    draw >>= fun _ =>
    nilck r2.2 >>= fun p8 =>
    ld (cI .i64) p8 >>= fun x9 =>
    nilck r2.2 >>= fun p10 =>
    ld (cI .i64) (Addr.add p10 1) >>= fun x11 =>
    same (cI .i64) (Addr.add p10 1) x11 >>= fun _ =>
    same (cI .i64) p8 x9 >>= fun _ =>
    pure (z_api_IP, x9, x11)
  else
    pure (r2.1, 0, 0)
theorem addr_ParseIP_ok (a0 : ByteArray) : Ref Tryd.prog 10 [.string a0] (addr_ParseIP a0) addr_ParseIP.out := by
  refine Ref.of (cd := addr_ParseIP.B) Tryd.func10 ?_
  show SJ addr_ParseIP.cx [.code addr_ParseIP.B] [(0, .string a0)] [] (addr_ParseIP a0) addr_ParseIP.F0
  unfold addr_ParseIP
  refine SJ.sr 3 ?_
  refine OJ.slotOf (d := 2) (op := (.alloc 27)) (cd := c_api_IP) (u := z_api_IP) (owed := []) (alloc_run Ty27) (fun b1 => ?_)
  refine OW.nil ?_
  refine OJ.go 2 [(4, .int .i64 0), (3, .int .i64 0)] ?_
  refine OJ.nil ?_
  refine SJ.sr 8 ?_
  refine OJ.go 1 [(8, .string a0)] ?_
  refine OJ.call (d := 9) (g := 23) (ats := #[9]) (args := [.tmp 8]) (owed := []) F23 (addr_parse_ok a0) (fun r2 => ?_)
  refine OW.nil ?_
  refine OJ.go 3 [(11, .pointer r2.2), (10, c_api_IP.val r2.1), (7, .tuple #[c_api_IP.val r2.1, .pointer r2.2])] ?_
  refine OJ.slotOf (d := 5) (op := (.alloc 27)) (cd := c_api_IP) (u := z_api_IP) (owed := []) (alloc_run Ty27) (fun b3 => ?_)
  refine OW.nil ?_
  refine OJ.kst (y := .tmp 5) (z := .tmp 10) (cd := c_api_IP) (u := r2.1) (j := 0) (b := b3) (o := 0) (c_api_IP.enc r2.1) (owed := []) Ty27 rfl (Upd.whole ((Cod.len _ _).trans (Cod.len _ _).symm)) rfl ?_
  refine OW.nil ?_
  refine OJ.go 1 [(6, .pointer r2.2)] ?_
  refine OJ.nil ?_
  refine SJ.seq ?_
  refine SJ.sr 2 ?_
  refine OJ.go 2 [(13, .bool (!(Option.isNone r2.2))), (12, .pointer r2.2)] ?_
  refine OJ.nil ?_
  refine SJ.cond (t := (.tmp 13)) (b := (!(Option.isNone r2.2))) (bnot_iff Option.isNone_iff_eq_none) (fun hc12 => ?_) (fun hc12 => ?_)
  · refine SJ.seq ?_
    refine SJ.draw (id := 3) (kd := [0, 0, 0, 0, 1, 0, 0, 0, 1, 2, 0, 0]) (bef := [0, 0, 2, 6, 14, 0, 32, 96, 224, 1, 543, 2047]) (ord := [0, 1, 2, 3, 4, 5, 6, 7, 8, 9, 10, 11]) mixed ?_
    refine OJ.build (d := 14) (T := 27) (parts := []) (ps := []) (cd := c_api_IP) (z0 := z_api_IP) z_api_IP Ty27 rfl Filled.nil ?_
    refine OJ.go 1 [(15, .pointer r2.2)] ?_
    refine OJ.nilck (d := 16) (y := .tmp 15) (fun p8 => ?_)
    refine OJ.go 1 [(17, .pointer (some p8))] ?_
    refine OJ.ld (d := 18) (y := .tmp 17) (pend2 := fun x9 => [⟨4, 28, p8, (cI .i64).val x9⟩]) Ty28 (fun _ => rfl) (fun x9 => ?_)
    refine OJ.go 1 [(19, .pointer r2.2)] ?_
    refine OJ.nilck (d := 20) (y := .tmp 19) (fun p10 => ?_)
    refine OJ.go 1 [(21, .pointer (some (Addr.add p10 1)))] ?_
    refine OJ.ld (d := 22) (y := .tmp 21) (pend2 := fun x11 => [⟨8, 3, (Addr.add p10 1), (cI .i64).val x11⟩, ⟨4, 28, p8, (cI .i64).val x9⟩]) Ty3 (fun _ => rfl) (fun x11 => ?_)
    refine OJ.kst (y := .tmp 2) (z := .tmp 14) (cd := c_api_IP) (u := z_api_IP) (j := 1) (b := b1) (o := 0) (c_api_IP.enc z_api_IP) (owed := [⟨8, 3, (Addr.add p10 1), (cI .i64).val x11⟩, ⟨4, 28, p8, (cI .i64).val x9⟩]) Ty27 rfl (Upd.whole ((Cod.len _ _).trans (Cod.len _ _).symm)) rfl ?_
    refine OW.same Ty3 ?_
    refine OW.same Ty28 ?_
    refine OW.nil ?_
    refine OJ.go 2 [(4, .int .i64 x11), (3, .int .i64 x9)] ?_
    refine OJ.nil ?_
    exact SJ.ret rfl (Res.run (ys := [c_api_IP.val z_api_IP, .int .i64 x9, .int .i64 x11]) (.cell (j := 1) (b := b1) (cd := c_api_IP) (q := z_api_IP) (by kernel_rfl) rfl Ty27 (At.whole _) (.tmp (by kernel_rfl) (.tmp (by kernel_rfl) .nil))) rfl)
  · refine SJ.skip ?_
    refine SJ.sr 4 ?_
    refine OJ.kld (d := 23) (y := .tmp 5) (cd := c_api_IP) (j := 0) (b := b3) (o := 0) r2.1 (pend2 := []) Ty27 rfl (At.whole _) rfl ?_
    refine OJ.kst (y := .tmp 2) (z := .tmp 23) (cd := c_api_IP) (u := r2.1) (j := 1) (b := b1) (o := 0) (c_api_IP.enc r2.1) (owed := []) Ty27 rfl (Upd.whole ((Cod.len _ _).trans (Cod.len _ _).symm)) rfl ?_
    refine OW.nil ?_
    refine OJ.go 2 [(4, .int .i64 0), (3, .int .i64 0)] ?_
    refine OJ.nil ?_
    exact SJ.ret rfl (Res.run (ys := [c_api_IP.val r2.1, .int .i64 0, .int .i64 0]) (.cell (j := 1) (b := b1) (cd := c_api_IP) (q := r2.1) (by kernel_rfl) rfl Ty27 (At.whole _) (.tmp (by kernel_rfl) (.tmp (by kernel_rfl) .nil))) rfl)

/-! ### weir/weirlaw4.loop: function 24 -/
noncomputable def weirlaw4_loop.B : Code := (Tryd.f24.body).getD .skip
noncomputable def weirlaw4_loop.cx : Fx := ⟨Tryd.prog, 24, Tryd.f24⟩
noncomputable def weirlaw4_loop.out (r_ : api_IP) : Value := c_api_IP.val r_
noncomputable def weirlaw4_loop.F0 (r_ : api_IP) : Reach := .ret (weirlaw4_loop.out r_)
noncomputable def weirlaw4_loop  : M api_IP :=
  slot 27 >>= fun b1 =>
  pure (⟨4, (⟨[127, 0, 0, 1, 0, 0, 0, 0, 0, 0, 0, 0, 0, 0, 0, 0], rfl⟩ : (Vec Int 16))⟩ : api_IP)
theorem weirlaw4_loop_ok  : Ref Tryd.prog 24 [] (weirlaw4_loop) weirlaw4_loop.out := by
  refine Ref.of (cd := weirlaw4_loop.B) Tryd.func24 ?_
  show SJ weirlaw4_loop.cx [.code weirlaw4_loop.B] [] [] (weirlaw4_loop) weirlaw4_loop.F0
  unfold weirlaw4_loop
  refine SJ.sr 1 ?_
  refine OJ.slotOf (d := 0) (op := (.alloc 27)) (cd := c_api_IP) (u := z_api_IP) (owed := []) (alloc_run Ty27) (fun b1 => ?_)
  refine OW.nil ?_
  refine OJ.nil ?_
  refine SJ.sr 3 ?_
  refine OJ.build (d := 1) (T := 22) (parts := [(0, .const (.int .u8 127)), (1, .const (.int .u8 0)), (2, .const (.int .u8 0)), (3, .const (.int .u8 1))]) (ps := [(0, (cI .u8).val 127), (1, (cI .u8).val 0), (2, (cI .u8).val 0), (3, (cI .u8).val 1)]) (cd := ((cI .u8).arr 16)) (z0 := (Vec.rep 16 0)) (⟨[127, 0, 0, 1, 0, 0, 0, 0, 0, 0, 0, 0, 0, 0, 0, 0], rfl⟩ : (Vec Int 16)) Ty22 rfl (Filled.cons (cd := (cI .u8)) (q := 127) (o := 0) (by kernel_rfl) (Upd.arr (i := 0) (by decide) (by decide)) (Filled.cons (cd := (cI .u8)) (q := 0) (o := 1) (by kernel_rfl) (Upd.arr (i := 1) (by decide) (by decide)) (Filled.cons (cd := (cI .u8)) (q := 0) (o := 2) (by kernel_rfl) (Upd.arr (i := 2) (by decide) (by decide)) (Filled.cons (cd := (cI .u8)) (q := 1) (o := 3) (by kernel_rfl) (Upd.arr (i := 3) (by decide) (by decide)) Filled.nil)))) ?_
  refine OJ.build (d := 2) (T := 27) (parts := [(0, .const (.int .i64 4)), (1, .tmp 1)]) (ps := [(0, (cI .i64).val 4), (1, ((cI .u8).arr 16).val (⟨[127, 0, 0, 1, 0, 0, 0, 0, 0, 0, 0, 0, 0, 0, 0, 0], rfl⟩ : (Vec Int 16)))]) (cd := c_api_IP) (z0 := z_api_IP) (⟨4, (⟨[127, 0, 0, 1, 0, 0, 0, 0, 0, 0, 0, 0, 0, 0, 0, 0], rfl⟩ : (Vec Int 16))⟩ : api_IP) Ty27 rfl (Filled.cons (cd := (cI .i64)) (q := 4) (o := 0) (by kernel_rfl) (Up_api_IP_V z_api_IP 4) (Filled.cons (cd := ((cI .u8).arr 16)) (q := (⟨[127, 0, 0, 1, 0, 0, 0, 0, 0, 0, 0, 0, 0, 0, 0, 0], rfl⟩ : (Vec Int 16))) (o := 1) (by kernel_rfl) (Up_api_IP_A (⟨4, z_api_IP.A⟩ : api_IP) (⟨[127, 0, 0, 1, 0, 0, 0, 0, 0, 0, 0, 0, 0, 0, 0, 0], rfl⟩ : (Vec Int 16))) Filled.nil)) ?_
  refine OJ.kst (y := .tmp 0) (z := .tmp 2) (cd := c_api_IP) (u := (⟨4, (⟨[127, 0, 0, 1, 0, 0, 0, 0, 0, 0, 0, 0, 0, 0, 0, 0], rfl⟩ : (Vec Int 16))⟩ : api_IP)) (j := 0) (b := b1) (o := 0) (c_api_IP.enc (⟨4, (⟨[127, 0, 0, 1, 0, 0, 0, 0, 0, 0, 0, 0, 0, 0, 0, 0], rfl⟩ : (Vec Int 16))⟩ : api_IP)) (owed := []) Ty27 rfl (Upd.whole ((Cod.len _ _).trans (Cod.len _ _).symm)) rfl ?_
  refine OW.nil ?_
  refine OJ.nil ?_
  exact SJ.ret rfl (Res.run (ys := [c_api_IP.val (⟨4, (⟨[127, 0, 0, 1, 0, 0, 0, 0, 0, 0, 0, 0, 0, 0, 0, 0], rfl⟩ : (Vec Int 16))⟩ : api_IP)]) (.cell (j := 0) (b := b1) (cd := c_api_IP) (q := (⟨4, (⟨[127, 0, 0, 1, 0, 0, 0, 0, 0, 0, 0, 0, 0, 0, 0, 0], rfl⟩ : (Vec Int 16))⟩ : api_IP)) (by kernel_rfl) rfl Ty27 (At.whole _) .nil) rfl)

/-! ### weir/addr.size: function 26 -/
noncomputable def addr_size.B : Code := (Tryd.f26.body).getD .skip
noncomputable def addr_size.cx : Fx := ⟨Tryd.prog, 26, Tryd.f26⟩
noncomputable def addr_size.out (r_ : Int) : Value := .int .i64 r_
noncomputable def addr_size.F0 (r_ : Int) : Reach := .ret (addr_size.out r_)
noncomputable def addr_size (a0 : api_IP) : M Int :=
  newv 27 c_api_IP a0 >>= fun b1 =>
  ld (cI .i64) (pt b1 0) >>= fun x2 =>
  if x2 = 6 then
    pure 128
  else
    ld (cI .i64) (pt b1 0) >>= fun x3 =>
    (if x3 ≠ 4 then
        pure true
      else
        cut 1 ⟨some (Addr.add (pt b1 0) 1), 16, 16⟩ (some 4) none none >>= fun r4 =>
        (chk (12 ≤ r4.len) >>= fun _ => nilck r4.a) >>= fun p5 =>
        ld ((cI .u8).arr 12) p5 >>= fun x6 =>
        pure (!eqv x6 (⟨[0, 0, 0, 0, 0, 0, 0, 0, 0, 0, 0, 0], rfl⟩ : (Vec Int 12)))) >>= fun y7 =>
    if y7 = true then
      pure 0
    else
      pure 32
theorem addr_size_ok (a0 : api_IP) : Ref Tryd.prog 26 [c_api_IP.val a0] (addr_size a0) addr_size.out := by
  refine Ref.of (cd := addr_size.B) Tryd.func26 ?_
  show SJ addr_size.cx [.code addr_size.B] [(0, c_api_IP.val a0)] [] (addr_size a0) addr_size.F0
  unfold addr_size
  refine SJ.sr 2 ?_
  refine OJ.newOf (d := 1) (op := (.box 27 (.tmp 0))) (cd := c_api_IP) (u := a0) (owed := []) (box_run (by kernel_rfl)) (fun b1 => ?_)
  refine OW.nil ?_
  refine OJ.go 1 [(2, .int .i64 0)] ?_
  refine OJ.nil ?_
  refine SJ.seq ?_
  refine SJ.sr 3 ?_
  refine OJ.go 1 [(3, .pointer (some (pt b1 0)))] ?_
  refine OJ.ld (d := 4) (y := .tmp 3) (pend2 := fun x2 => []) Ty3 (fun _ => rfl) (fun x2 => ?_)
  refine OJ.go 1 [(5, .bool (x2 == 6))] ?_
  refine OJ.nil ?_
  refine SJ.cond (t := (.tmp 5)) (b := (x2 == 6)) beq_iff_eq (fun hc9 => ?_) (fun hc9 => ?_)
  · refine SJ.sr 1 ?_
    refine OJ.go 1 [(2, .int .i64 128)] ?_
    refine OJ.nil ?_
    exact SJ.ret rfl (Res.run (ys := [.int .i64 128]) (.tmp (by kernel_rfl) .nil) rfl)
  · refine SJ.skip ?_
    refine SJ.seq ?_
    refine SJ.sr 11 ?_
    refine OJ.go 1 [(6, .pointer (some (pt b1 0)))] ?_
    refine OJ.ld (d := 7) (y := .tmp 6) (pend2 := fun x3 => []) Ty3 (fun _ => rfl) (fun x3 => ?_)
    refine OJ.go 2 [(9, .bool (x3 != 4)), (8, .bool (x3 != 4))] ?_
    refine OJ.join (b := (x3 != 4)) [4, 5, 6, 7, 8, 9, 10] [] [16] (fun y7 => [(16, .bool y7)]) [] [] (t := 9) bne_iff_ne (fun hp_ => ?_) (fun hp_ => ?_) (fun _ _ _ _ _ _ h_ => h_) (fun y7 => ?_)
    · refine OJ.go 7 [(16, .bool true), (15, undef), (14, undef), (13, undef), (12, undef), (11, undef), (10, undef)] ?_
      exact OJ.nil ⟨(Cov.mem Cov.nil), rfl, _, rfl, by kernel_rfl⟩
    · refine OJ.go 1 [(10, .pointer (some (Addr.add (pt b1 0) 1)))] ?_
      refine OJ.cutA (d := 11) (t := 22) (E := 5) (y := .tmp 10) (lo := (some (.const (.int .i64 4)))) (hi := none) (mx := none) (lo' := some (.i64, 4)) (hi' := none) (mx' := none) (fun h => by cases h) (fun r4 => ?_)
      refine OJ.toArr (d := 12) (t := 66) (E := 5) (y := .tmp 11) (s := r4) (fun p5 => ?_)
      refine OJ.ld (d := 13) (y := .tmp 12) (pend2 := fun x6 => []) Ty66 (fun _ => rfl) (fun x6 => ?_)
      refine OJ.build (d := 14) (T := 66) (parts := []) (ps := []) (cd := ((cI .u8).arr 12)) (z0 := (Vec.rep 12 0)) (⟨[0, 0, 0, 0, 0, 0, 0, 0, 0, 0, 0, 0], rfl⟩ : (Vec Int 12)) Ty66 rfl Filled.nil ?_
      refine OJ.neq (d := 15) (T := 66) (yT := 66) (y := .tmp 13) (z := .tmp 14) (cd := ((cI .u8).arr 12)) (p := x6) (q := (⟨[0, 0, 0, 0, 0, 0, 0, 0, 0, 0, 0, 0], rfl⟩ : (Vec Int 12))) rfl Eq66 ?_
      refine OJ.go 1 [(16, .bool (!eqv x6 (⟨[0, 0, 0, 0, 0, 0, 0, 0, 0, 0, 0, 0], rfl⟩ : (Vec Int 12))))] ?_
      exact OJ.nil ⟨(Cov.mem Cov.nil), rfl, _, rfl, by kernel_rfl⟩
    · refine OJ.nil ?_
      refine SJ.cond (t := (.tmp 16)) (b := y7) Iff.rfl (fun hc8 => ?_) (fun hc8 => ?_)
      · refine SJ.sr 1 ?_
        refine OJ.go 1 [(2, .int .i64 0)] ?_
        refine OJ.nil ?_
        exact SJ.ret rfl (Res.run (ys := [.int .i64 0]) (.tmp (by kernel_rfl) .nil) rfl)
      · refine SJ.skip ?_
        refine SJ.sr 1 ?_
        refine OJ.go 1 [(2, .int .i64 32)] ?_
        refine OJ.nil ?_
        exact SJ.ret rfl (Res.run (ys := [.int .i64 32]) (.tmp (by kernel_rfl) .nil) rfl)

/-! ### weir/addr.Valid: function 19 -/
noncomputable def addr_Valid.B : Code := (Tryd.f19.body).getD .skip
noncomputable def addr_Valid.cx : Fx := ⟨Tryd.prog, 19, Tryd.f19⟩
noncomputable def addr_Valid.out (r_ : Bool) : Value := .bool r_
noncomputable def addr_Valid.F0 (r_ : Bool) : Reach := .ret (addr_Valid.out r_)
noncomputable def addr_Valid (a0 : api_IP) : M Bool :=
  slot 27 >>= fun b1 =>
  addr_size a0 >>= fun r2 =>
  pure (decide (r2 > 0))
theorem addr_Valid_ok (a0 : api_IP) : Ref Tryd.prog 19 [c_api_IP.val a0] (addr_Valid a0) addr_Valid.out := by
  refine Ref.of (cd := addr_Valid.B) Tryd.func19 ?_
  show SJ addr_Valid.cx [.code addr_Valid.B] [(0, c_api_IP.val a0)] [] (addr_Valid a0) addr_Valid.F0
  unfold addr_Valid
  refine SJ.sr 2 ?_
  refine OJ.slotOf (d := 1) (op := (.box 27 (.tmp 0))) (cd := c_api_IP) (u := a0) (owed := []) (box_run (by kernel_rfl)) (fun b1 => ?_)
  refine OW.nil ?_
  refine OJ.go 1 [(2, .bool false)] ?_
  refine OJ.nil ?_
  refine SJ.sr 4 ?_
  refine OJ.kld (d := 3) (y := .tmp 1) (cd := c_api_IP) (j := 0) (b := b1) (o := 0) a0 (pend2 := []) Ty27 rfl (At.whole _) rfl ?_
  refine OJ.call (d := 4) (g := 26) (ats := #[27]) (args := [.tmp 3]) (owed := []) F26 (addr_size_ok a0) (fun r2 => ?_)
  refine OW.nil ?_
  refine OJ.go 2 [(2, .bool (decide (r2 > 0))), (5, .bool (decide (r2 > 0)))] ?_
  refine OJ.nil ?_
  exact SJ.ret rfl (Res.run (ys := [.bool (decide (r2 > 0))]) (.tmp (by kernel_rfl) .nil) rfl)

/-! ### internal/strconv.small: function 59 -/
noncomputable def strconv_small.B : Code := (Tryd.f59.body).getD .skip
noncomputable def strconv_small.cx : Fx := ⟨Tryd.prog, 59, Tryd.f59⟩
noncomputable def strconv_small.out (r_ : ByteArray) : Value := .string r_
noncomputable def strconv_small.F0 (r_ : ByteArray) : Reach := .ret (strconv_small.out r_)
noncomputable def strconv_small (a0 : Int) : M ByteArray :=
  if a0 < 10 then
    chk (0 ≤ (a0 : Int) ∧ (a0 : Int) ≤ (IntKind.wrap .i64 (a0 + 1)) ∧ (IntKind.wrap .i64 (a0 + 1)) ≤ (str5.size : Int)) >>= fun _ =>
    pure (ByteArray.extract str5 (Int.toNat a0) (Int.toNat (IntKind.wrap .i64 (a0 + 1))))
  else
    chk (0 ≤ ((IntKind.wrap .i64 (a0 * 2)) : Int) ∧ ((IntKind.wrap .i64 (a0 * 2)) : Int) ≤ (IntKind.wrap .i64 ((IntKind.wrap .i64 (a0 * 2)) + 2)) ∧ (IntKind.wrap .i64 ((IntKind.wrap .i64 (a0 * 2)) + 2)) ≤ (str6.size : Int)) >>= fun _ =>
    pure (ByteArray.extract str6 (Int.toNat (IntKind.wrap .i64 (a0 * 2))) (Int.toNat (IntKind.wrap .i64 ((IntKind.wrap .i64 (a0 * 2)) + 2))))
theorem strconv_small_ok (a0 : Int) : Ref Tryd.prog 59 [.int .i64 a0] (strconv_small a0) strconv_small.out := by
  refine Ref.of (cd := strconv_small.B) Tryd.func59 ?_
  show SJ strconv_small.cx [.code strconv_small.B] [(0, .int .i64 a0)] [] (strconv_small a0) strconv_small.F0
  unfold strconv_small
  refine SJ.sr 1 ?_
  refine OJ.go 1 [(2, .string ByteArray.empty)] ?_
  refine OJ.nil ?_
  refine SJ.seq ?_
  refine SJ.sr 2 ?_
  refine OJ.go 2 [(4, .bool (decide (a0 < 10))), (3, .int .i64 a0)] ?_
  refine OJ.nil ?_
  refine SJ.cond (t := (.tmp 4)) (b := decide (a0 < 10)) decide_eq_true_iff (fun hc1 => ?_) (fun hc1 => ?_)
  · refine SJ.sr 5 ?_
    refine OJ.go 3 [(7, .int .i64 (IntKind.wrap .i64 (a0 + 1))), (6, .int .i64 a0), (5, .int .i64 a0)] ?_
    refine OJ.cutT (d := 8) (t := 9) (y := .const (.string str5)) (lo := (some (.tmp 5))) (hi := (some (.tmp 7))) (lo' := some (.i64, a0)) (hi' := some (.i64, IntKind.wrap .i64 (a0 + 1))) ?_
    refine OJ.go 1 [(2, .string (ByteArray.extract str5 (Int.toNat a0) (Int.toNat (IntKind.wrap .i64 (a0 + 1)))))] ?_
    refine OJ.nil ?_
    exact SJ.ret rfl (Res.run (ys := [.string (ByteArray.extract str5 (Int.toNat a0) (Int.toNat (IntKind.wrap .i64 (a0 + 1))))]) (.tmp (by kernel_rfl) .nil) rfl)
  · refine SJ.skip ?_
    refine SJ.sr 7 ?_
    refine OJ.go 5 [(13, .int .i64 (IntKind.wrap .i64 ((IntKind.wrap .i64 (a0 * 2)) + 2))), (12, .int .i64 (IntKind.wrap .i64 (a0 * 2))), (11, .int .i64 a0), (10, .int .i64 (IntKind.wrap .i64 (a0 * 2))), (9, .int .i64 a0)] ?_
    refine OJ.cutT (d := 14) (t := 9) (y := .const (.string str6)) (lo := (some (.tmp 10))) (hi := (some (.tmp 13))) (lo' := some (.i64, IntKind.wrap .i64 (a0 * 2))) (hi' := some (.i64, IntKind.wrap .i64 ((IntKind.wrap .i64 (a0 * 2)) + 2))) ?_
    refine OJ.go 1 [(2, .string (ByteArray.extract str6 (Int.toNat (IntKind.wrap .i64 (a0 * 2))) (Int.toNat (IntKind.wrap .i64 ((IntKind.wrap .i64 (a0 * 2)) + 2)))))] ?_
    refine OJ.nil ?_
    exact SJ.ret rfl (Res.run (ys := [.string (ByteArray.extract str6 (Int.toNat (IntKind.wrap .i64 (a0 * 2))) (Int.toNat (IntKind.wrap .i64 ((IntKind.wrap .i64 (a0 * 2)) + 2))))]) (.tmp (by kernel_rfl) .nil) rfl)

/-! ### math/bits.Len64: function 70 -/
noncomputable def bits_Len64.B : Code := (Tryd.f70.body).getD .skip
noncomputable def bits_Len64.cx : Fx := ⟨Tryd.prog, 70, Tryd.f70⟩
noncomputable def bits_Len64.out (r_ : Int) : Value := .int .i64 r_
noncomputable def bits_Len64.F0 (r_ : Int) : Reach := .ret (bits_Len64.out r_)
noncomputable def bits_Len64.K1 (j3 : Int) (j4 : Int) : M Int :=
  if j3 ≥ 256 then
    chk ((0 : Int) ≤ (IntKind.wrap .u8 (Int.fdiv j3 (2 ^ 8))) ∧ (IntKind.wrap .u8 (Int.fdiv j3 (2 ^ 8))) < (str7.size : Int)) >>= fun _ =>
    pure (IntKind.wrap .i64 ((IntKind.wrap .i64 (j4 + 8)) + (IntKind.wrap .i64 (sb str7 (IntKind.wrap .u8 (Int.fdiv j3 (2 ^ 8)))))))
  else
    chk ((0 : Int) ≤ (IntKind.wrap .u8 j3) ∧ (IntKind.wrap .u8 j3) < (str7.size : Int)) >>= fun _ =>
    pure (IntKind.wrap .i64 (j4 + (IntKind.wrap .i64 (sb str7 (IntKind.wrap .u8 j3)))))
theorem bits_Len64.K1_ok (j3 : Int) (j4 : Int) :
    SJ bits_Len64.cx [.code (c2 (c2 (c2 bits_Len64.B)))] [(0, .int .u64 j3), (2, .int .i64 j4)] [] (bits_Len64.K1 j3 j4) bits_Len64.F0 := by
  unfold bits_Len64.K1
  refine SJ.seq ?_
  refine SJ.sr 2 ?_
  refine OJ.go 2 [(14, .bool (decide (j3 ≥ 256))), (13, .int .u64 j3)] ?_
  refine OJ.nil ?_
  refine SJ.cond (t := (.tmp 14)) (b := decide (j3 ≥ 256)) decide_eq_true_iff (fun hc9 => ?_) (fun hc9 => ?_)
  · refine SJ.sr 3 ?_
    refine OJ.go 3 [(0, .int .u64 (Int.fdiv j3 (2 ^ 8))), (16, .int .u64 (Int.fdiv j3 (2 ^ 8))), (15, .int .u64 j3)] ?_
    refine OJ.nil ?_
    refine SJ.rg 3 ?_
    refine OJ.go 3 [(2, .int .i64 (IntKind.wrap .i64 (j4 + 8))), (18, .int .i64 (IntKind.wrap .i64 (j4 + 8))), (17, .int .i64 j4)] ?_
    refine OJ.nil ?_
    refine SJ.sr 7 ?_
    refine OJ.go 3 [(21, .int .u8 (IntKind.wrap .u8 (Int.fdiv j3 (2 ^ 8)))), (20, .int .u64 (Int.fdiv j3 (2 ^ 8))), (19, .int .i64 (IntKind.wrap .i64 (j4 + 8)))] ?_
    refine OJ.idxT (d := 22) (T := 9) (y := .const (.string str7)) (j := .tmp 21) (k := .u8) (fun hb5 hb6 => ?_)
    refine OJ.go 3 [(2, .int .i64 (IntKind.wrap .i64 ((IntKind.wrap .i64 (j4 + 8)) + (IntKind.wrap .i64 (sb str7 (IntKind.wrap .u8 (Int.fdiv j3 (2 ^ 8)))))))), (24, .int .i64 (IntKind.wrap .i64 ((IntKind.wrap .i64 (j4 + 8)) + (IntKind.wrap .i64 (sb str7 (IntKind.wrap .u8 (Int.fdiv j3 (2 ^ 8)))))))), (23, .int .i64 (IntKind.wrap .i64 (sb str7 (IntKind.wrap .u8 (Int.fdiv j3 (2 ^ 8))))))] ?_
    refine OJ.nil ?_
    exact SJ.ret rfl (Res.run (ys := [.int .i64 (IntKind.wrap .i64 ((IntKind.wrap .i64 (j4 + 8)) + (IntKind.wrap .i64 (sb str7 (IntKind.wrap .u8 (Int.fdiv j3 (2 ^ 8)))))))]) (.tmp (by kernel_rfl) .nil) rfl)
  · refine SJ.skip ?_
    refine SJ.sr 7 ?_
    refine OJ.go 3 [(21, .int .u8 (IntKind.wrap .u8 j3)), (20, .int .u64 j3), (19, .int .i64 j4)] ?_
    refine OJ.idxT (d := 22) (T := 9) (y := .const (.string str7)) (j := .tmp 21) (k := .u8) (fun hb7 hb8 => ?_)
    refine OJ.go 3 [(2, .int .i64 (IntKind.wrap .i64 (j4 + (IntKind.wrap .i64 (sb str7 (IntKind.wrap .u8 j3)))))), (24, .int .i64 (IntKind.wrap .i64 (j4 + (IntKind.wrap .i64 (sb str7 (IntKind.wrap .u8 j3)))))), (23, .int .i64 (IntKind.wrap .i64 (sb str7 (IntKind.wrap .u8 j3))))] ?_
    refine OJ.nil ?_
    exact SJ.ret rfl (Res.run (ys := [.int .i64 (IntKind.wrap .i64 (j4 + (IntKind.wrap .i64 (sb str7 (IntKind.wrap .u8 j3)))))]) (.tmp (by kernel_rfl) .nil) rfl)
noncomputable def bits_Len64.K2 (j1 : Int) (j2 : Int) : M Int :=
  if j1 ≥ 65536 then
    bits_Len64.K1 (Int.fdiv j1 (2 ^ 16)) (IntKind.wrap .i64 (j2 + 16))
  else
    bits_Len64.K1 j1 j2
theorem bits_Len64.K2_ok (j1 : Int) (j2 : Int) :
    SJ bits_Len64.cx [.code (c2 (c2 bits_Len64.B))] [(0, .int .u64 j1), (2, .int .i64 j2)] [] (bits_Len64.K2 j1 j2) bits_Len64.F0 := by
  unfold bits_Len64.K2
  refine SJ.seq ?_
  refine SJ.sr 2 ?_
  refine OJ.go 2 [(8, .bool (decide (j1 ≥ 65536))), (7, .int .u64 j1)] ?_
  refine OJ.nil ?_
  refine SJ.cond (t := (.tmp 8)) (b := decide (j1 ≥ 65536)) decide_eq_true_iff (fun hc10 => ?_) (fun hc10 => ?_)
  · refine SJ.sr 3 ?_
    refine OJ.go 3 [(0, .int .u64 (Int.fdiv j1 (2 ^ 16))), (10, .int .u64 (Int.fdiv j1 (2 ^ 16))), (9, .int .u64 j1)] ?_
    refine OJ.nil ?_
    refine SJ.rg 3 ?_
    refine OJ.go 3 [(2, .int .i64 (IntKind.wrap .i64 (j2 + 16))), (12, .int .i64 (IntKind.wrap .i64 (j2 + 16))), (11, .int .i64 j2)] ?_
    refine OJ.nil ?_
    refine SJ.less [0, 2] (m' := [(0, .int .u64 (Int.fdiv j1 (2 ^ 16))), (2, .int .i64 (IntKind.wrap .i64 (j2 + 16)))]) ?_
    exact bits_Len64.K1_ok (Int.fdiv j1 (2 ^ 16)) (IntKind.wrap .i64 (j2 + 16))
  · refine SJ.skip ?_
    refine SJ.less [0, 2] (m' := [(0, .int .u64 j1), (2, .int .i64 j2)]) ?_
    exact bits_Len64.K1_ok j1 j2
noncomputable def bits_Len64 (a0 : Int) : M Int :=
  if a0 ≥ 4294967296 then
    bits_Len64.K2 (Int.fdiv a0 (2 ^ 32)) 32
  else
    bits_Len64.K2 a0 0
theorem bits_Len64_ok (a0 : Int) : Ref Tryd.prog 70 [.int .u64 a0] (bits_Len64 a0) bits_Len64.out := by
  refine Ref.of (cd := bits_Len64.B) Tryd.func70 ?_
  show SJ bits_Len64.cx [.code bits_Len64.B] [(0, .int .u64 a0)] [] (bits_Len64 a0) bits_Len64.F0
  unfold bits_Len64
  refine SJ.sr 1 ?_
  refine OJ.go 1 [(2, .int .i64 0)] ?_
  refine OJ.nil ?_
  refine SJ.seq ?_
  refine SJ.sr 2 ?_
  refine OJ.go 2 [(4, .bool (decide (a0 ≥ 4294967296))), (3, .int .u64 a0)] ?_
  refine OJ.nil ?_
  refine SJ.cond (t := (.tmp 4)) (b := decide (a0 ≥ 4294967296)) decide_eq_true_iff (fun hc11 => ?_) (fun hc11 => ?_)
  · refine SJ.sr 3 ?_
    refine OJ.go 3 [(0, .int .u64 (Int.fdiv a0 (2 ^ 32))), (6, .int .u64 (Int.fdiv a0 (2 ^ 32))), (5, .int .u64 a0)] ?_
    refine OJ.nil ?_
    refine SJ.rg 1 ?_
    refine OJ.go 1 [(2, .int .i64 32)] ?_
    refine OJ.nil ?_
    refine SJ.less [0, 2] (m' := [(0, .int .u64 (Int.fdiv a0 (2 ^ 32))), (2, .int .i64 32)]) ?_
    exact bits_Len64.K2_ok (Int.fdiv a0 (2 ^ 32)) 32
  · refine SJ.skip ?_
    refine SJ.less [0, 2] (m' := [(0, .int .u64 a0), (2, .int .i64 0)]) ?_
    exact bits_Len64.K2_ok a0 0

/-! ### internal/strconv.log10Pow2: function 69 -/
noncomputable def strconv_log10Pow2.B : Code := (Tryd.f69.body).getD .skip
noncomputable def strconv_log10Pow2.cx : Fx := ⟨Tryd.prog, 69, Tryd.f69⟩
noncomputable def strconv_log10Pow2.out (r_ : Int) : Value := .int .i64 r_
noncomputable def strconv_log10Pow2.F0 (r_ : Int) : Reach := .ret (strconv_log10Pow2.out r_)
noncomputable def strconv_log10Pow2 (a0 : Int) : M Int :=
  pure (Int.fdiv (IntKind.wrap .i64 (a0 * 78913)) (2 ^ 18))
theorem strconv_log10Pow2_ok (a0 : Int) : Ref Tryd.prog 69 [.int .i64 a0] (strconv_log10Pow2 a0) strconv_log10Pow2.out := by
  refine Ref.of (cd := strconv_log10Pow2.B) Tryd.func69 ?_
  show SJ strconv_log10Pow2.cx [.code strconv_log10Pow2.B] [(0, .int .i64 a0)] [] (strconv_log10Pow2 a0) strconv_log10Pow2.F0
  unfold strconv_log10Pow2
  refine SJ.sr 1 ?_
  refine OJ.go 1 [(2, .int .i64 0)] ?_
  refine OJ.nil ?_
  refine SJ.sr 4 ?_
  refine OJ.go 4 [(2, .int .i64 (Int.fdiv (IntKind.wrap .i64 (a0 * 78913)) (2 ^ 18))), (5, .int .i64 (Int.fdiv (IntKind.wrap .i64 (a0 * 78913)) (2 ^ 18))), (4, .int .i64 (IntKind.wrap .i64 (a0 * 78913))), (3, .int .i64 a0)] ?_
  refine OJ.nil ?_
  exact SJ.ret rfl (Res.run (ys := [.int .i64 (Int.fdiv (IntKind.wrap .i64 (a0 * 78913)) (2 ^ 18))]) (.tmp (by kernel_rfl) .nil) rfl)

/-! ### internal/strconv.bool2[int]: function 71 -/
noncomputable def strconv_bool2_int.B : Code := (Tryd.f71.body).getD .skip
noncomputable def strconv_bool2_int.cx : Fx := ⟨Tryd.prog, 71, Tryd.f71⟩
noncomputable def strconv_bool2_int.out (r_ : Int) : Value := .int .i64 r_
noncomputable def strconv_bool2_int.F0 (r_ : Int) : Reach := .ret (strconv_bool2_int.out r_)
noncomputable def strconv_bool2_int (a0 : Bool) : M Int :=
  if a0 = true then
    pure 1
  else
    pure 0
theorem strconv_bool2_int_ok (a0 : Bool) : Ref Tryd.prog 71 [.bool a0] (strconv_bool2_int a0) strconv_bool2_int.out := by
  refine Ref.of (cd := strconv_bool2_int.B) Tryd.func71 ?_
  show SJ strconv_bool2_int.cx [.code strconv_bool2_int.B] [(0, .bool a0)] [] (strconv_bool2_int a0) strconv_bool2_int.F0
  unfold strconv_bool2_int
  refine SJ.sr 1 ?_
  refine OJ.go 1 [(2, .int .i64 0)] ?_
  refine OJ.nil ?_
  refine SJ.seq ?_
  refine SJ.sr 1 ?_
  refine OJ.go 1 [(3, .bool a0)] ?_
  refine OJ.nil ?_
  refine SJ.cond (t := (.tmp 3)) (b := a0) Iff.rfl (fun hc1 => ?_) (fun hc1 => ?_)
  · refine SJ.sr 1 ?_
    refine OJ.go 1 [(2, .int .i64 1)] ?_
    refine OJ.nil ?_
    exact SJ.ret rfl (Res.run (ys := [.int .i64 1]) (.tmp (by kernel_rfl) .nil) rfl)
  · refine SJ.skip ?_
    refine SJ.sr 1 ?_
    refine OJ.go 1 [(2, .int .i64 0)] ?_
    refine OJ.nil ?_
    exact SJ.ret rfl (Res.run (ys := [.int .i64 0]) (.tmp (by kernel_rfl) .nil) rfl)

/-! ### internal/strconv.numDigits: function 60 -/
noncomputable def strconv_numDigits.B : Code := (Tryd.f60.body).getD .skip
noncomputable def strconv_numDigits.cx : Fx := ⟨Tryd.prog, 60, Tryd.f60⟩
noncomputable def strconv_numDigits.out (r_ : Int) : Value := .int .i64 r_
noncomputable def strconv_numDigits.F0 (r_ : Int) : Reach := .ret (strconv_numDigits.out r_)
noncomputable def strconv_numDigits (a0 : Int) : M Int :=
  bits_Len64 a0 >>= fun r1 =>
  strconv_log10Pow2 r1 >>= fun r2 =>
  idx (some ⟨2, 0, none⟩) 20 r2 1 >>= fun p3 =>
  ld (cI .u64) p3 >>= fun x4 =>
  strconv_bool2_int (decide (a0 ≥ x4)) >>= fun r5 =>
  pure (IntKind.wrap .i64 (r2 + r5))
theorem strconv_numDigits_ok (a0 : Int) : Ref Tryd.prog 60 [.int .u64 a0] (strconv_numDigits a0) strconv_numDigits.out := by
  refine Ref.of (cd := strconv_numDigits.B) Tryd.func60 ?_
  show SJ strconv_numDigits.cx [.code strconv_numDigits.B] [(0, .int .u64 a0)] [] (strconv_numDigits a0) strconv_numDigits.F0
  unfold strconv_numDigits
  refine SJ.sr 1 ?_
  refine OJ.go 1 [(2, .int .i64 0)] ?_
  refine OJ.nil ?_
  refine SJ.sr 4 ?_
  refine OJ.go 1 [(4, .int .u64 a0)] ?_
  refine OJ.call (d := 5) (g := 70) (ats := #[113]) (args := [.tmp 4]) (owed := []) F70 (bits_Len64_ok a0) (fun r1 => ?_)
  refine OW.nil ?_
  refine OJ.call (d := 6) (g := 69) (ats := #[3]) (args := [.tmp 5]) (owed := []) F69 (strconv_log10Pow2_ok r1) (fun r2 => ?_)
  refine OW.nil ?_
  refine OJ.go 1 [(3, .int .i64 r2)] ?_
  refine OJ.nil ?_
  refine SJ.sr 9 ?_
  refine OJ.go 3 [(9, .int .i64 r2), (8, .int .u64 a0), (7, .int .i64 r2)] ?_
  refine OJ.idxA (d := 10) (T := 122) (y := .global 2) (j := .tmp 9) (E := 113) (k := .i64) (fun p3 => ?_)
  refine OJ.ld (d := 11) (y := .tmp 10) (pend2 := fun x4 => []) Ty113 (fun _ => rfl) (fun x4 => ?_)
  refine OJ.go 1 [(12, .bool (decide (a0 ≥ x4)))] ?_
  refine OJ.call (d := 13) (g := 71) (ats := #[4]) (args := [.tmp 12]) (owed := []) F71 (strconv_bool2_int_ok (decide (a0 ≥ x4))) (fun r5 => ?_)
  refine OW.nil ?_
  refine OJ.go 2 [(2, .int .i64 (IntKind.wrap .i64 (r2 + r5))), (14, .int .i64 (IntKind.wrap .i64 (r2 + r5)))] ?_
  refine OJ.nil ?_
  exact SJ.ret rfl (Res.run (ys := [.int .i64 (IntKind.wrap .i64 (r2 + r5))]) (.tmp (by kernel_rfl) .nil) rfl)

/-! ### internal/strconv.formatBase10: function 61 -/
noncomputable def strconv_formatBase10.B : Code := (Tryd.f61.body).getD .skip
noncomputable def strconv_formatBase10.cx : Fx := ⟨Tryd.prog, 61, Tryd.f61⟩
noncomputable def strconv_formatBase10.out (r_ : Unit) : Value := .tuple #[]
noncomputable def strconv_formatBase10.F0 (r_ : Unit) : Reach := .ret (strconv_formatBase10.out r_)
noncomputable def strconv_formatBase10.K1 (a0 : Sl) (j48 : Int) (j49 : Int) : M Unit :=
  if j48 > 0 then
    idx a0.a a0.len 0 1 >>= fun p51 =>
    st (cI .u8) p51 (IntKind.wrap .u8 (IntKind.wrap .u32 (48 + j49))) >>= fun _ =>
    pure ()
  else
    pure ()
theorem strconv_formatBase10.K1_ok (a0 : Sl) (j48 : Int) (j49 : Int) :
    SJ strconv_formatBase10.cx [.code (c2 (c2 (c2 (c2 (c2 strconv_formatBase10.B)))))] [(0, Sl.v a0), (4, .int .i64 j48), (12, .int .u32 j49)] [] (strconv_formatBase10.K1 a0 j48 j49) strconv_formatBase10.F0 := by
  unfold strconv_formatBase10.K1
  refine SJ.sr 2 ?_
  refine OJ.go 2 [(161, .bool (decide (j48 > 0))), (160, .int .i64 j48)] ?_
  refine OJ.nil ?_
  refine SJ.cond (t := (.tmp 161)) (b := decide (j48 > 0)) decide_eq_true_iff (fun hc52 => ?_) (fun hc52 => ?_)
  · refine SJ.rg 6 ?_
    refine OJ.go 4 [(165, .int .u8 (IntKind.wrap .u8 (IntKind.wrap .u32 (48 + j49)))), (164, .int .u32 (IntKind.wrap .u32 (48 + j49))), (163, .int .u32 j49), (162, Sl.v a0)] ?_
    refine OJ.idxS (d := 166) (T := 55) (y := .tmp 162) (j := .const (.int .i64 0)) (E := 5) (cap := a0.cap) (k := .i64) (fun p51 => ?_)
    refine OJ.st (y := .tmp 166) (z := .tmp 165) (owed := []) Ty5 ?_
    refine OW.nil ?_
    refine OJ.nil ?_
    exact SJ.end_ rfl (Res.run (ys := []) .nil rfl)
  · refine SJ.skip ?_
    exact SJ.end_ rfl (Res.run (ys := []) .nil rfl)
noncomputable def strconv_formatBase10.K2 (a0 : Sl) (j40 : Int) (j41 : Int) : M Unit :=
  if j40 ≥ 2 then
    draw >>= fun _ =>
    chk ((0 : Int) ≤ (IntKind.wrap .u32 ((IntKind.wrap .u32 ((Int.tmod j41 100) * 2)) + 1)) ∧ (IntKind.wrap .u32 ((IntKind.wrap .u32 ((Int.tmod j41 100) * 2)) + 1)) < (str6.size : Int)) >>= fun _ =>
    chk ((0 : Int) ≤ (IntKind.wrap .u32 ((Int.tmod j41 100) * 2)) ∧ (IntKind.wrap .u32 ((Int.tmod j41 100) * 2)) < (str6.size : Int)) >>= fun _ =>
    idx a0.a a0.len (IntKind.wrap .i64 (j40 - 1)) 1 >>= fun p57 =>
    st (cI .u8) p57 (sb str6 (IntKind.wrap .u32 ((IntKind.wrap .u32 ((Int.tmod j41 100) * 2)) + 1))) >>= fun _ =>
    idx a0.a a0.len (IntKind.wrap .i64 (j40 - 2)) 1 >>= fun p58 =>
    st (cI .u8) p58 (sb str6 (IntKind.wrap .u32 ((Int.tmod j41 100) * 2))) >>= fun _ =>
    strconv_formatBase10.K1 a0 (IntKind.wrap .i64 (j40 - 2)) (IntKind.wrap .u32 (Int.tdiv j41 100))
  else
    strconv_formatBase10.K1 a0 j40 j41
theorem strconv_formatBase10.K2_ok (a0 : Sl) (j40 : Int) (j41 : Int) :
    SJ strconv_formatBase10.cx [.code (c2 (c2 (c2 (c2 strconv_formatBase10.B))))] [(0, Sl.v a0), (4, .int .i64 j40), (12, .int .u32 j41)] [] (strconv_formatBase10.K2 a0 j40 j41) strconv_formatBase10.F0 := by
  unfold strconv_formatBase10.K2
  refine SJ.seq ?_
  refine SJ.sr 2 ?_
  refine OJ.go 2 [(139, .bool (decide (j40 ≥ 2))), (138, .int .i64 j40)] ?_
  refine OJ.nil ?_
  refine SJ.cond (t := (.tmp 139)) (b := decide (j40 ≥ 2)) decide_eq_true_iff (fun hc59 => ?_) (fun hc59 => ?_)
  · refine SJ.sr 4 ?_
    refine OJ.go 4 [(16, .int .u32 (IntKind.wrap .u32 ((Int.tmod j41 100) * 2))), (142, .int .u32 (IntKind.wrap .u32 ((Int.tmod j41 100) * 2))), (141, .int .u32 (Int.tmod j41 100)), (140, .int .u32 j41)] ?_
    refine OJ.nil ?_
    refine SJ.sr 3 ?_
    refine OJ.go 3 [(12, .int .u32 (IntKind.wrap .u32 (Int.tdiv j41 100))), (144, .int .u32 (IntKind.wrap .u32 (Int.tdiv j41 100))), (143, .int .u32 j41)] ?_
    refine OJ.nil ?_
    refine SJ.seq ?_
    refine SJ.draw (id := 23) (kd := [0, 0, 0, 0, 0, 0, 0, 0, 0, 0, 0, 0, 2, 0, 2]) (bef := [0, 0, 2, 0, 0, 16, 0, 64, 192, 0, 512, 455, 2503, 8191, 16383]) (ord := [0, 1, 2, 3, 4, 5, 6, 7, 8, 9, 10, 11, 12, 13, 14]) mixed ?_
    refine OJ.go 8 [(152, .int .u32 (IntKind.wrap .u32 ((IntKind.wrap .u32 ((Int.tmod j41 100) * 2)) + 1))), (151, .int .u32 (IntKind.wrap .u32 ((Int.tmod j41 100) * 2))), (150, .int .i64 (IntKind.wrap .i64 (j40 - 2))), (149, .int .i64 j40), (148, Sl.v a0), (147, .int .i64 (IntKind.wrap .i64 (j40 - 1))), (146, .int .i64 j40), (145, Sl.v a0)] ?_
    refine OJ.idxT (d := 153) (T := 9) (y := .const (.string str6)) (j := .tmp 152) (k := .u32) (fun hb53 hb54 => ?_)
    refine OJ.go 1 [(154, .int .u32 (IntKind.wrap .u32 ((Int.tmod j41 100) * 2)))] ?_
    refine OJ.idxT (d := 155) (T := 9) (y := .const (.string str6)) (j := .tmp 154) (k := .u32) (fun hb55 hb56 => ?_)
    refine OJ.idxS (d := 156) (T := 55) (y := .tmp 145) (j := .tmp 147) (E := 5) (cap := a0.cap) (k := .i64) (fun p57 => ?_)
    refine OJ.st (y := .tmp 156) (z := .tmp 153) (owed := []) Ty5 ?_
    refine OW.nil ?_
    refine OJ.idxS (d := 157) (T := 55) (y := .tmp 148) (j := .tmp 150) (E := 5) (cap := a0.cap) (k := .i64) (fun p58 => ?_)
    refine OJ.st (y := .tmp 157) (z := .tmp 155) (owed := []) Ty5 ?_
    refine OW.nil ?_
    refine OJ.nil ?_
    refine SJ.rg 3 ?_
    refine OJ.go 3 [(4, .int .i64 (IntKind.wrap .i64 (j40 - 2))), (159, .int .i64 (IntKind.wrap .i64 (j40 - 2))), (158, .int .i64 j40)] ?_
    refine OJ.nil ?_
    refine SJ.less [0, 4, 12] (m' := [(0, Sl.v a0), (4, .int .i64 (IntKind.wrap .i64 (j40 - 2))), (12, .int .u32 (IntKind.wrap .u32 (Int.tdiv j41 100)))]) ?_
    exact strconv_formatBase10.K1_ok a0 (IntKind.wrap .i64 (j40 - 2)) (IntKind.wrap .u32 (Int.tdiv j41 100))
  · refine SJ.skip ?_
    refine SJ.less [0, 4, 12] (m' := [(0, Sl.v a0), (4, .int .i64 j40), (12, .int .u32 j41)]) ?_
    exact strconv_formatBase10.K1_ok a0 j40 j41
noncomputable def strconv_formatBase10.K3 (a0 : Sl) (s1 : Int) (s2 : Int) : M Unit :=
  if s2 ≥ 4 then
    draw >>= fun _ =>
    chk ((0 : Int) ≤ (IntKind.wrap .u32 ((IntKind.wrap .u32 ((Int.tmod (Int.tmod (IntKind.wrap .u32 s1) 10000) 100) * 2)) + 1)) ∧ (IntKind.wrap .u32 ((IntKind.wrap .u32 ((Int.tmod (Int.tmod (IntKind.wrap .u32 s1) 10000) 100) * 2)) + 1)) < (str6.size : Int)) >>= fun _ =>
    chk ((0 : Int) ≤ (IntKind.wrap .u32 ((Int.tmod (Int.tmod (IntKind.wrap .u32 s1) 10000) 100) * 2)) ∧ (IntKind.wrap .u32 ((Int.tmod (Int.tmod (IntKind.wrap .u32 s1) 10000) 100) * 2)) < (str6.size : Int)) >>= fun _ =>
    idx a0.a a0.len (IntKind.wrap .i64 (s2 - 1)) 1 >>= fun p64 =>
    st (cI .u8) p64 (sb str6 (IntKind.wrap .u32 ((IntKind.wrap .u32 ((Int.tmod (Int.tmod (IntKind.wrap .u32 s1) 10000) 100) * 2)) + 1))) >>= fun _ =>
    idx a0.a a0.len (IntKind.wrap .i64 (s2 - 2)) 1 >>= fun p65 =>
    st (cI .u8) p65 (sb str6 (IntKind.wrap .u32 ((Int.tmod (Int.tmod (IntKind.wrap .u32 s1) 10000) 100) * 2))) >>= fun _ =>
    draw >>= fun _ =>
    chk ((0 : Int) ≤ (IntKind.wrap .u32 ((IntKind.wrap .u32 ((IntKind.wrap .u32 (Int.tdiv (Int.tmod (IntKind.wrap .u32 s1) 10000) 100)) * 2)) + 1)) ∧ (IntKind.wrap .u32 ((IntKind.wrap .u32 ((IntKind.wrap .u32 (Int.tdiv (Int.tmod (IntKind.wrap .u32 s1) 10000) 100)) * 2)) + 1)) < (str6.size : Int)) >>= fun _ =>
    chk ((0 : Int) ≤ (IntKind.wrap .u32 ((IntKind.wrap .u32 (Int.tdiv (Int.tmod (IntKind.wrap .u32 s1) 10000) 100)) * 2)) ∧ (IntKind.wrap .u32 ((IntKind.wrap .u32 (Int.tdiv (Int.tmod (IntKind.wrap .u32 s1) 10000) 100)) * 2)) < (str6.size : Int)) >>= fun _ =>
    idx a0.a a0.len (IntKind.wrap .i64 (s2 - 3)) 1 >>= fun p70 =>
    st (cI .u8) p70 (sb str6 (IntKind.wrap .u32 ((IntKind.wrap .u32 ((IntKind.wrap .u32 (Int.tdiv (Int.tmod (IntKind.wrap .u32 s1) 10000) 100)) * 2)) + 1))) >>= fun _ =>
    idx a0.a a0.len (IntKind.wrap .i64 (s2 - 4)) 1 >>= fun p71 =>
    st (cI .u8) p71 (sb str6 (IntKind.wrap .u32 ((IntKind.wrap .u32 (Int.tdiv (Int.tmod (IntKind.wrap .u32 s1) 10000) 100)) * 2))) >>= fun _ =>
    strconv_formatBase10.K2 a0 (IntKind.wrap .i64 (s2 - 4)) (IntKind.wrap .u32 (Int.tdiv (IntKind.wrap .u32 s1) 10000))
  else
    strconv_formatBase10.K2 a0 s2 (IntKind.wrap .u32 s1)
theorem strconv_formatBase10.K3_ok (a0 : Sl) (s1 : Int) (s2 : Int) :
    SJ strconv_formatBase10.cx [.code (c2 (c2 strconv_formatBase10.B))] [(0, Sl.v a0), (1, .int .u64 s1), (4, .int .i64 s2)] [] (strconv_formatBase10.K3 a0 s1 s2) strconv_formatBase10.F0 := by
  unfold strconv_formatBase10.K3
  refine SJ.sr 3 ?_
  refine OJ.go 3 [(12, .int .u32 (IntKind.wrap .u32 s1)), (97, .int .u32 (IntKind.wrap .u32 s1)), (96, .int .u64 s1)] ?_
  refine OJ.nil ?_
  refine SJ.seq ?_
  refine SJ.sr 2 ?_
  refine OJ.go 2 [(99, .bool (decide (s2 ≥ 4))), (98, .int .i64 s2)] ?_
  refine OJ.nil ?_
  refine SJ.cond (t := (.tmp 99)) (b := decide (s2 ≥ 4)) decide_eq_true_iff (fun hc72 => ?_) (fun hc72 => ?_)
  · refine SJ.sr 3 ?_
    refine OJ.go 3 [(13, .int .u32 (Int.tmod (IntKind.wrap .u32 s1) 10000)), (101, .int .u32 (Int.tmod (IntKind.wrap .u32 s1) 10000)), (100, .int .u32 (IntKind.wrap .u32 s1))] ?_
    refine OJ.nil ?_
    refine SJ.sr 3 ?_
    refine OJ.go 3 [(12, .int .u32 (IntKind.wrap .u32 (Int.tdiv (IntKind.wrap .u32 s1) 10000))), (103, .int .u32 (IntKind.wrap .u32 (Int.tdiv (IntKind.wrap .u32 s1) 10000))), (102, .int .u32 (IntKind.wrap .u32 s1))] ?_
    refine OJ.nil ?_
    refine SJ.sr 8 ?_
    refine OJ.go 8 [(15, .int .u32 (IntKind.wrap .u32 ((Int.tmod (Int.tmod (IntKind.wrap .u32 s1) 10000) 100) * 2))), (14, .int .u32 (IntKind.wrap .u32 ((IntKind.wrap .u32 (Int.tdiv (Int.tmod (IntKind.wrap .u32 s1) 10000) 100)) * 2))), (109, .int .u32 (IntKind.wrap .u32 ((Int.tmod (Int.tmod (IntKind.wrap .u32 s1) 10000) 100) * 2))), (108, .int .u32 (Int.tmod (Int.tmod (IntKind.wrap .u32 s1) 10000) 100)), (107, .int .u32 (Int.tmod (IntKind.wrap .u32 s1) 10000)), (106, .int .u32 (IntKind.wrap .u32 ((IntKind.wrap .u32 (Int.tdiv (Int.tmod (IntKind.wrap .u32 s1) 10000) 100)) * 2))), (105, .int .u32 (IntKind.wrap .u32 (Int.tdiv (Int.tmod (IntKind.wrap .u32 s1) 10000) 100))), (104, .int .u32 (Int.tmod (IntKind.wrap .u32 s1) 10000))] ?_
    refine OJ.nil ?_
    refine SJ.seq ?_
    refine SJ.draw (id := 17) (kd := [0, 0, 0, 0, 0, 0, 0, 0, 0, 0, 0, 0, 2, 0, 2]) (bef := [0, 0, 2, 0, 0, 16, 0, 64, 192, 0, 512, 455, 2503, 8191, 16383]) (ord := [0, 1, 2, 3, 4, 5, 6, 7, 8, 9, 10, 11, 12, 13, 14]) mixed ?_
    refine OJ.go 8 [(117, .int .u32 (IntKind.wrap .u32 ((IntKind.wrap .u32 ((Int.tmod (Int.tmod (IntKind.wrap .u32 s1) 10000) 100) * 2)) + 1))), (116, .int .u32 (IntKind.wrap .u32 ((Int.tmod (Int.tmod (IntKind.wrap .u32 s1) 10000) 100) * 2))), (115, .int .i64 (IntKind.wrap .i64 (s2 - 2))), (114, .int .i64 s2), (113, Sl.v a0), (112, .int .i64 (IntKind.wrap .i64 (s2 - 1))), (111, .int .i64 s2), (110, Sl.v a0)] ?_
    refine OJ.idxT (d := 118) (T := 9) (y := .const (.string str6)) (j := .tmp 117) (k := .u32) (fun hb60 hb61 => ?_)
    refine OJ.go 1 [(119, .int .u32 (IntKind.wrap .u32 ((Int.tmod (Int.tmod (IntKind.wrap .u32 s1) 10000) 100) * 2)))] ?_
    refine OJ.idxT (d := 120) (T := 9) (y := .const (.string str6)) (j := .tmp 119) (k := .u32) (fun hb62 hb63 => ?_)
    refine OJ.idxS (d := 121) (T := 55) (y := .tmp 110) (j := .tmp 112) (E := 5) (cap := a0.cap) (k := .i64) (fun p64 => ?_)
    refine OJ.st (y := .tmp 121) (z := .tmp 118) (owed := []) Ty5 ?_
    refine OW.nil ?_
    refine OJ.idxS (d := 122) (T := 55) (y := .tmp 113) (j := .tmp 115) (E := 5) (cap := a0.cap) (k := .i64) (fun p65 => ?_)
    refine OJ.st (y := .tmp 122) (z := .tmp 120) (owed := []) Ty5 ?_
    refine OW.nil ?_
    refine OJ.nil ?_
    refine SJ.seq ?_
    refine SJ.draw (id := 18) (kd := [0, 0, 0, 0, 0, 0, 0, 0, 0, 0, 0, 0, 2, 0, 2]) (bef := [0, 0, 2, 0, 0, 16, 0, 64, 192, 0, 512, 455, 2503, 8191, 16383]) (ord := [0, 1, 2, 3, 4, 5, 6, 7, 8, 9, 10, 11, 12, 13, 14]) mixed ?_
    refine OJ.go 8 [(130, .int .u32 (IntKind.wrap .u32 ((IntKind.wrap .u32 ((IntKind.wrap .u32 (Int.tdiv (Int.tmod (IntKind.wrap .u32 s1) 10000) 100)) * 2)) + 1))), (129, .int .u32 (IntKind.wrap .u32 ((IntKind.wrap .u32 (Int.tdiv (Int.tmod (IntKind.wrap .u32 s1) 10000) 100)) * 2))), (128, .int .i64 (IntKind.wrap .i64 (s2 - 4))), (127, .int .i64 s2), (126, Sl.v a0), (125, .int .i64 (IntKind.wrap .i64 (s2 - 3))), (124, .int .i64 s2), (123, Sl.v a0)] ?_
    refine OJ.idxT (d := 131) (T := 9) (y := .const (.string str6)) (j := .tmp 130) (k := .u32) (fun hb66 hb67 => ?_)
    refine OJ.go 1 [(132, .int .u32 (IntKind.wrap .u32 ((IntKind.wrap .u32 (Int.tdiv (Int.tmod (IntKind.wrap .u32 s1) 10000) 100)) * 2)))] ?_
    refine OJ.idxT (d := 133) (T := 9) (y := .const (.string str6)) (j := .tmp 132) (k := .u32) (fun hb68 hb69 => ?_)
    refine OJ.idxS (d := 134) (T := 55) (y := .tmp 123) (j := .tmp 125) (E := 5) (cap := a0.cap) (k := .i64) (fun p70 => ?_)
    refine OJ.st (y := .tmp 134) (z := .tmp 131) (owed := []) Ty5 ?_
    refine OW.nil ?_
    refine OJ.idxS (d := 135) (T := 55) (y := .tmp 126) (j := .tmp 128) (E := 5) (cap := a0.cap) (k := .i64) (fun p71 => ?_)
    refine OJ.st (y := .tmp 135) (z := .tmp 133) (owed := []) Ty5 ?_
    refine OW.nil ?_
    refine OJ.nil ?_
    refine SJ.rg 3 ?_
    refine OJ.go 3 [(4, .int .i64 (IntKind.wrap .i64 (s2 - 4))), (137, .int .i64 (IntKind.wrap .i64 (s2 - 4))), (136, .int .i64 s2)] ?_
    refine OJ.nil ?_
    refine SJ.less [0, 4, 12] (m' := [(0, Sl.v a0), (4, .int .i64 (IntKind.wrap .i64 (s2 - 4))), (12, .int .u32 (IntKind.wrap .u32 (Int.tdiv (IntKind.wrap .u32 s1) 10000)))]) ?_
    exact strconv_formatBase10.K2_ok a0 (IntKind.wrap .i64 (s2 - 4)) (IntKind.wrap .u32 (Int.tdiv (IntKind.wrap .u32 s1) 10000))
  · refine SJ.skip ?_
    refine SJ.less [0, 4, 12] (m' := [(0, Sl.v a0), (4, .int .i64 s2), (12, .int .u32 (IntKind.wrap .u32 s1))]) ?_
    exact strconv_formatBase10.K2_ok a0 s2 (IntKind.wrap .u32 s1)
noncomputable def strconv_formatBase10.F1 (a0 : Sl) : (LS (Int × Int) Unit) → Reach := loopF [.inLoop (c1 (c1 (c1 (c2 strconv_formatBase10.B)))), .inBlock 0, .code (c2 (c2 strconv_formatBase10.B))] (fun s_ : (Int × Int) => [(0, Sl.v a0), (1, .int .u64 s_.1), (4, .int .i64 s_.2)]) (fun s_ : (Int × Int) => []) strconv_formatBase10.F0
noncomputable def strconv_formatBase10.L1 (a0 : Sl) (s1 : Int) (s2 : Int) : M (LS (Int × Int) Unit) :=
  if s2 ≥ 8 then
    draw >>= fun _ =>
    chk ((0 : Int) ≤ (IntKind.wrap .u32 ((IntKind.wrap .u32 ((Int.tmod (Int.tmod (IntKind.wrap .u32 (Int.tmod s1 100000000)) 10000) 100) * 2)) + 1)) ∧ (IntKind.wrap .u32 ((IntKind.wrap .u32 ((Int.tmod (Int.tmod (IntKind.wrap .u32 (Int.tmod s1 100000000)) 10000) 100) * 2)) + 1)) < (str6.size : Int)) >>= fun _ =>
    chk ((0 : Int) ≤ (IntKind.wrap .u32 ((Int.tmod (Int.tmod (IntKind.wrap .u32 (Int.tmod s1 100000000)) 10000) 100) * 2)) ∧ (IntKind.wrap .u32 ((Int.tmod (Int.tmod (IntKind.wrap .u32 (Int.tmod s1 100000000)) 10000) 100) * 2)) < (str6.size : Int)) >>= fun _ =>
    idx a0.a a0.len (IntKind.wrap .i64 (s2 - 1)) 1 >>= fun p77 =>
    st (cI .u8) p77 (sb str6 (IntKind.wrap .u32 ((IntKind.wrap .u32 ((Int.tmod (Int.tmod (IntKind.wrap .u32 (Int.tmod s1 100000000)) 10000) 100) * 2)) + 1))) >>= fun _ =>
    idx a0.a a0.len (IntKind.wrap .i64 (s2 - 2)) 1 >>= fun p78 =>
    st (cI .u8) p78 (sb str6 (IntKind.wrap .u32 ((Int.tmod (Int.tmod (IntKind.wrap .u32 (Int.tmod s1 100000000)) 10000) 100) * 2))) >>= fun _ =>
    draw >>= fun _ =>
    chk ((0 : Int) ≤ (IntKind.wrap .u32 ((IntKind.wrap .u32 ((IntKind.wrap .u32 (Int.tdiv (Int.tmod (IntKind.wrap .u32 (Int.tmod s1 100000000)) 10000) 100)) * 2)) + 1)) ∧ (IntKind.wrap .u32 ((IntKind.wrap .u32 ((IntKind.wrap .u32 (Int.tdiv (Int.tmod (IntKind.wrap .u32 (Int.tmod s1 100000000)) 10000) 100)) * 2)) + 1)) < (str6.size : Int)) >>= fun _ =>
    chk ((0 : Int) ≤ (IntKind.wrap .u32 ((IntKind.wrap .u32 (Int.tdiv (Int.tmod (IntKind.wrap .u32 (Int.tmod s1 100000000)) 10000) 100)) * 2)) ∧ (IntKind.wrap .u32 ((IntKind.wrap .u32 (Int.tdiv (Int.tmod (IntKind.wrap .u32 (Int.tmod s1 100000000)) 10000) 100)) * 2)) < (str6.size : Int)) >>= fun _ =>
    idx a0.a a0.len (IntKind.wrap .i64 (s2 - 3)) 1 >>= fun p83 =>
    st (cI .u8) p83 (sb str6 (IntKind.wrap .u32 ((IntKind.wrap .u32 ((IntKind.wrap .u32 (Int.tdiv (Int.tmod (IntKind.wrap .u32 (Int.tmod s1 100000000)) 10000) 100)) * 2)) + 1))) >>= fun _ =>
    idx a0.a a0.len (IntKind.wrap .i64 (s2 - 4)) 1 >>= fun p84 =>
    st (cI .u8) p84 (sb str6 (IntKind.wrap .u32 ((IntKind.wrap .u32 (Int.tdiv (Int.tmod (IntKind.wrap .u32 (Int.tmod s1 100000000)) 10000) 100)) * 2))) >>= fun _ =>
    draw >>= fun _ =>
    chk ((0 : Int) ≤ (IntKind.wrap .u32 ((IntKind.wrap .u32 ((Int.tmod (IntKind.wrap .u32 (Int.tdiv (IntKind.wrap .u32 (Int.tmod s1 100000000)) 10000)) 100) * 2)) + 1)) ∧ (IntKind.wrap .u32 ((IntKind.wrap .u32 ((Int.tmod (IntKind.wrap .u32 (Int.tdiv (IntKind.wrap .u32 (Int.tmod s1 100000000)) 10000)) 100) * 2)) + 1)) < (str6.size : Int)) >>= fun _ =>
    chk ((0 : Int) ≤ (IntKind.wrap .u32 ((Int.tmod (IntKind.wrap .u32 (Int.tdiv (IntKind.wrap .u32 (Int.tmod s1 100000000)) 10000)) 100) * 2)) ∧ (IntKind.wrap .u32 ((Int.tmod (IntKind.wrap .u32 (Int.tdiv (IntKind.wrap .u32 (Int.tmod s1 100000000)) 10000)) 100) * 2)) < (str6.size : Int)) >>= fun _ =>
    idx a0.a a0.len (IntKind.wrap .i64 (s2 - 5)) 1 >>= fun p89 =>
    st (cI .u8) p89 (sb str6 (IntKind.wrap .u32 ((IntKind.wrap .u32 ((Int.tmod (IntKind.wrap .u32 (Int.tdiv (IntKind.wrap .u32 (Int.tmod s1 100000000)) 10000)) 100) * 2)) + 1))) >>= fun _ =>
    idx a0.a a0.len (IntKind.wrap .i64 (s2 - 6)) 1 >>= fun p90 =>
    st (cI .u8) p90 (sb str6 (IntKind.wrap .u32 ((Int.tmod (IntKind.wrap .u32 (Int.tdiv (IntKind.wrap .u32 (Int.tmod s1 100000000)) 10000)) 100) * 2))) >>= fun _ =>
    draw >>= fun _ =>
    chk ((0 : Int) ≤ (IntKind.wrap .u32 ((IntKind.wrap .u32 ((IntKind.wrap .u32 (Int.tdiv (IntKind.wrap .u32 (Int.tdiv (IntKind.wrap .u32 (Int.tmod s1 100000000)) 10000)) 100)) * 2)) + 1)) ∧ (IntKind.wrap .u32 ((IntKind.wrap .u32 ((IntKind.wrap .u32 (Int.tdiv (IntKind.wrap .u32 (Int.tdiv (IntKind.wrap .u32 (Int.tmod s1 100000000)) 10000)) 100)) * 2)) + 1)) < (str6.size : Int)) >>= fun _ =>
    chk ((0 : Int) ≤ (IntKind.wrap .u32 ((IntKind.wrap .u32 (Int.tdiv (IntKind.wrap .u32 (Int.tdiv (IntKind.wrap .u32 (Int.tmod s1 100000000)) 10000)) 100)) * 2)) ∧ (IntKind.wrap .u32 ((IntKind.wrap .u32 (Int.tdiv (IntKind.wrap .u32 (Int.tdiv (IntKind.wrap .u32 (Int.tmod s1 100000000)) 10000)) 100)) * 2)) < (str6.size : Int)) >>= fun _ =>
    idx a0.a a0.len (IntKind.wrap .i64 (s2 - 7)) 1 >>= fun p95 =>
    st (cI .u8) p95 (sb str6 (IntKind.wrap .u32 ((IntKind.wrap .u32 ((IntKind.wrap .u32 (Int.tdiv (IntKind.wrap .u32 (Int.tdiv (IntKind.wrap .u32 (Int.tmod s1 100000000)) 10000)) 100)) * 2)) + 1))) >>= fun _ =>
    idx a0.a a0.len (IntKind.wrap .i64 (s2 - 8)) 1 >>= fun p96 =>
    st (cI .u8) p96 (sb str6 (IntKind.wrap .u32 ((IntKind.wrap .u32 (Int.tdiv (IntKind.wrap .u32 (Int.tdiv (IntKind.wrap .u32 (Int.tmod s1 100000000)) 10000)) 100)) * 2))) >>= fun _ =>
    pure (LS.next (IntKind.wrap .u64 (Int.tdiv s1 100000000), IntKind.wrap .i64 (s2 - 8)))
  else
    (strconv_formatBase10.K3 a0 s1 s2) >>= fun b => pure (LS.done b)
theorem strconv_formatBase10.L1_ok (a0 : Sl) (s1 : Int) (s2 : Int) :
    SJ strconv_formatBase10.cx [.code (c1 (c1 (c1 (c2 strconv_formatBase10.B)))), .inLoop (c1 (c1 (c1 (c2 strconv_formatBase10.B)))), .inBlock 0, .code (c2 (c2 strconv_formatBase10.B))] [(0, Sl.v a0), (1, .int .u64 s1), (4, .int .i64 s2)] [] (strconv_formatBase10.L1 a0 s1 s2) (strconv_formatBase10.F1 a0) := by
  unfold strconv_formatBase10.L1
  refine SJ.seq ?_
  refine SJ.sr 2 ?_
  refine OJ.go 2 [(20, .bool (decide (s2 ≥ 8))), (19, .int .i64 s2)] ?_
  refine OJ.nil ?_
  refine SJ.cond (t := (.tmp 20)) (b := decide (s2 ≥ 8)) decide_eq_true_iff (fun hc97 => ?_) (fun hc97 => ?_)
  · refine SJ.skip ?_
    refine SJ.block (id := 1) ?_
    refine SJ.sr 4 ?_
    refine OJ.go 4 [(5, .int .u32 (IntKind.wrap .u32 (Int.tmod s1 100000000))), (23, .int .u32 (IntKind.wrap .u32 (Int.tmod s1 100000000))), (22, .int .u64 (Int.tmod s1 100000000)), (21, .int .u64 s1)] ?_
    refine OJ.nil ?_
    refine SJ.sr 3 ?_
    refine OJ.go 3 [(1, .int .u64 (IntKind.wrap .u64 (Int.tdiv s1 100000000))), (25, .int .u64 (IntKind.wrap .u64 (Int.tdiv s1 100000000))), (24, .int .u64 s1)] ?_
    refine OJ.nil ?_
    refine SJ.sr 6 ?_
    refine OJ.go 6 [(7, .int .u32 (Int.tmod (IntKind.wrap .u32 (Int.tmod s1 100000000)) 10000)), (6, .int .u32 (IntKind.wrap .u32 (Int.tdiv (IntKind.wrap .u32 (Int.tmod s1 100000000)) 10000))), (29, .int .u32 (Int.tmod (IntKind.wrap .u32 (Int.tmod s1 100000000)) 10000)), (28, .int .u32 (IntKind.wrap .u32 (Int.tmod s1 100000000))), (27, .int .u32 (IntKind.wrap .u32 (Int.tdiv (IntKind.wrap .u32 (Int.tmod s1 100000000)) 10000))), (26, .int .u32 (IntKind.wrap .u32 (Int.tmod s1 100000000)))] ?_
    refine OJ.nil ?_
    refine SJ.sr 8 ?_
    refine OJ.go 8 [(9, .int .u32 (IntKind.wrap .u32 ((Int.tmod (Int.tmod (IntKind.wrap .u32 (Int.tmod s1 100000000)) 10000) 100) * 2))), (8, .int .u32 (IntKind.wrap .u32 ((IntKind.wrap .u32 (Int.tdiv (Int.tmod (IntKind.wrap .u32 (Int.tmod s1 100000000)) 10000) 100)) * 2))), (35, .int .u32 (IntKind.wrap .u32 ((Int.tmod (Int.tmod (IntKind.wrap .u32 (Int.tmod s1 100000000)) 10000) 100) * 2))), (34, .int .u32 (Int.tmod (Int.tmod (IntKind.wrap .u32 (Int.tmod s1 100000000)) 10000) 100)), (33, .int .u32 (Int.tmod (IntKind.wrap .u32 (Int.tmod s1 100000000)) 10000)), (32, .int .u32 (IntKind.wrap .u32 ((IntKind.wrap .u32 (Int.tdiv (Int.tmod (IntKind.wrap .u32 (Int.tmod s1 100000000)) 10000) 100)) * 2))), (31, .int .u32 (IntKind.wrap .u32 (Int.tdiv (Int.tmod (IntKind.wrap .u32 (Int.tmod s1 100000000)) 10000) 100))), (30, .int .u32 (Int.tmod (IntKind.wrap .u32 (Int.tmod s1 100000000)) 10000))] ?_
    refine OJ.nil ?_
    refine SJ.sr 8 ?_
    refine OJ.go 8 [(11, .int .u32 (IntKind.wrap .u32 ((Int.tmod (IntKind.wrap .u32 (Int.tdiv (IntKind.wrap .u32 (Int.tmod s1 100000000)) 10000)) 100) * 2))), (10, .int .u32 (IntKind.wrap .u32 ((IntKind.wrap .u32 (Int.tdiv (IntKind.wrap .u32 (Int.tdiv (IntKind.wrap .u32 (Int.tmod s1 100000000)) 10000)) 100)) * 2))), (41, .int .u32 (IntKind.wrap .u32 ((Int.tmod (IntKind.wrap .u32 (Int.tdiv (IntKind.wrap .u32 (Int.tmod s1 100000000)) 10000)) 100) * 2))), (40, .int .u32 (Int.tmod (IntKind.wrap .u32 (Int.tdiv (IntKind.wrap .u32 (Int.tmod s1 100000000)) 10000)) 100)), (39, .int .u32 (IntKind.wrap .u32 (Int.tdiv (IntKind.wrap .u32 (Int.tmod s1 100000000)) 10000))), (38, .int .u32 (IntKind.wrap .u32 ((IntKind.wrap .u32 (Int.tdiv (IntKind.wrap .u32 (Int.tdiv (IntKind.wrap .u32 (Int.tmod s1 100000000)) 10000)) 100)) * 2))), (37, .int .u32 (IntKind.wrap .u32 (Int.tdiv (IntKind.wrap .u32 (Int.tdiv (IntKind.wrap .u32 (Int.tmod s1 100000000)) 10000)) 100))), (36, .int .u32 (IntKind.wrap .u32 (Int.tdiv (IntKind.wrap .u32 (Int.tmod s1 100000000)) 10000)))] ?_
    refine OJ.nil ?_
    refine SJ.seq ?_
    refine SJ.draw (id := 7) (kd := [0, 0, 0, 0, 0, 0, 0, 0, 0, 0, 0, 0, 2, 0, 2]) (bef := [0, 0, 2, 0, 0, 16, 0, 64, 192, 0, 512, 455, 2503, 8191, 16383]) (ord := [0, 1, 2, 3, 4, 5, 6, 7, 8, 9, 10, 11, 12, 13, 14]) mixed ?_
    refine OJ.go 8 [(49, .int .u32 (IntKind.wrap .u32 ((IntKind.wrap .u32 ((Int.tmod (Int.tmod (IntKind.wrap .u32 (Int.tmod s1 100000000)) 10000) 100) * 2)) + 1))), (48, .int .u32 (IntKind.wrap .u32 ((Int.tmod (Int.tmod (IntKind.wrap .u32 (Int.tmod s1 100000000)) 10000) 100) * 2))), (47, .int .i64 (IntKind.wrap .i64 (s2 - 2))), (46, .int .i64 s2), (45, Sl.v a0), (44, .int .i64 (IntKind.wrap .i64 (s2 - 1))), (43, .int .i64 s2), (42, Sl.v a0)] ?_
    refine OJ.idxT (d := 50) (T := 9) (y := .const (.string str6)) (j := .tmp 49) (k := .u32) (fun hb73 hb74 => ?_)
    refine OJ.go 1 [(51, .int .u32 (IntKind.wrap .u32 ((Int.tmod (Int.tmod (IntKind.wrap .u32 (Int.tmod s1 100000000)) 10000) 100) * 2)))] ?_
    refine OJ.idxT (d := 52) (T := 9) (y := .const (.string str6)) (j := .tmp 51) (k := .u32) (fun hb75 hb76 => ?_)
    refine OJ.idxS (d := 53) (T := 55) (y := .tmp 42) (j := .tmp 44) (E := 5) (cap := a0.cap) (k := .i64) (fun p77 => ?_)
    refine OJ.st (y := .tmp 53) (z := .tmp 50) (owed := []) Ty5 ?_
    refine OW.nil ?_
    refine OJ.idxS (d := 54) (T := 55) (y := .tmp 45) (j := .tmp 47) (E := 5) (cap := a0.cap) (k := .i64) (fun p78 => ?_)
    refine OJ.st (y := .tmp 54) (z := .tmp 52) (owed := []) Ty5 ?_
    refine OW.nil ?_
    refine OJ.nil ?_
    refine SJ.seq ?_
    refine SJ.draw (id := 8) (kd := [0, 0, 0, 0, 0, 0, 0, 0, 0, 0, 0, 0, 2, 0, 2]) (bef := [0, 0, 2, 0, 0, 16, 0, 64, 192, 0, 512, 455, 2503, 8191, 16383]) (ord := [0, 1, 2, 3, 4, 5, 6, 7, 8, 9, 10, 11, 12, 13, 14]) mixed ?_
    refine OJ.go 8 [(62, .int .u32 (IntKind.wrap .u32 ((IntKind.wrap .u32 ((IntKind.wrap .u32 (Int.tdiv (Int.tmod (IntKind.wrap .u32 (Int.tmod s1 100000000)) 10000) 100)) * 2)) + 1))), (61, .int .u32 (IntKind.wrap .u32 ((IntKind.wrap .u32 (Int.tdiv (Int.tmod (IntKind.wrap .u32 (Int.tmod s1 100000000)) 10000) 100)) * 2))), (60, .int .i64 (IntKind.wrap .i64 (s2 - 4))), (59, .int .i64 s2), (58, Sl.v a0), (57, .int .i64 (IntKind.wrap .i64 (s2 - 3))), (56, .int .i64 s2), (55, Sl.v a0)] ?_
    refine OJ.idxT (d := 63) (T := 9) (y := .const (.string str6)) (j := .tmp 62) (k := .u32) (fun hb79 hb80 => ?_)
    refine OJ.go 1 [(64, .int .u32 (IntKind.wrap .u32 ((IntKind.wrap .u32 (Int.tdiv (Int.tmod (IntKind.wrap .u32 (Int.tmod s1 100000000)) 10000) 100)) * 2)))] ?_
    refine OJ.idxT (d := 65) (T := 9) (y := .const (.string str6)) (j := .tmp 64) (k := .u32) (fun hb81 hb82 => ?_)
    refine OJ.idxS (d := 66) (T := 55) (y := .tmp 55) (j := .tmp 57) (E := 5) (cap := a0.cap) (k := .i64) (fun p83 => ?_)
    refine OJ.st (y := .tmp 66) (z := .tmp 63) (owed := []) Ty5 ?_
    refine OW.nil ?_
    refine OJ.idxS (d := 67) (T := 55) (y := .tmp 58) (j := .tmp 60) (E := 5) (cap := a0.cap) (k := .i64) (fun p84 => ?_)
    refine OJ.st (y := .tmp 67) (z := .tmp 65) (owed := []) Ty5 ?_
    refine OW.nil ?_
    refine OJ.nil ?_
    refine SJ.seq ?_
    refine SJ.draw (id := 9) (kd := [0, 0, 0, 0, 0, 0, 0, 0, 0, 0, 0, 0, 2, 0, 2]) (bef := [0, 0, 2, 0, 0, 16, 0, 64, 192, 0, 512, 455, 2503, 8191, 16383]) (ord := [0, 1, 2, 3, 4, 5, 6, 7, 8, 9, 10, 11, 12, 13, 14]) mixed ?_
    refine OJ.go 8 [(75, .int .u32 (IntKind.wrap .u32 ((IntKind.wrap .u32 ((Int.tmod (IntKind.wrap .u32 (Int.tdiv (IntKind.wrap .u32 (Int.tmod s1 100000000)) 10000)) 100) * 2)) + 1))), (74, .int .u32 (IntKind.wrap .u32 ((Int.tmod (IntKind.wrap .u32 (Int.tdiv (IntKind.wrap .u32 (Int.tmod s1 100000000)) 10000)) 100) * 2))), (73, .int .i64 (IntKind.wrap .i64 (s2 - 6))), (72, .int .i64 s2), (71, Sl.v a0), (70, .int .i64 (IntKind.wrap .i64 (s2 - 5))), (69, .int .i64 s2), (68, Sl.v a0)] ?_
    refine OJ.idxT (d := 76) (T := 9) (y := .const (.string str6)) (j := .tmp 75) (k := .u32) (fun hb85 hb86 => ?_)
    refine OJ.go 1 [(77, .int .u32 (IntKind.wrap .u32 ((Int.tmod (IntKind.wrap .u32 (Int.tdiv (IntKind.wrap .u32 (Int.tmod s1 100000000)) 10000)) 100) * 2)))] ?_
    refine OJ.idxT (d := 78) (T := 9) (y := .const (.string str6)) (j := .tmp 77) (k := .u32) (fun hb87 hb88 => ?_)
    refine OJ.idxS (d := 79) (T := 55) (y := .tmp 68) (j := .tmp 70) (E := 5) (cap := a0.cap) (k := .i64) (fun p89 => ?_)
    refine OJ.st (y := .tmp 79) (z := .tmp 76) (owed := []) Ty5 ?_
    refine OW.nil ?_
    refine OJ.idxS (d := 80) (T := 55) (y := .tmp 71) (j := .tmp 73) (E := 5) (cap := a0.cap) (k := .i64) (fun p90 => ?_)
    refine OJ.st (y := .tmp 80) (z := .tmp 78) (owed := []) Ty5 ?_
    refine OW.nil ?_
    refine OJ.nil ?_
    refine SJ.seq ?_
    refine SJ.draw (id := 10) (kd := [0, 0, 0, 0, 0, 0, 0, 0, 0, 0, 0, 0, 2, 0, 2]) (bef := [0, 0, 2, 0, 0, 16, 0, 64, 192, 0, 512, 455, 2503, 8191, 16383]) (ord := [0, 1, 2, 3, 4, 5, 6, 7, 8, 9, 10, 11, 12, 13, 14]) mixed ?_
    refine OJ.go 8 [(88, .int .u32 (IntKind.wrap .u32 ((IntKind.wrap .u32 ((IntKind.wrap .u32 (Int.tdiv (IntKind.wrap .u32 (Int.tdiv (IntKind.wrap .u32 (Int.tmod s1 100000000)) 10000)) 100)) * 2)) + 1))), (87, .int .u32 (IntKind.wrap .u32 ((IntKind.wrap .u32 (Int.tdiv (IntKind.wrap .u32 (Int.tdiv (IntKind.wrap .u32 (Int.tmod s1 100000000)) 10000)) 100)) * 2))), (86, .int .i64 (IntKind.wrap .i64 (s2 - 8))), (85, .int .i64 s2), (84, Sl.v a0), (83, .int .i64 (IntKind.wrap .i64 (s2 - 7))), (82, .int .i64 s2), (81, Sl.v a0)] ?_
    refine OJ.idxT (d := 89) (T := 9) (y := .const (.string str6)) (j := .tmp 88) (k := .u32) (fun hb91 hb92 => ?_)
    refine OJ.go 1 [(90, .int .u32 (IntKind.wrap .u32 ((IntKind.wrap .u32 (Int.tdiv (IntKind.wrap .u32 (Int.tdiv (IntKind.wrap .u32 (Int.tmod s1 100000000)) 10000)) 100)) * 2)))] ?_
    refine OJ.idxT (d := 91) (T := 9) (y := .const (.string str6)) (j := .tmp 90) (k := .u32) (fun hb93 hb94 => ?_)
    refine OJ.idxS (d := 92) (T := 55) (y := .tmp 81) (j := .tmp 83) (E := 5) (cap := a0.cap) (k := .i64) (fun p95 => ?_)
    refine OJ.st (y := .tmp 92) (z := .tmp 89) (owed := []) Ty5 ?_
    refine OW.nil ?_
    refine OJ.idxS (d := 93) (T := 55) (y := .tmp 84) (j := .tmp 86) (E := 5) (cap := a0.cap) (k := .i64) (fun p96 => ?_)
    refine OJ.st (y := .tmp 93) (z := .tmp 91) (owed := []) Ty5 ?_
    refine OW.nil ?_
    refine OJ.nil ?_
    refine SJ.rg 3 ?_
    refine OJ.go 3 [(4, .int .i64 (IntKind.wrap .i64 (s2 - 8))), (95, .int .i64 (IntKind.wrap .i64 (s2 - 8))), (94, .int .i64 s2)] ?_
    refine OJ.nil ?_
    refine SJ.inBlock ?_
    exact SJ.at_ [0, 1, 4] rfl
  · refine SJ.exit (id := 0) (by rfl) ?_
    refine SJ.less [0, 1, 4] (m' := [(0, Sl.v a0), (1, .int .u64 s1), (4, .int .i64 s2)]) ?_
    refine SJ.done ?_
    exact strconv_formatBase10.K3_ok a0 s1 s2
noncomputable def strconv_formatBase10 (a0 : Sl) (a1 : Int) : M Unit :=
  loopM (fun s_ : (Int × Int) => strconv_formatBase10.L1 a0 s_.1 s_.2) (a1, (a0.len : Int))
theorem strconv_formatBase10_ok (a0 : Sl) (a1 : Int) : Ref Tryd.prog 61 [Sl.v a0, .int .u64 a1] (strconv_formatBase10 a0 a1) strconv_formatBase10.out := by
  refine Ref.of (cd := strconv_formatBase10.B) Tryd.func61 ?_
  show SJ strconv_formatBase10.cx [.code strconv_formatBase10.B] [(0, Sl.v a0), (1, .int .u64 a1)] [] (strconv_formatBase10 a0 a1) strconv_formatBase10.F0
  unfold strconv_formatBase10
  refine SJ.sr 3 ?_
  refine OJ.go 3 [(4, .int .i64 (a0.len : Int)), (18, .int .i64 (a0.len : Int)), (17, Sl.v a0)] ?_
  refine OJ.nil ?_
  refine SJ.seq ?_
  refine SJ.block (id := 0) ?_
  exact SJ.loop (fun s_ : (Int × Int) => [(0, Sl.v a0), (1, .int .u64 s_.1), (4, .int .i64 s_.2)]) (fun s_ : (Int × Int) => []) [0, 1, 4] rfl (fun _ _ => rfl) (fun s_ => strconv_formatBase10.L1_ok a0 s_.1 s_.2)

/-! ### internal/strconv.isPowerOfTwo: function 72 -/
noncomputable def strconv_isPowerOfTwo.B : Code := (Tryd.f72.body).getD .skip
noncomputable def strconv_isPowerOfTwo.cx : Fx := ⟨Tryd.prog, 72, Tryd.f72⟩
noncomputable def strconv_isPowerOfTwo.out (r_ : Bool) : Value := .bool r_
noncomputable def strconv_isPowerOfTwo.F0 (r_ : Bool) : Reach := .ret (strconv_isPowerOfTwo.out r_)
noncomputable def strconv_isPowerOfTwo (a0 : Int) : M Bool :=
  pure ((band .i64 a0 (IntKind.wrap .i64 (a0 - 1))) == 0)
theorem strconv_isPowerOfTwo_ok (a0 : Int) : Ref Tryd.prog 72 [.int .i64 a0] (strconv_isPowerOfTwo a0) strconv_isPowerOfTwo.out := by
  refine Ref.of (cd := strconv_isPowerOfTwo.B) Tryd.func72 ?_
  show SJ strconv_isPowerOfTwo.cx [.code strconv_isPowerOfTwo.B] [(0, .int .i64 a0)] [] (strconv_isPowerOfTwo a0) strconv_isPowerOfTwo.F0
  unfold strconv_isPowerOfTwo
  refine SJ.sr 1 ?_
  refine OJ.go 1 [(2, .bool false)] ?_
  refine OJ.nil ?_
  refine SJ.sr 6 ?_
  refine OJ.go 6 [(2, .bool ((band .i64 a0 (IntKind.wrap .i64 (a0 - 1))) == 0)), (7, .bool ((band .i64 a0 (IntKind.wrap .i64 (a0 - 1))) == 0)), (6, .int .i64 (band .i64 a0 (IntKind.wrap .i64 (a0 - 1)))), (5, .int .i64 (IntKind.wrap .i64 (a0 - 1))), (4, .int .i64 a0), (3, .int .i64 a0)] ?_
  refine OJ.nil ?_
  exact SJ.ret rfl (Res.run (ys := [.bool ((band .i64 a0 (IntKind.wrap .i64 (a0 - 1))) == 0)]) (.tmp (by kernel_rfl) .nil) rfl)

/-! ### math/bits.TrailingZeros32: function 76 -/
noncomputable def bits_TrailingZeros32.B : Code := (Tryd.f76.body).getD .skip
noncomputable def bits_TrailingZeros32.cx : Fx := ⟨Tryd.prog, 76, Tryd.f76⟩
noncomputable def bits_TrailingZeros32.out (r_ : Int) : Value := .int .i64 r_
noncomputable def bits_TrailingZeros32.F0 (r_ : Int) : Reach := .ret (bits_TrailingZeros32.out r_)
noncomputable def bits_TrailingZeros32 (a0 : Int) : M Int :=
  if a0 = 0 then
    pure 32
  else
    idx (some ⟨3, 0, none⟩) 32 (Int.fdiv (IntKind.wrap .u32 ((band .u32 a0 (IntKind.wrap .u32 (0 - a0))) * 125613361)) (2 ^ 27)) 1 >>= fun p1 =>
    ld (cI .u8) p1 >>= fun x2 =>
    pure (IntKind.wrap .i64 x2)
theorem bits_TrailingZeros32_ok (a0 : Int) : Ref Tryd.prog 76 [.int .u32 a0] (bits_TrailingZeros32 a0) bits_TrailingZeros32.out := by
  refine Ref.of (cd := bits_TrailingZeros32.B) Tryd.func76 ?_
  show SJ bits_TrailingZeros32.cx [.code bits_TrailingZeros32.B] [(0, .int .u32 a0)] [] (bits_TrailingZeros32 a0) bits_TrailingZeros32.F0
  unfold bits_TrailingZeros32
  refine SJ.sr 1 ?_
  refine OJ.go 1 [(2, .int .i64 0)] ?_
  refine OJ.nil ?_
  refine SJ.seq ?_
  refine SJ.sr 2 ?_
  refine OJ.go 2 [(4, .bool (a0 == 0)), (3, .int .u32 a0)] ?_
  refine OJ.nil ?_
  refine SJ.cond (t := (.tmp 4)) (b := (a0 == 0)) beq_iff_eq (fun hc3 => ?_) (fun hc3 => ?_)
  · refine SJ.sr 1 ?_
    refine OJ.go 1 [(2, .int .i64 32)] ?_
    refine OJ.nil ?_
    exact SJ.ret rfl (Res.run (ys := [.int .i64 32]) (.tmp (by kernel_rfl) .nil) rfl)
  · refine SJ.skip ?_
    refine SJ.sr 10 ?_
    refine OJ.go 6 [(10, .int .u32 (Int.fdiv (IntKind.wrap .u32 ((band .u32 a0 (IntKind.wrap .u32 (0 - a0))) * 125613361)) (2 ^ 27))), (9, .int .u32 (IntKind.wrap .u32 ((band .u32 a0 (IntKind.wrap .u32 (0 - a0))) * 125613361))), (8, .int .u32 (band .u32 a0 (IntKind.wrap .u32 (0 - a0)))), (7, .int .u32 (IntKind.wrap .u32 (0 - a0))), (6, .int .u32 a0), (5, .int .u32 a0)] ?_
    refine OJ.idxA (d := 11) (T := 130) (y := .global 3) (j := .tmp 10) (E := 5) (k := .u32) (fun p1 => ?_)
    refine OJ.ld (d := 12) (y := .tmp 11) (pend2 := fun x2 => []) Ty5 (fun _ => rfl) (fun x2 => ?_)
    refine OJ.go 2 [(2, .int .i64 (IntKind.wrap .i64 x2)), (13, .int .i64 (IntKind.wrap .i64 x2))] ?_
    refine OJ.nil ?_
    exact SJ.ret rfl (Res.run (ys := [.int .i64 (IntKind.wrap .i64 x2)]) (.tmp (by kernel_rfl) .nil) rfl)

/-! ### math/bits.TrailingZeros64: function 77 -/
noncomputable def bits_TrailingZeros64.B : Code := (Tryd.f77.body).getD .skip
noncomputable def bits_TrailingZeros64.cx : Fx := ⟨Tryd.prog, 77, Tryd.f77⟩
noncomputable def bits_TrailingZeros64.out (r_ : Int) : Value := .int .i64 r_
noncomputable def bits_TrailingZeros64.F0 (r_ : Int) : Reach := .ret (bits_TrailingZeros64.out r_)
noncomputable def bits_TrailingZeros64 (a0 : Int) : M Int :=
  if a0 = 0 then
    pure 64
  else
    idx (some ⟨4, 0, none⟩) 64 (Int.fdiv (IntKind.wrap .u64 ((band .u64 a0 (IntKind.wrap .u64 (0 - a0))) * 285870213051353865)) (2 ^ 58)) 1 >>= fun p1 =>
    ld (cI .u8) p1 >>= fun x2 =>
    pure (IntKind.wrap .i64 x2)
theorem bits_TrailingZeros64_ok (a0 : Int) : Ref Tryd.prog 77 [.int .u64 a0] (bits_TrailingZeros64 a0) bits_TrailingZeros64.out := by
  refine Ref.of (cd := bits_TrailingZeros64.B) Tryd.func77 ?_
  show SJ bits_TrailingZeros64.cx [.code bits_TrailingZeros64.B] [(0, .int .u64 a0)] [] (bits_TrailingZeros64 a0) bits_TrailingZeros64.F0
  unfold bits_TrailingZeros64
  refine SJ.sr 1 ?_
  refine OJ.go 1 [(2, .int .i64 0)] ?_
  refine OJ.nil ?_
  refine SJ.seq ?_
  refine SJ.sr 2 ?_
  refine OJ.go 2 [(4, .bool (a0 == 0)), (3, .int .u64 a0)] ?_
  refine OJ.nil ?_
  refine SJ.cond (t := (.tmp 4)) (b := (a0 == 0)) beq_iff_eq (fun hc3 => ?_) (fun hc3 => ?_)
  · refine SJ.sr 1 ?_
    refine OJ.go 1 [(2, .int .i64 64)] ?_
    refine OJ.nil ?_
    exact SJ.ret rfl (Res.run (ys := [.int .i64 64]) (.tmp (by kernel_rfl) .nil) rfl)
  · refine SJ.skip ?_
    refine SJ.sr 10 ?_
    refine OJ.go 6 [(10, .int .u64 (Int.fdiv (IntKind.wrap .u64 ((band .u64 a0 (IntKind.wrap .u64 (0 - a0))) * 285870213051353865)) (2 ^ 58))), (9, .int .u64 (IntKind.wrap .u64 ((band .u64 a0 (IntKind.wrap .u64 (0 - a0))) * 285870213051353865))), (8, .int .u64 (band .u64 a0 (IntKind.wrap .u64 (0 - a0)))), (7, .int .u64 (IntKind.wrap .u64 (0 - a0))), (6, .int .u64 a0), (5, .int .u64 a0)] ?_
    refine OJ.idxA (d := 11) (T := 131) (y := .global 4) (j := .tmp 10) (E := 5) (k := .u64) (fun p1 => ?_)
    refine OJ.ld (d := 12) (y := .tmp 11) (pend2 := fun x2 => []) Ty5 (fun _ => rfl) (fun x2 => ?_)
    refine OJ.go 2 [(2, .int .i64 (IntKind.wrap .i64 x2)), (13, .int .i64 (IntKind.wrap .i64 x2))] ?_
    refine OJ.nil ?_
    exact SJ.ret rfl (Res.run (ys := [.int .i64 (IntKind.wrap .i64 x2)]) (.tmp (by kernel_rfl) .nil) rfl)

/-! ### math/bits.TrailingZeros: function 73 -/
noncomputable def bits_TrailingZeros.B : Code := (Tryd.f73.body).getD .skip
noncomputable def bits_TrailingZeros.cx : Fx := ⟨Tryd.prog, 73, Tryd.f73⟩
noncomputable def bits_TrailingZeros.out (r_ : Int) : Value := .int .i64 r_
noncomputable def bits_TrailingZeros.F0 (r_ : Int) : Reach := .ret (bits_TrailingZeros.out r_)
noncomputable def bits_TrailingZeros (a0 : Int) : M Int :=
  bits_TrailingZeros64 a0 >>= fun r1 =>
  pure r1
theorem bits_TrailingZeros_ok (a0 : Int) : Ref Tryd.prog 73 [.int .u64 a0] (bits_TrailingZeros a0) bits_TrailingZeros.out := by
  refine Ref.of (cd := bits_TrailingZeros.B) Tryd.func73 ?_
  show SJ bits_TrailingZeros.cx [.code bits_TrailingZeros.B] [(0, .int .u64 a0)] [] (bits_TrailingZeros a0) bits_TrailingZeros.F0
  unfold bits_TrailingZeros
  refine SJ.sr 1 ?_
  refine OJ.go 1 [(2, .int .i64 0)] ?_
  refine OJ.nil ?_
  refine SJ.seq ?_
  refine SJ.cond0 (t := (.const (.bool false))) ?_
  refine SJ.skip ?_
  refine SJ.sr 3 ?_
  refine OJ.go 1 [(6, .int .u64 a0)] ?_
  refine OJ.call (d := 7) (g := 77) (ats := #[113]) (args := [.tmp 6]) (owed := []) F77 (bits_TrailingZeros64_ok a0) (fun r1 => ?_)
  refine OW.nil ?_
  refine OJ.go 1 [(2, .int .i64 r1)] ?_
  refine OJ.nil ?_
  exact SJ.ret rfl (Res.run (ys := [.int .i64 r1]) (.tmp (by kernel_rfl) .nil) rfl)
end Go.Proofs.YtddmmgcfanpmmaaDoor.Lx
