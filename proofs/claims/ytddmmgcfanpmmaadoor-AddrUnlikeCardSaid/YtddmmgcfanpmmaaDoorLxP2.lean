/- Programs of the M-world for Go functions, each with the proof that the Go text does what it says. Printed by lxgen.py. -/
import Derived.Test.YtddmmgcfanpmmaaDoorLxT
import Derived.Test.YtddmmgcfanpmmaaDoorLxP0
import Derived.Test.YtddmmgcfanpmmaaDoorLxP1
set_option linter.unusedVariables false
set_option linter.unusedSimpArgs false
namespace Go.Proofs.YtddmmgcfanpmmaaDoor.Lx
open Go Go.Proofs
/-! ### (*weir/addr.six).group: function 50 -/
noncomputable def addr_six_group.B : Code := (Tryd.f50.body).getD .skip
noncomputable def addr_six_group.cx : Fx := ⟨Tryd.prog, 50, Tryd.f50⟩
noncomputable def addr_six_group.out (r_ : (Bool × (Option Addr))) : Value := .tuple #[.bool r_.1, .pointer r_.2]
noncomputable def addr_six_group.F0 (r_ : (Bool × (Option Addr))) : Reach := .ret (addr_six_group.out r_)
noncomputable def addr_six_group.K1 (a0 : (Option Addr)) (x2 : Int) (s3 : Int) (s4 : Int) : M (Bool × (Option Addr)) :=
  if s4 = x2 then
    nilck a0 >>= fun p22 =>
    ld cS p22 >>= fun x23 =>
    addr_missing x23 x2 >>= fun r24 =>
    pure (false, r24)
  else
    nilck a0 >>= fun p25 =>
    ld cS p25 >>= fun x26 =>
    (if s4 < (x26.size : Int) then
        nilck a0 >>= fun p27 =>
        ld cS p27 >>= fun x28 =>
        chk ((0 : Int) ≤ s4 ∧ s4 < (x28.size : Int)) >>= fun _ =>
        pure ((sb x28 s4) == 46)
      else
        pure false) >>= fun y31 =>
    (if y31 = true then
        nilck a0 >>= fun p32 =>
        ld cL (Addr.add p32 2) >>= fun x33 =>
        (if (x33.len : Int) > 0 then
            pure true
          else
            nilck a0 >>= fun p34 =>
            ld (cI .i64) (Addr.add p34 3) >>= fun x35 =>
            pure (decide (x35 ≥ 0))) >>= fun y36 =>
        pure y36
      else
        pure false) >>= fun y37 =>
    if y37 = true then
      addr_six_room a0 >>= fun r51 =>
      if r51 < 2 then
        newv 61 c_addr_fault (⟨44, x2⟩ : addr_fault) >>= fun b53 =>
        pure (false, (some (pt b53 0)))
      else
        nilck a0 >>= fun p54 =>
        ld cS p54 >>= fun x55 =>
        addr_four x55 x2 >>= fun r56 =>
        slot 86 >>= fun b57 =>
        draw >>= fun _ =>
        nilck a0 >>= fun p58 =>
        ld cL (Addr.add p58 2) >>= fun x59 =>
        slot 3 >>= fun b60 =>
        same cL (Addr.add p58 2) x59 >>= fun _ =>
        appl (cI .i64) 3 8 0 x59 [bor .i64 (IntKind.wrap .i64 ((IntKind.wrap .i64 (Vec.g r56.1 0 0)) * 2 ^ 8)) (IntKind.wrap .i64 (Vec.g r56.1 1 0)), bor .i64 (IntKind.wrap .i64 ((IntKind.wrap .i64 (Vec.g r56.1 2 0)) * 2 ^ 8)) (IntKind.wrap .i64 (Vec.g r56.1 3 0))] >>= fun r61 =>
        nilck a0 >>= fun p62 =>
        st cL (Addr.add p62 2) r61 >>= fun _ =>
        pure (true, r56.2)
    else
      addr_six_room a0 >>= fun r64 =>
      if r64 < 1 then
        newv 61 c_addr_fault (⟨44, x2⟩ : addr_fault) >>= fun b66 =>
        pure (false, (some (pt b66 0)))
      else
        if (IntKind.wrap .i64 (s4 - x2)) > 4 then
          newv 61 c_addr_fault (⟨43, x2⟩ : addr_fault) >>= fun b68 =>
          pure (false, (some (pt b68 0)))
        else
          nilck a0 >>= fun p69 =>
          ld cL (Addr.add p69 2) >>= fun x70 =>
          slot 3 >>= fun b71 =>
          appl (cI .i64) 3 8 0 x70 [s3] >>= fun r72 =>
          nilck a0 >>= fun p73 =>
          st cL (Addr.add p73 2) r72 >>= fun _ =>
          nilck a0 >>= fun p74 =>
          st (cI .i64) (Addr.add p74 1) s4 >>= fun _ =>
          pure (false, none)
theorem addr_six_group.K1_ok (a0 : (Option Addr)) (x2 : Int) (s3 : Int) (s4 : Int) :
    SJ addr_six_group.cx [.code (c2 (c2 (c2 (c2 addr_six_group.B))))] [(0, .pointer a0), (4, .int .i64 x2), (5, .int .i64 s3), (6, .int .i64 s4)] [] (addr_six_group.K1 a0 x2 s3 s4) addr_six_group.F0 := by
  unfold addr_six_group.K1
  refine SJ.seq ?_
  refine SJ.sr 3 ?_
  refine OJ.go 3 [(46, .bool (s4 == x2)), (45, .int .i64 x2), (44, .int .i64 s4)] ?_
  refine OJ.nil ?_
  refine SJ.cond (t := (.tmp 46)) (b := (s4 == x2)) beq_iff_eq (fun hc78 => ?_) (fun hc78 => ?_)
  · refine SJ.sr 8 ?_
    refine OJ.go 1 [(47, .pointer a0)] ?_
    refine OJ.nilck (d := 48) (y := .tmp 47) (fun p22 => ?_)
    refine OJ.go 1 [(49, .pointer (some p22))] ?_
    refine OJ.ld (d := 50) (y := .tmp 49) (pend2 := fun x23 => []) Ty9 (fun _ => rfl) (fun x23 => ?_)
    refine OJ.go 1 [(51, .int .i64 x2)] ?_
    refine OJ.call (d := 52) (g := 47) (ats := #[9, 3]) (args := [.tmp 50, .tmp 51]) (owed := []) F47 (addr_missing_ok x23 x2) (fun r24 => ?_)
    refine OW.nil ?_
    refine OJ.go 2 [(3, .pointer r24), (2, .bool false)] ?_
    refine OJ.nil ?_
    exact SJ.ret rfl (Res.run (ys := [.bool false, .pointer r24]) (.tmp (by kernel_rfl) (.tmp (by kernel_rfl) .nil)) rfl)
  · refine SJ.skip ?_
    refine SJ.seq ?_
    refine SJ.sr 31 ?_
    refine OJ.go 2 [(54, .pointer a0), (53, .int .i64 s4)] ?_
    refine OJ.nilck (d := 55) (y := .tmp 54) (fun p25 => ?_)
    refine OJ.go 1 [(56, .pointer (some p25))] ?_
    refine OJ.ld (d := 57) (y := .tmp 56) (pend2 := fun x26 => []) Ty9 (fun _ => rfl) (fun x26 => ?_)
    refine OJ.go 3 [(60, .bool (decide (s4 < (x26.size : Int)))), (59, .bool (decide (s4 < (x26.size : Int)))), (58, .int .i64 (x26.size : Int))] ?_
    refine OJ.join (b := decide (s4 < (x26.size : Int))) [8, 9, 10, 11, 12, 13, 14, 15] [16, 17, 18, 19, 20, 21, 22, 23, 24, 25, 26, 27, 28, 29, 30] [0, 4, 5, 6, 68] (fun y31 => [(0, .pointer a0), (4, .int .i64 x2), (5, .int .i64 s3), (6, .int .i64 s4), (68, .bool y31)]) [] [] (t := 60) decide_eq_true_iff (fun hp_ => ?_) (fun hp_ => ?_) (fun _ _ _ _ _ _ h_ => h_) (fun y31 => ?_)
    · refine OJ.go 1 [(61, .pointer a0)] ?_
      refine OJ.nilck (d := 62) (y := .tmp 61) (fun p27 => ?_)
      refine OJ.go 1 [(63, .pointer (some p27))] ?_
      refine OJ.ld (d := 64) (y := .tmp 63) (pend2 := fun x28 => []) Ty9 (fun _ => rfl) (fun x28 => ?_)
      refine OJ.go 1 [(65, .int .i64 s4)] ?_
      refine OJ.idxT (d := 66) (T := 9) (y := .tmp 64) (j := .tmp 65) (k := .i64) (fun hb29 hb30 => ?_)
      refine OJ.go 2 [(68, .bool ((sb x28 s4) == 46)), (67, .bool ((sb x28 s4) == 46))] ?_
      exact OJ.nil ⟨(Cov.mem Cov.nil), rfl, _, rfl, by kernel_rfl⟩
    · refine OJ.go 8 [(68, .bool false), (67, undef), (66, undef), (65, undef), (64, undef), (63, undef), (62, undef), (61, undef)] ?_
      exact OJ.nil ⟨(Cov.mem Cov.nil), rfl, _, rfl, by kernel_rfl⟩
    · refine OJ.go 1 [(69, .bool y31)] ?_
      refine OJ.join (b := y31) [17, 18, 19, 20, 21, 22, 23, 24, 25, 26, 27, 28, 29, 30] [] [0, 4, 5, 6, 83] (fun y37 => [(0, .pointer a0), (4, .int .i64 x2), (5, .int .i64 s3), (6, .int .i64 s4), (83, .bool y37)]) [] [] (t := 69) Iff.rfl (fun hp_ => ?_) (fun hp_ => ?_) (fun _ _ _ _ _ _ h_ => h_) (fun y37 => ?_)
      · refine OJ.go 1 [(70, .pointer a0)] ?_
        refine OJ.nilck (d := 71) (y := .tmp 70) (fun p32 => ?_)
        refine OJ.go 1 [(72, .pointer (some (Addr.add p32 2)))] ?_
        refine OJ.ld (d := 73) (y := .tmp 72) (pend2 := fun x33 => []) Ty23 (fun _ => rfl) (fun x33 => ?_)
        refine OJ.go 3 [(76, .bool (decide ((x33.len : Int) > 0))), (75, .bool (decide ((x33.len : Int) > 0))), (74, .int .i64 (x33.len : Int))] ?_
        refine OJ.join (b := decide ((x33.len : Int) > 0)) [24, 25, 26, 27, 28, 29] [30] [0, 4, 5, 6, 69, 82] (fun y36 => [(0, .pointer a0), (4, .int .i64 x2), (5, .int .i64 s3), (6, .int .i64 s4), (69, .bool true), (82, .bool y36)]) [] [] (t := 76) decide_eq_true_iff (fun hp_ => ?_) (fun hp_ => ?_) (fun _ _ _ _ _ hq_ h_ => ⟨fun e_ he_ => (hq_ e_ he_).elim (fun h => h_.1 e_ h) (fun h => nomatch h), h_.2⟩) (fun y36 => ?_)
        · refine OJ.go 6 [(82, .bool true), (81, undef), (80, undef), (79, undef), (78, undef), (77, undef)] ?_
          exact OJ.nil ⟨(Cov.mem Cov.nil), rfl, _, rfl, by kernel_rfl⟩
        · refine OJ.go 1 [(77, .pointer a0)] ?_
          refine OJ.nilck (d := 78) (y := .tmp 77) (fun p34 => ?_)
          refine OJ.go 1 [(79, .pointer (some (Addr.add p34 3)))] ?_
          refine OJ.ld (d := 80) (y := .tmp 79) (pend2 := fun x35 => []) Ty3 (fun _ => rfl) (fun x35 => ?_)
          refine OJ.go 2 [(82, .bool (decide (x35 ≥ 0))), (81, .bool (decide (x35 ≥ 0)))] ?_
          exact OJ.nil ⟨(Cov.mem Cov.nil), rfl, _, rfl, by kernel_rfl⟩
        · refine OJ.go 1 [(83, .bool y36)] ?_
          exact OJ.nil ⟨(Cov.mem Cov.nil), rfl, _, rfl, by kernel_rfl⟩
      · refine OJ.go 14 [(83, .bool false), (82, undef), (81, undef), (80, undef), (79, undef), (78, undef), (77, undef), (76, undef), (75, undef), (74, undef), (73, undef), (72, undef), (71, undef), (70, undef)] ?_
        exact OJ.nil ⟨(Cov.mem Cov.nil), rfl, _, rfl, by kernel_rfl⟩
      · refine OJ.nil ?_
        refine SJ.cond (t := (.tmp 83)) (b := y37) Iff.rfl (fun hc77 => ?_) (fun hc77 => ?_)
        · refine SJ.seq ?_
          refine SJ.sr 3 ?_
          refine OJ.go 1 [(84, .pointer a0)] ?_
          refine OJ.call (d := 85) (g := 57) (ats := #[89]) (args := [.tmp 84]) (owed := []) F57 (addr_six_room_ok a0) (fun r51 => ?_)
          refine OW.nil ?_
          refine OJ.go 1 [(86, .bool (decide (r51 < 2)))] ?_
          refine OJ.nil ?_
          refine SJ.cond (t := (.tmp 86)) (b := decide (r51 < 2)) decide_eq_true_iff (fun hc63 => ?_) (fun hc63 => ?_)
          · refine SJ.sr 5 ?_
            refine OJ.go 1 [(87, .int .i64 x2)] ?_
            refine OJ.build (d := 88) (T := 61) (parts := [(0, .const (.int .i64 44)), (1, .tmp 87)]) (ps := [(0, (cI .i64).val 44), (1, (cI .i64).val x2)]) (cd := c_addr_fault) (z0 := z_addr_fault) (⟨44, x2⟩ : addr_fault) Ty61 rfl (Filled.cons (cd := (cI .i64)) (q := 44) (o := 0) (by kernel_rfl) (Up_addr_fault_why z_addr_fault 44) (Filled.cons (cd := (cI .i64)) (q := x2) (o := 1) (by kernel_rfl) (Up_addr_fault_at_ (⟨44, z_addr_fault.at_⟩ : addr_fault) x2) Filled.nil)) ?_
            refine OJ.newOf (d := 89) (op := (.box 61 (.tmp 88))) (cd := c_addr_fault) (u := (⟨44, x2⟩ : addr_fault)) (owed := []) (box_run (by kernel_rfl)) (fun b53 => ?_)
            refine OW.nil ?_
            refine OJ.go 2 [(3, .pointer (some (pt b53 0))), (2, .bool false)] ?_
            refine OJ.nil ?_
            exact SJ.ret rfl (Res.run (ys := [.bool false, .pointer (some (pt b53 0))]) (.tmp (by kernel_rfl) (.tmp (by kernel_rfl) .nil)) rfl)
          · refine SJ.skip ?_
            refine SJ.sr 12 ?_
            refine OJ.go 1 [(91, .pointer a0)] ?_
            refine OJ.nilck (d := 92) (y := .tmp 91) (fun p54 => ?_)
            refine OJ.go 1 [(93, .pointer (some p54))] ?_
            refine OJ.ld (d := 94) (y := .tmp 93) (pend2 := fun x55 => []) Ty9 (fun _ => rfl) (fun x55 => ?_)
            refine OJ.go 1 [(95, .int .i64 x2)] ?_
            refine OJ.call (d := 96) (g := 38) (ats := #[9, 3]) (args := [.tmp 94, .tmp 95]) (owed := []) F38 (addr_four_ok x55 x2) (fun r56 => ?_)
            refine OW.nil ?_
            refine OJ.go 3 [(98, .pointer r56.2), (97, ((cI .u8).arr 4).val r56.1), (90, .tuple #[((cI .u8).arr 4).val r56.1, .pointer r56.2])] ?_
            refine OJ.slotOf (d := 7) (op := (.alloc 86)) (cd := ((cI .u8).arr 4)) (u := (Vec.rep 4 0)) (owed := []) (alloc_run Ty86) (fun b57 => ?_)
            refine OW.nil ?_
            refine OJ.kst (y := .tmp 7) (z := .tmp 97) (cd := ((cI .u8).arr 4)) (u := r56.1) (j := 0) (b := b57) (o := 0) (((cI .u8).arr 4).enc r56.1) (owed := []) Ty86 rfl (Upd.whole ((Cod.len _ _).trans (Cod.len _ _).symm)) rfl ?_
            refine OW.nil ?_
            refine OJ.go 1 [(8, .pointer r56.2)] ?_
            refine OJ.nil ?_
            refine SJ.seq ?_
            refine SJ.draw (id := 12) (kd := [0, 0, 0, 0, 1, 0, 1, 0, 0, 0, 1, 0, 0, 0, 1, 0, 0, 0, 1, 0, 0, 2, 2, 0, 0, 2]) (bef := [0, 0, 2, 6, 14, 0, 32, 96, 224, 0, 512, 1536, 4064, 0, 8192, 24576, 57344, 0, 131072, 393216, 1040384, 2097120, 4194302, 8388607, 16777215, 33554431]) (ord := [0, 1, 2, 3, 4, 5, 6, 7, 8, 9, 10, 11, 12, 13, 14, 15, 16, 17, 18, 19, 20, 21, 22, 23, 24, 25]) mixed ?_
            refine OJ.go 2 [(100, .pointer a0), (99, .pointer a0)] ?_
            refine OJ.nilck (d := 101) (y := .tmp 100) (fun p58 => ?_)
            refine OJ.go 1 [(102, .pointer (some (Addr.add p58 2)))] ?_
            refine OJ.ld (d := 103) (y := .tmp 102) (pend2 := fun x59 => [⟨4, 23, (Addr.add p58 2), cL.val x59⟩]) Ty23 (fun _ => rfl) (fun x59 => ?_)
            refine OJ.go 1 [(104, .pointer (some (pt b57 0)))] ?_
            refine OJ.kld (d := 105) (y := .tmp 104) (cd := (cI .u8)) (j := 0) (b := b57) (o := 0) (Vec.g r56.1 0 0) (pend2 := [⟨6, 5, (pt b57 0), (cI .u8).val (Vec.g r56.1 0 0)⟩, ⟨4, 23, (Addr.add p58 2), cL.val x59⟩]) Ty5 rfl (At.zero (At.arr (z := 0) (by decide) (by decide))) rfl ?_
            refine OJ.go 3 [(108, .pointer (some (pt b57 1))), (107, .int .i64 (IntKind.wrap .i64 ((IntKind.wrap .i64 (Vec.g r56.1 0 0)) * 2 ^ 8))), (106, .int .i64 (IntKind.wrap .i64 (Vec.g r56.1 0 0)))] ?_
            refine OJ.kld (d := 109) (y := .tmp 108) (cd := (cI .u8)) (j := 0) (b := b57) (o := 1) (Vec.g r56.1 1 0) (pend2 := [⟨10, 5, (pt b57 1), (cI .u8).val (Vec.g r56.1 1 0)⟩, ⟨6, 5, (pt b57 0), (cI .u8).val (Vec.g r56.1 0 0)⟩, ⟨4, 23, (Addr.add p58 2), cL.val x59⟩]) Ty5 rfl (At.zero (At.arr (z := 0) (by decide) (by decide))) rfl ?_
            refine OJ.go 3 [(112, .pointer (some (pt b57 2))), (111, .int .i64 (bor .i64 (IntKind.wrap .i64 ((IntKind.wrap .i64 (Vec.g r56.1 0 0)) * 2 ^ 8)) (IntKind.wrap .i64 (Vec.g r56.1 1 0)))), (110, .int .i64 (IntKind.wrap .i64 (Vec.g r56.1 1 0)))] ?_
            refine OJ.kld (d := 113) (y := .tmp 112) (cd := (cI .u8)) (j := 0) (b := b57) (o := 2) (Vec.g r56.1 2 0) (pend2 := [⟨14, 5, (pt b57 2), (cI .u8).val (Vec.g r56.1 2 0)⟩, ⟨10, 5, (pt b57 1), (cI .u8).val (Vec.g r56.1 1 0)⟩, ⟨6, 5, (pt b57 0), (cI .u8).val (Vec.g r56.1 0 0)⟩, ⟨4, 23, (Addr.add p58 2), cL.val x59⟩]) Ty5 rfl (At.zero (At.arr (z := 0) (by decide) (by decide))) rfl ?_
            refine OJ.go 3 [(116, .pointer (some (pt b57 3))), (115, .int .i64 (IntKind.wrap .i64 ((IntKind.wrap .i64 (Vec.g r56.1 2 0)) * 2 ^ 8))), (114, .int .i64 (IntKind.wrap .i64 (Vec.g r56.1 2 0)))] ?_
            refine OJ.kld (d := 117) (y := .tmp 116) (cd := (cI .u8)) (j := 0) (b := b57) (o := 3) (Vec.g r56.1 3 0) (pend2 := [⟨18, 5, (pt b57 3), (cI .u8).val (Vec.g r56.1 3 0)⟩, ⟨14, 5, (pt b57 2), (cI .u8).val (Vec.g r56.1 2 0)⟩, ⟨10, 5, (pt b57 1), (cI .u8).val (Vec.g r56.1 1 0)⟩, ⟨6, 5, (pt b57 0), (cI .u8).val (Vec.g r56.1 0 0)⟩, ⟨4, 23, (Addr.add p58 2), cL.val x59⟩]) Ty5 rfl (At.zero (At.arr (z := 0) (by decide) (by decide))) rfl ?_
            refine OJ.go 2 [(119, .int .i64 (bor .i64 (IntKind.wrap .i64 ((IntKind.wrap .i64 (Vec.g r56.1 2 0)) * 2 ^ 8)) (IntKind.wrap .i64 (Vec.g r56.1 3 0)))), (118, .int .i64 (IntKind.wrap .i64 (Vec.g r56.1 3 0)))] ?_
            refine OJ.rowSlot (d := 120) (t := 23) (parts := [(0, .tmp 111), (1, .tmp 119)]) (ps := [(0, (cI .i64).val (bor .i64 (IntKind.wrap .i64 ((IntKind.wrap .i64 (Vec.g r56.1 0 0)) * 2 ^ 8)) (IntKind.wrap .i64 (Vec.g r56.1 1 0)))), (1, (cI .i64).val (bor .i64 (IntKind.wrap .i64 ((IntKind.wrap .i64 (Vec.g r56.1 2 0)) * 2 ^ 8)) (IntKind.wrap .i64 (Vec.g r56.1 3 0))))]) (cd := (cI .i64)) (⟨[bor .i64 (IntKind.wrap .i64 ((IntKind.wrap .i64 (Vec.g r56.1 0 0)) * 2 ^ 8)) (IntKind.wrap .i64 (Vec.g r56.1 1 0)), bor .i64 (IntKind.wrap .i64 ((IntKind.wrap .i64 (Vec.g r56.1 2 0)) * 2 ^ 8)) (IntKind.wrap .i64 (Vec.g r56.1 3 0))], rfl⟩ : Vec Int 2) (owed := [⟨4, 23, (Addr.add p58 2), cL.val x59⟩]) Ty3 (Filled.cons (cd := (cI .i64)) (q := (bor .i64 (IntKind.wrap .i64 ((IntKind.wrap .i64 (Vec.g r56.1 0 0)) * 2 ^ 8)) (IntKind.wrap .i64 (Vec.g r56.1 1 0)))) (o := 0) rfl (Upd.arr (i := 0) (by decide) (by decide)) (Filled.cons (cd := (cI .i64)) (q := (bor .i64 (IntKind.wrap .i64 ((IntKind.wrap .i64 (Vec.g r56.1 2 0)) * 2 ^ 8)) (IntKind.wrap .i64 (Vec.g r56.1 3 0)))) (o := 1) rfl (Upd.arr (i := 1) (by decide) (by decide)) Filled.nil)) (fun b60 => ?_)
            refine OW.same Ty23 ?_
            refine OW.nil ?_
            refine OJ.appl (d := 121) (t := 23) (u := 23) (so := .tmp 103) (xo := .tmp 120) (j := 0) (b := b60) (l := ((cI .i64).arr 2).enc (⟨[bor .i64 (IntKind.wrap .i64 ((IntKind.wrap .i64 (Vec.g r56.1 0 0)) * 2 ^ 8)) (IntKind.wrap .i64 (Vec.g r56.1 1 0)), bor .i64 (IntKind.wrap .i64 ((IntKind.wrap .i64 (Vec.g r56.1 2 0)) * 2 ^ 8)) (IntKind.wrap .i64 (Vec.g r56.1 3 0))], rfl⟩ : Vec Int 2)) (n := 2) (k := 2) [bor .i64 (IntKind.wrap .i64 ((IntKind.wrap .i64 (Vec.g r56.1 0 0)) * 2 ^ 8)) (IntKind.wrap .i64 (Vec.g r56.1 1 0)), bor .i64 (IntKind.wrap .i64 ((IntKind.wrap .i64 (Vec.g r56.1 2 0)) * 2 ^ 8)) (IntKind.wrap .i64 (Vec.g r56.1 3 0))] (owed := []) Ty3 (by rfl) (Cod.arr_enc _ _ _) (by rfl) (fun r61 => ?_)
            refine OW.nil ?_
            refine OJ.nilck (d := 122) (y := .tmp 99) (fun p62 => ?_)
            refine OJ.go 1 [(123, .pointer (some (Addr.add p62 2)))] ?_
            refine OJ.st (y := .tmp 123) (z := .tmp 121) (owed := []) Ty23 ?_
            refine OW.nil ?_
            refine OJ.nil ?_
            refine SJ.sr 3 ?_
            refine OJ.go 3 [(3, .pointer r56.2), (2, .bool true), (124, .pointer r56.2)] ?_
            refine OJ.nil ?_
            exact SJ.ret rfl (Res.run (ys := [.bool true, .pointer r56.2]) (.tmp (by kernel_rfl) (.tmp (by kernel_rfl) .nil)) rfl)
        · refine SJ.skip ?_
          refine SJ.seq ?_
          refine SJ.sr 3 ?_
          refine OJ.go 1 [(125, .pointer a0)] ?_
          refine OJ.call (d := 126) (g := 57) (ats := #[89]) (args := [.tmp 125]) (owed := []) F57 (addr_six_room_ok a0) (fun r64 => ?_)
          refine OW.nil ?_
          refine OJ.go 1 [(127, .bool (decide (r64 < 1)))] ?_
          refine OJ.nil ?_
          refine SJ.cond (t := (.tmp 127)) (b := decide (r64 < 1)) decide_eq_true_iff (fun hc76 => ?_) (fun hc76 => ?_)
          · refine SJ.sr 5 ?_
            refine OJ.go 1 [(128, .int .i64 x2)] ?_
            refine OJ.build (d := 129) (T := 61) (parts := [(0, .const (.int .i64 44)), (1, .tmp 128)]) (ps := [(0, (cI .i64).val 44), (1, (cI .i64).val x2)]) (cd := c_addr_fault) (z0 := z_addr_fault) (⟨44, x2⟩ : addr_fault) Ty61 rfl (Filled.cons (cd := (cI .i64)) (q := 44) (o := 0) (by kernel_rfl) (Up_addr_fault_why z_addr_fault 44) (Filled.cons (cd := (cI .i64)) (q := x2) (o := 1) (by kernel_rfl) (Up_addr_fault_at_ (⟨44, z_addr_fault.at_⟩ : addr_fault) x2) Filled.nil)) ?_
            refine OJ.newOf (d := 130) (op := (.box 61 (.tmp 129))) (cd := c_addr_fault) (u := (⟨44, x2⟩ : addr_fault)) (owed := []) (box_run (by kernel_rfl)) (fun b66 => ?_)
            refine OW.nil ?_
            refine OJ.go 2 [(3, .pointer (some (pt b66 0))), (2, .bool false)] ?_
            refine OJ.nil ?_
            exact SJ.ret rfl (Res.run (ys := [.bool false, .pointer (some (pt b66 0))]) (.tmp (by kernel_rfl) (.tmp (by kernel_rfl) .nil)) rfl)
          · refine SJ.skip ?_
            refine SJ.seq ?_
            refine SJ.sr 4 ?_
            refine OJ.go 4 [(134, .bool (decide ((IntKind.wrap .i64 (s4 - x2)) > 4))), (133, .int .i64 (IntKind.wrap .i64 (s4 - x2))), (132, .int .i64 x2), (131, .int .i64 s4)] ?_
            refine OJ.nil ?_
            refine SJ.cond (t := (.tmp 134)) (b := decide ((IntKind.wrap .i64 (s4 - x2)) > 4)) decide_eq_true_iff (fun hc75 => ?_) (fun hc75 => ?_)
            · refine SJ.sr 5 ?_
              refine OJ.go 1 [(135, .int .i64 x2)] ?_
              refine OJ.build (d := 136) (T := 61) (parts := [(0, .const (.int .i64 43)), (1, .tmp 135)]) (ps := [(0, (cI .i64).val 43), (1, (cI .i64).val x2)]) (cd := c_addr_fault) (z0 := z_addr_fault) (⟨43, x2⟩ : addr_fault) Ty61 rfl (Filled.cons (cd := (cI .i64)) (q := 43) (o := 0) (by kernel_rfl) (Up_addr_fault_why z_addr_fault 43) (Filled.cons (cd := (cI .i64)) (q := x2) (o := 1) (by kernel_rfl) (Up_addr_fault_at_ (⟨43, z_addr_fault.at_⟩ : addr_fault) x2) Filled.nil)) ?_
              refine OJ.newOf (d := 137) (op := (.box 61 (.tmp 136))) (cd := c_addr_fault) (u := (⟨43, x2⟩ : addr_fault)) (owed := []) (box_run (by kernel_rfl)) (fun b68 => ?_)
              refine OW.nil ?_
              refine OJ.go 2 [(3, .pointer (some (pt b68 0))), (2, .bool false)] ?_
              refine OJ.nil ?_
              exact SJ.ret rfl (Res.run (ys := [.bool false, .pointer (some (pt b68 0))]) (.tmp (by kernel_rfl) (.tmp (by kernel_rfl) .nil)) rfl)
            · refine SJ.skip ?_
              refine SJ.sr 11 ?_
              refine OJ.go 2 [(139, .pointer a0), (138, .pointer a0)] ?_
              refine OJ.nilck (d := 140) (y := .tmp 139) (fun p69 => ?_)
              refine OJ.go 1 [(141, .pointer (some (Addr.add p69 2)))] ?_
              refine OJ.ld (d := 142) (y := .tmp 141) (pend2 := fun x70 => []) Ty23 (fun _ => rfl) (fun x70 => ?_)
              refine OJ.go 1 [(143, .int .i64 s3)] ?_
              refine OJ.rowSlot (d := 144) (t := 23) (parts := [(0, .tmp 143)]) (ps := [(0, (cI .i64).val s3)]) (cd := (cI .i64)) (⟨[s3], rfl⟩ : Vec Int 1) (owed := []) Ty3 (Filled.cons (cd := (cI .i64)) (q := s3) (o := 0) rfl (Upd.arr (i := 0) (by decide) (by decide)) Filled.nil) (fun b71 => ?_)
              refine OW.nil ?_
              refine OJ.appl (d := 145) (t := 23) (u := 23) (so := .tmp 142) (xo := .tmp 144) (j := 0) (b := b71) (l := ((cI .i64).arr 1).enc (⟨[s3], rfl⟩ : Vec Int 1)) (n := 1) (k := 1) [s3] (owed := []) Ty3 (by rfl) (Cod.arr_enc _ _ _) (by rfl) (fun r72 => ?_)
              refine OW.nil ?_
              refine OJ.nilck (d := 146) (y := .tmp 138) (fun p73 => ?_)
              refine OJ.go 1 [(147, .pointer (some (Addr.add p73 2)))] ?_
              refine OJ.st (y := .tmp 147) (z := .tmp 145) (owed := []) Ty23 ?_
              refine OW.nil ?_
              refine OJ.nil ?_
              refine SJ.sr 5 ?_
              refine OJ.go 2 [(149, .int .i64 s4), (148, .pointer a0)] ?_
              refine OJ.nilck (d := 150) (y := .tmp 148) (fun p74 => ?_)
              refine OJ.go 1 [(151, .pointer (some (Addr.add p74 1)))] ?_
              refine OJ.st (y := .tmp 151) (z := .tmp 149) (owed := []) Ty3 ?_
              refine OW.nil ?_
              refine OJ.nil ?_
              refine SJ.sr 2 ?_
              refine OJ.go 2 [(3, .pointer none), (2, .bool false)] ?_
              refine OJ.nil ?_
              exact SJ.ret rfl (Res.run (ys := [.bool false, .pointer none]) (.tmp (by kernel_rfl) (.tmp (by kernel_rfl) .nil)) rfl)
noncomputable def addr_six_group.F1 (a0 : (Option Addr)) (x2 : Int) : (LS (Int × Int) (Bool × (Option Addr))) → Reach := loopF [.inLoop (c1 (c1 (c1 (c2 (c2 (c2 addr_six_group.B)))))), .inBlock 0, .code (c2 (c2 (c2 (c2 addr_six_group.B))))] (fun s_ : (Int × Int) => [(0, .pointer a0), (4, .int .i64 x2), (5, .int .i64 s_.1), (6, .int .i64 s_.2)]) (fun s_ : (Int × Int) => []) addr_six_group.F0
noncomputable def addr_six_group.L1 (a0 : (Option Addr)) (x2 : Int) (s3 : Int) (s4 : Int) : M (LS (Int × Int) (Bool × (Option Addr))) :=
  nilck a0 >>= fun p79 =>
  ld cS p79 >>= fun x80 =>
  (if s4 < (x80.size : Int) then
      nilck a0 >>= fun p81 =>
      ld cS p81 >>= fun x82 =>
      chk ((0 : Int) ≤ s4 ∧ s4 < (x82.size : Int)) >>= fun _ =>
      addr_hexa (sb x82 s4) >>= fun r85 =>
      pure (decide (r85 ≥ 0))
    else
      pure false) >>= fun y86 =>
  if y86 = true then
    nilck a0 >>= fun p87 =>
    ld cS p87 >>= fun x88 =>
    chk ((0 : Int) ≤ s4 ∧ s4 < (x88.size : Int)) >>= fun _ =>
    addr_hexa (sb x88 s4) >>= fun r91 =>
    pure (LS.next (bor .i64 (band .i64 (IntKind.wrap .i64 (s3 * 2 ^ 4)) 1048575) r91, IntKind.wrap .i64 (s4 + 1)))
  else
    (addr_six_group.K1 a0 x2 s3 s4) >>= fun b => pure (LS.done b)
theorem addr_six_group.L1_ok (a0 : (Option Addr)) (x2 : Int) (s3 : Int) (s4 : Int) :
    SJ addr_six_group.cx [.code (c1 (c1 (c1 (c2 (c2 (c2 addr_six_group.B)))))), .inLoop (c1 (c1 (c1 (c2 (c2 (c2 addr_six_group.B)))))), .inBlock 0, .code (c2 (c2 (c2 (c2 addr_six_group.B))))] [(0, .pointer a0), (4, .int .i64 x2), (5, .int .i64 s3), (6, .int .i64 s4)] [] (addr_six_group.L1 a0 x2 s3 s4) (addr_six_group.F1 a0 x2) := by
  unfold addr_six_group.L1
  refine SJ.seq ?_
  refine SJ.sr 17 ?_
  refine OJ.go 2 [(15, .pointer a0), (14, .int .i64 s4)] ?_
  refine OJ.nilck (d := 16) (y := .tmp 15) (fun p79 => ?_)
  refine OJ.go 1 [(17, .pointer (some p79))] ?_
  refine OJ.ld (d := 18) (y := .tmp 17) (pend2 := fun x80 => []) Ty9 (fun _ => rfl) (fun x80 => ?_)
  refine OJ.go 3 [(21, .bool (decide (s4 < (x80.size : Int)))), (20, .bool (decide (s4 < (x80.size : Int)))), (19, .int .i64 (x80.size : Int))] ?_
  refine OJ.join (b := decide (s4 < (x80.size : Int))) [8, 9, 10, 11, 12, 13, 14, 15, 16] [] [0, 4, 5, 6, 30] (fun y86 => [(0, .pointer a0), (4, .int .i64 x2), (5, .int .i64 s3), (6, .int .i64 s4), (30, .bool y86)]) [] [] (t := 21) decide_eq_true_iff (fun hp_ => ?_) (fun hp_ => ?_) (fun _ _ _ _ _ _ h_ => h_) (fun y86 => ?_)
  · refine OJ.go 1 [(22, .pointer a0)] ?_
    refine OJ.nilck (d := 23) (y := .tmp 22) (fun p81 => ?_)
    refine OJ.go 1 [(24, .pointer (some p81))] ?_
    refine OJ.ld (d := 25) (y := .tmp 24) (pend2 := fun x82 => []) Ty9 (fun _ => rfl) (fun x82 => ?_)
    refine OJ.go 1 [(26, .int .i64 s4)] ?_
    refine OJ.idxT (d := 27) (T := 9) (y := .tmp 25) (j := .tmp 26) (k := .i64) (fun hb83 hb84 => ?_)
    refine OJ.call (d := 28) (g := 36) (ats := #[5]) (args := [.tmp 27]) (owed := []) F36 (addr_hexa_ok (sb x82 s4)) (fun r85 => ?_)
    refine OW.nil ?_
    refine OJ.go 2 [(30, .bool (decide (r85 ≥ 0))), (29, .bool (decide (r85 ≥ 0)))] ?_
    exact OJ.nil ⟨(Cov.mem Cov.nil), rfl, _, rfl, by kernel_rfl⟩
  · refine OJ.go 9 [(30, .bool false), (29, undef), (28, undef), (27, undef), (26, undef), (25, undef), (24, undef), (23, undef), (22, undef)] ?_
    exact OJ.nil ⟨(Cov.mem Cov.nil), rfl, _, rfl, by kernel_rfl⟩
  · refine OJ.nil ?_
    refine SJ.cond (t := (.tmp 30)) (b := y86) Iff.rfl (fun hc92 => ?_) (fun hc92 => ?_)
    · refine SJ.skip ?_
      refine SJ.block (id := 1) ?_
      refine SJ.sr 12 ?_
      refine OJ.go 4 [(34, .pointer a0), (33, .int .i64 (band .i64 (IntKind.wrap .i64 (s3 * 2 ^ 4)) 1048575)), (32, .int .i64 (IntKind.wrap .i64 (s3 * 2 ^ 4))), (31, .int .i64 s3)] ?_
      refine OJ.nilck (d := 35) (y := .tmp 34) (fun p87 => ?_)
      refine OJ.go 1 [(36, .pointer (some p87))] ?_
      refine OJ.ld (d := 37) (y := .tmp 36) (pend2 := fun x88 => []) Ty9 (fun _ => rfl) (fun x88 => ?_)
      refine OJ.go 1 [(38, .int .i64 s4)] ?_
      refine OJ.idxT (d := 39) (T := 9) (y := .tmp 37) (j := .tmp 38) (k := .i64) (fun hb89 hb90 => ?_)
      refine OJ.call (d := 40) (g := 36) (ats := #[5]) (args := [.tmp 39]) (owed := []) F36 (addr_hexa_ok (sb x88 s4)) (fun r91 => ?_)
      refine OW.nil ?_
      refine OJ.go 2 [(5, .int .i64 (bor .i64 (band .i64 (IntKind.wrap .i64 (s3 * 2 ^ 4)) 1048575) r91)), (41, .int .i64 (bor .i64 (band .i64 (IntKind.wrap .i64 (s3 * 2 ^ 4)) 1048575) r91))] ?_
      refine OJ.nil ?_
      refine SJ.rg 3 ?_
      refine OJ.go 3 [(6, .int .i64 (IntKind.wrap .i64 (s4 + 1))), (43, .int .i64 (IntKind.wrap .i64 (s4 + 1))), (42, .int .i64 s4)] ?_
      refine OJ.nil ?_
      refine SJ.inBlock ?_
      exact SJ.at_ [0, 4, 5, 6] rfl
    · refine SJ.exit (id := 0) (by rfl) ?_
      refine SJ.less [0, 4, 5, 6] (m' := [(0, .pointer a0), (4, .int .i64 x2), (5, .int .i64 s3), (6, .int .i64 s4)]) ?_
      refine SJ.done ?_
      exact addr_six_group.K1_ok a0 x2 s3 s4
noncomputable def addr_six_group (a0 : (Option Addr)) : M (Bool × (Option Addr)) :=
  nilck a0 >>= fun p1 =>
  ld (cI .i64) (Addr.add p1 1) >>= fun x2 =>
  loopM (fun s_ : (Int × Int) => addr_six_group.L1 a0 x2 s_.1 s_.2) (0, x2)
theorem addr_six_group_ok (a0 : (Option Addr)) : Ref Tryd.prog 50 [.pointer a0] (addr_six_group a0) addr_six_group.out := by
  refine Ref.of (cd := addr_six_group.B) Tryd.func50 ?_
  show SJ addr_six_group.cx [.code addr_six_group.B] [(0, .pointer a0)] [] (addr_six_group a0) addr_six_group.F0
  unfold addr_six_group
  refine SJ.sr 2 ?_
  refine OJ.go 2 [(3, .pointer none), (2, .bool false)] ?_
  refine OJ.nil ?_
  refine SJ.sr 6 ?_
  refine OJ.go 1 [(9, .pointer a0)] ?_
  refine OJ.nilck (d := 10) (y := .tmp 9) (fun p1 => ?_)
  refine OJ.go 1 [(11, .pointer (some (Addr.add p1 1)))] ?_
  refine OJ.ld (d := 12) (y := .tmp 11) (pend2 := fun x2 => []) Ty3 (fun _ => rfl) (fun x2 => ?_)
  refine OJ.go 2 [(5, .int .i64 0), (4, .int .i64 x2)] ?_
  refine OJ.nil ?_
  refine SJ.sr 2 ?_
  refine OJ.go 2 [(6, .int .i64 x2), (13, .int .i64 x2)] ?_
  refine OJ.nil ?_
  refine SJ.seq ?_
  refine SJ.block (id := 0) ?_
  exact SJ.loop (fun s_ : (Int × Int) => [(0, .pointer a0), (4, .int .i64 x2), (5, .int .i64 s_.1), (6, .int .i64 s_.2)]) (fun s_ : (Int × Int) => []) [0, 4, 5, 6] rfl (fun _ _ => rfl) (fun s_ => addr_six_group.L1_ok a0 x2 s_.1 s_.2)

/-! ### (*weir/addr.six).read: function 39 -/
noncomputable def addr_six_read.B : Code := (Tryd.f39.body).getD .skip
noncomputable def addr_six_read.cx : Fx := ⟨Tryd.prog, 39, Tryd.f39⟩
noncomputable def addr_six_read.out (r_ : (Option Addr)) : Value := .pointer r_
noncomputable def addr_six_read.F0 (r_ : (Option Addr)) : Reach := .ret (addr_six_read.out r_)
noncomputable def addr_six_read.F1 (a0 : (Option Addr)) : (LS Bool (Option Addr)) → Reach := loopF [.inLoop (c1 (c1 (c2 (c2 (c2 addr_six_read.B))))), .inBlock 0] (fun s_ : Bool => [(0, .pointer a0), (5, .bool s_)]) (fun s_ : Bool => []) addr_six_read.F0
noncomputable def addr_six_read.L1 (a0 : (Option Addr)) (s4 : Bool) : M (LS Bool (Option Addr)) :=
  draw >>= fun _ =>
  nilck a0 >>= fun p5 =>
  ld (cI .i64) (Addr.add p5 1) >>= fun x6 =>
  nilck a0 >>= fun p7 =>
  ld cS p7 >>= fun x8 =>
  (if x6 = (x8.size : Int) then
      pure s4
    else
      pure false) >>= fun y9 =>
  if y9 = true then
    pure (LS.done none)
  else
    addr_six_group a0 >>= fun r10 =>
    if ¬ (r10.2 = none) then
      pure (LS.done r10.2)
    else
      draw >>= fun _ =>
      (if r10.1 = true then
          pure true
        else
          nilck a0 >>= fun p11 =>
          ld (cI .i64) (Addr.add p11 1) >>= fun x12 =>
          nilck a0 >>= fun p13 =>
          ld cS p13 >>= fun x14 =>
          pure (x12 == (x14.size : Int))) >>= fun y15 =>
      if y15 = true then
        nilck a0 >>= fun p28 =>
        ld (cI .i64) (Addr.add p28 3) >>= fun x29 =>
        (if x29 < 0 then
            nilck a0 >>= fun p30 =>
            ld cL (Addr.add p30 2) >>= fun x31 =>
            pure ((x31.len : Int) != 8)
          else
            pure false) >>= fun y32 =>
        if y32 = true then
          nilck a0 >>= fun p36 =>
          ld cS p36 >>= fun x37 =>
          newv 61 c_addr_fault (⟨42, (x37.size : Int)⟩ : addr_fault) >>= fun b38 =>
          pure (LS.done (some (pt b38 0)))
        else
          pure (LS.done none)
      else
        addr_six_double a0 >>= fun r40 =>
        if ¬ (r40.2 = none) then
          pure (LS.done r40.2)
        else
          if ¬ (r40.1 = true) then
            draw >>= fun _ =>
            nilck a0 >>= fun p57 =>
            ld cS p57 >>= fun x58 =>
            nilck a0 >>= fun p59 =>
            ld (cI .i64) (Addr.add p59 1) >>= fun x60 =>
            chk ((0 : Int) ≤ x60 ∧ x60 < (x58.size : Int)) >>= fun _ =>
            if (sb x58 x60) ≠ 58 then
              nilck a0 >>= fun p66 =>
              ld (cI .i64) (Addr.add p66 1) >>= fun x67 =>
              newv 61 c_addr_fault (⟨41, x67⟩ : addr_fault) >>= fun b68 =>
              pure (LS.done (some (pt b68 0)))
            else
              nilck a0 >>= fun p69 =>
              ld (cI .i64) (Addr.add p69 1) >>= fun x70 =>
              nilck a0 >>= fun p71 =>
              st (cI .i64) (Addr.add p71 1) (IntKind.wrap .i64 (x70 + 1)) >>= fun _ =>
              pure (LS.next r40.1)
          else
            pure (LS.next r40.1)
theorem addr_six_read.L1_ok (a0 : (Option Addr)) (s4 : Bool) :
    SJ addr_six_read.cx [.code (c1 (c1 (c2 (c2 (c2 addr_six_read.B))))), .inLoop (c1 (c1 (c2 (c2 (c2 addr_six_read.B))))), .inBlock 0] [(0, .pointer a0), (5, .bool s4)] [] (addr_six_read.L1 a0 s4) (addr_six_read.F1 a0) := by
  unfold addr_six_read.L1
  refine SJ.block (id := 1) ?_
  refine SJ.seq ?_
  refine SJ.seq ?_
  refine SJ.draw (id := 5) (kd := [0, 0, 0, 1, 0, 0, 0, 1, 0, 0, 0, 0, 0]) (bef := [0, 1, 3, 7, 0, 16, 48, 112, 240, 511, 1023, 2047, 4095]) (ord := [0, 1, 2, 3, 4, 5, 6, 7, 8, 9, 10, 11, 12]) mixed ?_
  refine OJ.go 1 [(21, .pointer a0)] ?_
  refine OJ.nilck (d := 22) (y := .tmp 21) (fun p5 => ?_)
  refine OJ.go 1 [(23, .pointer (some (Addr.add p5 1)))] ?_
  refine OJ.ld (d := 24) (y := .tmp 23) (pend2 := fun x6 => [⟨3, 3, (Addr.add p5 1), (cI .i64).val x6⟩]) Ty3 (fun _ => rfl) (fun x6 => ?_)
  refine OJ.go 1 [(25, .pointer a0)] ?_
  refine OJ.nilck (d := 26) (y := .tmp 25) (fun p7 => ?_)
  refine OJ.go 1 [(27, .pointer (some p7))] ?_
  refine OJ.ld (d := 28) (y := .tmp 27) (pend2 := fun x8 => [⟨7, 9, p7, cS.val x8⟩, ⟨3, 3, (Addr.add p5 1), (cI .i64).val x6⟩]) Ty9 (fun _ => rfl) (fun x8 => ?_)
  refine OJ.go 3 [(31, .bool (x6 == (x8.size : Int))), (30, .bool (x6 == (x8.size : Int))), (29, .int .i64 (x8.size : Int))] ?_
  refine OJ.join (b := (x6 == (x8.size : Int))) [11, 12] [] [0, 33] (fun y9 => [(0, .pointer a0), (33, .bool y9)]) [⟨7, 9, p7, cS.val x8⟩, ⟨3, 3, (Addr.add p5 1), (cI .i64).val x6⟩] [] (t := 31) beq_iff_eq (fun hp_ => ?_) (fun hp_ => ?_) (fun _ _ _ _ _ _ h_ => h_) (fun y9 => ?_)
  · refine OJ.go 2 [(33, .bool s4), (32, .bool s4)] ?_
    exact OJ.nil ⟨(Cov.mem (Cov.keep (List.mem_of_getElem? (i := 0) rfl) (Cov.keep (List.mem_of_getElem? (i := 1) rfl) Cov.nil))), rfl, _, rfl, by kernel_rfl⟩
  · refine OJ.go 2 [(33, .bool false), (32, undef)] ?_
    exact OJ.nil ⟨(Cov.mem (Cov.keep (List.mem_of_getElem? (i := 0) rfl) (Cov.keep (List.mem_of_getElem? (i := 1) rfl) Cov.nil))), rfl, _, rfl, by kernel_rfl⟩
  · refine OJ.nil ?_
    refine SJ.cond (t := (.tmp 33)) (b := y9) Iff.rfl (fun hc77 => ?_) (fun hc77 => ?_)
    · refine SJ.sr 1 ?_
      refine OJ.go 1 [(2, .pointer none)] ?_
      refine OJ.nil ?_
      exact SJ.ret rfl (Res.run (ys := [.pointer none]) (.tmp (by kernel_rfl) .nil) rfl)
    · refine SJ.skip ?_
      refine SJ.sr 7 ?_
      refine OJ.go 1 [(35, .pointer a0)] ?_
      refine OJ.call (d := 36) (g := 50) (ats := #[89]) (args := [.tmp 35]) (owed := []) F50 (addr_six_group_ok a0) (fun r10 => ?_)
      refine OW.nil ?_
      refine OJ.go 5 [(7, .pointer r10.2), (6, .bool r10.1), (38, .pointer r10.2), (37, .bool r10.1), (34, .tuple #[.bool r10.1, .pointer r10.2])] ?_
      refine OJ.nil ?_
      refine SJ.seq ?_
      refine SJ.sr 2 ?_
      refine OJ.go 2 [(40, .bool (!(Option.isNone r10.2))), (39, .pointer r10.2)] ?_
      refine OJ.nil ?_
      refine SJ.cond (t := (.tmp 40)) (b := (!(Option.isNone r10.2))) (bnot_iff Option.isNone_iff_eq_none) (fun hc76 => ?_) (fun hc76 => ?_)
      · refine SJ.sr 2 ?_
        refine OJ.go 2 [(2, .pointer r10.2), (41, .pointer r10.2)] ?_
        refine OJ.nil ?_
        exact SJ.ret rfl (Res.run (ys := [.pointer r10.2]) (.tmp (by kernel_rfl) .nil) rfl)
      · refine SJ.skip ?_
        refine SJ.seq ?_
        refine SJ.seq ?_
        refine SJ.draw (id := 10) (kd := [0, 0, 0, 0, 0, 1, 0, 0, 0, 1, 0, 0, 0]) (bef := [0, 1, 3, 7, 15, 31, 3, 67, 195, 451, 963, 2047, 4095]) (ord := [0, 1, 2, 3, 4, 5, 6, 7, 8, 9, 10, 11, 12]) mixed ?_
        refine OJ.go 2 [(43, .bool r10.1), (42, .bool r10.1)] ?_
        refine OJ.join (b := r10.1) [2, 3, 4, 5, 6, 7, 8, 9, 10, 11, 12] [] [0, 54] (fun y15 => [(0, .pointer a0), (54, .bool y15)]) [] [5, 9] (t := 43) Iff.rfl (fun hp_ => ?_) (fun hp_ => ?_) (fun _ _ _ _ _ _ h_ => h_) (fun y15 => ?_)
        · refine OJ.go 11 [(54, .bool true), (53, undef), (52, undef), (51, undef), (50, undef), (49, undef), (48, undef), (47, undef), (46, undef), (45, undef), (44, undef)] ?_
          exact OJ.nil ⟨(Cov.mem Cov.nil), rfl, _, rfl, by kernel_rfl⟩
        · refine OJ.go 1 [(44, .pointer a0)] ?_
          refine OJ.nilck (d := 45) (y := .tmp 44) (fun p11 => ?_)
          refine OJ.go 1 [(46, .pointer (some (Addr.add p11 1)))] ?_
          refine OJ.ld (d := 47) (y := .tmp 46) (pend2 := fun x12 => [⟨5, 3, (Addr.add p11 1), (cI .i64).val x12⟩]) Ty3 (fun _ => rfl) (fun x12 => ?_)
          refine OJ.go 1 [(48, .pointer a0)] ?_
          refine OJ.nilck (d := 49) (y := .tmp 48) (fun p13 => ?_)
          refine OJ.go 1 [(50, .pointer (some p13))] ?_
          refine OJ.ld (d := 51) (y := .tmp 50) (pend2 := fun x14 => [⟨9, 9, p13, cS.val x14⟩, ⟨5, 3, (Addr.add p11 1), (cI .i64).val x12⟩]) Ty9 (fun _ => rfl) (fun x14 => ?_)
          refine OJ.go 3 [(54, .bool (x12 == (x14.size : Int))), (53, .bool (x12 == (x14.size : Int))), (52, .int .i64 (x14.size : Int))] ?_
          exact OJ.nil ⟨(Cov.mem (Cov.drop (List.mem_of_getElem? (i := 1) rfl) (Cov.drop (List.mem_of_getElem? (i := 0) rfl) Cov.nil))), rfl, _, rfl, by kernel_rfl⟩
        · refine OJ.nil ?_
          refine SJ.cond (t := (.tmp 54)) (b := y15) Iff.rfl (fun hc75 => ?_) (fun hc75 => ?_)
          · refine SJ.seq ?_
            refine SJ.sr 13 ?_
            refine OJ.go 1 [(55, .pointer a0)] ?_
            refine OJ.nilck (d := 56) (y := .tmp 55) (fun p28 => ?_)
            refine OJ.go 1 [(57, .pointer (some (Addr.add p28 3)))] ?_
            refine OJ.ld (d := 58) (y := .tmp 57) (pend2 := fun x29 => []) Ty3 (fun _ => rfl) (fun x29 => ?_)
            refine OJ.go 2 [(60, .bool (decide (x29 < 0))), (59, .bool (decide (x29 < 0)))] ?_
            refine OJ.join (b := decide (x29 < 0)) [6, 7, 8, 9, 10, 11, 12] [] [0, 67] (fun y32 => [(0, .pointer a0), (67, .bool y32)]) [] [] (t := 60) decide_eq_true_iff (fun hp_ => ?_) (fun hp_ => ?_) (fun _ _ _ _ _ _ h_ => h_) (fun y32 => ?_)
            · refine OJ.go 1 [(61, .pointer a0)] ?_
              refine OJ.nilck (d := 62) (y := .tmp 61) (fun p30 => ?_)
              refine OJ.go 1 [(63, .pointer (some (Addr.add p30 2)))] ?_
              refine OJ.ld (d := 64) (y := .tmp 63) (pend2 := fun x31 => []) Ty23 (fun _ => rfl) (fun x31 => ?_)
              refine OJ.go 3 [(67, .bool ((x31.len : Int) != 8)), (66, .bool ((x31.len : Int) != 8)), (65, .int .i64 (x31.len : Int))] ?_
              exact OJ.nil ⟨(Cov.mem Cov.nil), rfl, _, rfl, by kernel_rfl⟩
            · refine OJ.go 7 [(67, .bool false), (66, undef), (65, undef), (64, undef), (63, undef), (62, undef), (61, undef)] ?_
              exact OJ.nil ⟨(Cov.mem Cov.nil), rfl, _, rfl, by kernel_rfl⟩
            · refine OJ.nil ?_
              refine SJ.cond (t := (.tmp 67)) (b := y32) Iff.rfl (fun hc39 => ?_) (fun hc39 => ?_)
              · refine SJ.sr 8 ?_
                refine OJ.go 1 [(68, .pointer a0)] ?_
                refine OJ.nilck (d := 69) (y := .tmp 68) (fun p36 => ?_)
                refine OJ.go 1 [(70, .pointer (some p36))] ?_
                refine OJ.ld (d := 71) (y := .tmp 70) (pend2 := fun x37 => []) Ty9 (fun _ => rfl) (fun x37 => ?_)
                refine OJ.go 1 [(72, .int .i64 (x37.size : Int))] ?_
                refine OJ.build (d := 73) (T := 61) (parts := [(0, .const (.int .i64 42)), (1, .tmp 72)]) (ps := [(0, (cI .i64).val 42), (1, (cI .i64).val (x37.size : Int))]) (cd := c_addr_fault) (z0 := z_addr_fault) (⟨42, (x37.size : Int)⟩ : addr_fault) Ty61 rfl (Filled.cons (cd := (cI .i64)) (q := 42) (o := 0) (by kernel_rfl) (Up_addr_fault_why z_addr_fault 42) (Filled.cons (cd := (cI .i64)) (q := (x37.size : Int)) (o := 1) (by kernel_rfl) (Up_addr_fault_at_ (⟨42, z_addr_fault.at_⟩ : addr_fault) (x37.size : Int)) Filled.nil)) ?_
                refine OJ.newOf (d := 74) (op := (.box 61 (.tmp 73))) (cd := c_addr_fault) (u := (⟨42, (x37.size : Int)⟩ : addr_fault)) (owed := []) (box_run (by kernel_rfl)) (fun b38 => ?_)
                refine OW.nil ?_
                refine OJ.go 1 [(2, .pointer (some (pt b38 0)))] ?_
                refine OJ.nil ?_
                exact SJ.ret rfl (Res.run (ys := [.pointer (some (pt b38 0))]) (.tmp (by kernel_rfl) .nil) rfl)
              · refine SJ.skip ?_
                refine SJ.sr 1 ?_
                refine OJ.go 1 [(2, .pointer none)] ?_
                refine OJ.nil ?_
                exact SJ.ret rfl (Res.run (ys := [.pointer none]) (.tmp (by kernel_rfl) .nil) rfl)
          · refine SJ.skip ?_
            refine SJ.sr 7 ?_
            refine OJ.go 1 [(76, .pointer a0)] ?_
            refine OJ.call (d := 77) (g := 49) (ats := #[89]) (args := [.tmp 76]) (owed := []) F49 (addr_six_double_ok a0) (fun r40 => ?_)
            refine OW.nil ?_
            refine OJ.go 5 [(7, .pointer r40.2), (5, .bool r40.1), (79, .pointer r40.2), (78, .bool r40.1), (75, .tuple #[.bool r40.1, .pointer r40.2])] ?_
            refine OJ.nil ?_
            refine SJ.seq ?_
            refine SJ.sr 2 ?_
            refine OJ.go 2 [(81, .bool (!(Option.isNone r40.2))), (80, .pointer r40.2)] ?_
            refine OJ.nil ?_
            refine SJ.cond (t := (.tmp 81)) (b := (!(Option.isNone r40.2))) (bnot_iff Option.isNone_iff_eq_none) (fun hc74 => ?_) (fun hc74 => ?_)
            · refine SJ.sr 2 ?_
              refine OJ.go 2 [(2, .pointer r40.2), (82, .pointer r40.2)] ?_
              refine OJ.nil ?_
              exact SJ.ret rfl (Res.run (ys := [.pointer r40.2]) (.tmp (by kernel_rfl) .nil) rfl)
            · refine SJ.skip ?_
              refine SJ.sr 2 ?_
              refine OJ.go 2 [(84, .bool (!r40.1)), (83, .bool r40.1)] ?_
              refine OJ.nil ?_
              refine SJ.cond (t := (.tmp 84)) (b := (!r40.1)) (bnot_iff Iff.rfl) (fun hc73 => ?_) (fun hc73 => ?_)
              · refine SJ.seq ?_
                refine SJ.seq ?_
                refine SJ.draw (id := 18) (kd := [0, 0, 0, 1, 0, 0, 0, 1, 0, 0]) (bef := [0, 1, 3, 7, 0, 16, 48, 112, 255, 511]) (ord := [0, 1, 2, 3, 4, 5, 6, 7, 8, 9]) mixed ?_
                refine OJ.go 1 [(85, .pointer a0)] ?_
                refine OJ.nilck (d := 86) (y := .tmp 85) (fun p57 => ?_)
                refine OJ.go 1 [(87, .pointer (some p57))] ?_
                refine OJ.ld (d := 88) (y := .tmp 87) (pend2 := fun x58 => [⟨3, 9, p57, cS.val x58⟩]) Ty9 (fun _ => rfl) (fun x58 => ?_)
                refine OJ.go 1 [(89, .pointer a0)] ?_
                refine OJ.nilck (d := 90) (y := .tmp 89) (fun p59 => ?_)
                refine OJ.go 1 [(91, .pointer (some (Addr.add p59 1)))] ?_
                refine OJ.ld (d := 92) (y := .tmp 91) (pend2 := fun x60 => [⟨7, 3, (Addr.add p59 1), (cI .i64).val x60⟩, ⟨3, 9, p57, cS.val x58⟩]) Ty3 (fun _ => rfl) (fun x60 => ?_)
                refine OJ.idxT (d := 93) (T := 9) (y := .tmp 88) (j := .tmp 92) (k := .i64) (fun hb61 hb62 => ?_)
                refine OJ.go 1 [(94, .bool ((sb x58 x60) != 58))] ?_
                refine OJ.nil ?_
                refine SJ.cond (t := (.tmp 94)) (b := ((sb x58 x60) != 58)) bne_iff_ne (fun hc72 => ?_) (fun hc72 => ?_)
                · refine SJ.sr 7 ?_
                  refine OJ.go 1 [(95, .pointer a0)] ?_
                  refine OJ.nilck (d := 96) (y := .tmp 95) (fun p66 => ?_)
                  refine OJ.go 1 [(97, .pointer (some (Addr.add p66 1)))] ?_
                  refine OJ.ld (d := 98) (y := .tmp 97) (pend2 := fun x67 => []) Ty3 (fun _ => rfl) (fun x67 => ?_)
                  refine OJ.build (d := 99) (T := 61) (parts := [(0, .const (.int .i64 41)), (1, .tmp 98)]) (ps := [(0, (cI .i64).val 41), (1, (cI .i64).val x67)]) (cd := c_addr_fault) (z0 := z_addr_fault) (⟨41, x67⟩ : addr_fault) Ty61 rfl (Filled.cons (cd := (cI .i64)) (q := 41) (o := 0) (by kernel_rfl) (Up_addr_fault_why z_addr_fault 41) (Filled.cons (cd := (cI .i64)) (q := x67) (o := 1) (by kernel_rfl) (Up_addr_fault_at_ (⟨41, z_addr_fault.at_⟩ : addr_fault) x67) Filled.nil)) ?_
                  refine OJ.newOf (d := 100) (op := (.box 61 (.tmp 99))) (cd := c_addr_fault) (u := (⟨41, x67⟩ : addr_fault)) (owed := []) (box_run (by kernel_rfl)) (fun b68 => ?_)
                  refine OW.nil ?_
                  refine OJ.go 1 [(2, .pointer (some (pt b68 0)))] ?_
                  refine OJ.nil ?_
                  exact SJ.ret rfl (Res.run (ys := [.pointer (some (pt b68 0))]) (.tmp (by kernel_rfl) .nil) rfl)
                · refine SJ.skip ?_
                  refine SJ.rg 8 ?_
                  refine OJ.go 1 [(101, .pointer a0)] ?_
                  refine OJ.nilck (d := 102) (y := .tmp 101) (fun p69 => ?_)
                  refine OJ.go 1 [(103, .pointer (some (Addr.add p69 1)))] ?_
                  refine OJ.ld (d := 104) (y := .tmp 103) (pend2 := fun x70 => []) Ty3 (fun _ => rfl) (fun x70 => ?_)
                  refine OJ.go 1 [(105, .int .i64 (IntKind.wrap .i64 (x70 + 1)))] ?_
                  refine OJ.nilck (d := 106) (y := .tmp 101) (fun p71 => ?_)
                  refine OJ.go 1 [(107, .pointer (some (Addr.add p71 1)))] ?_
                  refine OJ.st (y := .tmp 107) (z := .tmp 105) (owed := []) Ty3 ?_
                  refine OW.nil ?_
                  refine OJ.nil ?_
                  refine SJ.inBlock ?_
                  exact SJ.at_ [0, 5] rfl
              · refine SJ.skip ?_
                refine SJ.inBlock ?_
                exact SJ.at_ [0, 5] rfl
noncomputable def addr_six_read (a0 : (Option Addr)) : M (Option Addr) :=
  addr_six_double a0 >>= fun r1 =>
  if ¬ (r1.2 = none) then
    pure r1.2
  else
    nilck a0 >>= fun p2 =>
    ld (cI .i64) (Addr.add p2 3) >>= fun x3 =>
    loopM (fun s_ : Bool => addr_six_read.L1 a0 s_) (decide (x3 ≥ 0))
theorem addr_six_read_ok (a0 : (Option Addr)) : Ref Tryd.prog 39 [.pointer a0] (addr_six_read a0) addr_six_read.out := by
  refine Ref.of (cd := addr_six_read.B) Tryd.func39 ?_
  show SJ addr_six_read.cx [.code addr_six_read.B] [(0, .pointer a0)] [] (addr_six_read a0) addr_six_read.F0
  unfold addr_six_read
  refine SJ.sr 1 ?_
  refine OJ.go 1 [(2, .pointer none)] ?_
  refine OJ.nil ?_
  refine SJ.seq ?_
  refine SJ.sr 7 ?_
  refine OJ.go 1 [(9, .pointer a0)] ?_
  refine OJ.call (d := 10) (g := 49) (ats := #[89]) (args := [.tmp 9]) (owed := []) F49 (addr_six_double_ok a0) (fun r1 => ?_)
  refine OW.nil ?_
  refine OJ.go 5 [(4, .pointer r1.2), (3, .bool r1.1), (12, .pointer r1.2), (11, .bool r1.1), (8, .tuple #[.bool r1.1, .pointer r1.2])] ?_
  refine OJ.nil ?_
  refine SJ.sr 2 ?_
  refine OJ.go 2 [(14, .bool (!(Option.isNone r1.2))), (13, .pointer r1.2)] ?_
  refine OJ.nil ?_
  refine SJ.cond (t := (.tmp 14)) (b := (!(Option.isNone r1.2))) (bnot_iff Option.isNone_iff_eq_none) (fun hc78 => ?_) (fun hc78 => ?_)
  · refine SJ.sr 2 ?_
    refine OJ.go 2 [(2, .pointer r1.2), (15, .pointer r1.2)] ?_
    refine OJ.nil ?_
    exact SJ.ret rfl (Res.run (ys := [.pointer r1.2]) (.tmp (by kernel_rfl) .nil) rfl)
  · refine SJ.skip ?_
    refine SJ.sr 6 ?_
    refine OJ.go 1 [(16, .pointer a0)] ?_
    refine OJ.nilck (d := 17) (y := .tmp 16) (fun p2 => ?_)
    refine OJ.go 1 [(18, .pointer (some (Addr.add p2 3)))] ?_
    refine OJ.ld (d := 19) (y := .tmp 18) (pend2 := fun x3 => []) Ty3 (fun _ => rfl) (fun x3 => ?_)
    refine OJ.go 2 [(5, .bool (decide (x3 ≥ 0))), (20, .bool (decide (x3 ≥ 0)))] ?_
    refine OJ.nil ?_
    refine SJ.block (id := 0) ?_
    exact SJ.loop (fun s_ : Bool => [(0, .pointer a0), (5, .bool s_)]) (fun s_ : Bool => []) [0, 5] rfl (fun _ _ => rfl) (fun s_ => addr_six_read.L1_ok a0 s_)

/-! ### (*weir/addr.six).bytes: function 40 -/
noncomputable def addr_six_bytes.B : Code := (Tryd.f40.body).getD .skip
noncomputable def addr_six_bytes.cx : Fx := ⟨Tryd.prog, 40, Tryd.f40⟩
noncomputable def addr_six_bytes.out (r_ : (Vec Int 16)) : Value := ((cI .u8).arr 16).val r_
noncomputable def addr_six_bytes.F0 (r_ : (Vec Int 16)) : Reach := .ret (addr_six_bytes.out r_)
noncomputable def addr_six_bytes.F1 (a0 : (Option Addr)) (b1 : Nat) (b2 : Nat) (x4 : Sl) : (LS (Int × (Vec Int 16)) (Vec Int 16)) → Reach := loopF [.inLoop (c1 (c1 (c2 (c1 (c2 (c2 addr_six_bytes.B)))))), .inBlock 0, .code (c2 (c2 (c2 addr_six_bytes.B)))] (fun s_ : (Int × (Vec Int 16)) => [(0, .pointer a0), (2, .pointer (some (pt b1 0))), (3, .pointer (some (pt b2 0))), (9, Sl.v x4), (10, .int .i64 (x4.len : Int)), (11, .int .i64 s_.1)]) (fun s_ : (Int × (Vec Int 16)) => [(b2, ((cI .u8).arr 16).enc s_.2), (b1, ((cI .u8).arr 16).enc (Vec.rep 16 0))]) addr_six_bytes.F0
noncomputable def addr_six_bytes.K1 (s5 : Int) (s6 : (Vec Int 16)) (x26 : Int) (j34 : Int) : M (LS (Int × (Vec Int 16)) (Vec Int 16)) :=
  chk ((0 : Int) ≤ (IntKind.wrap .i64 (2 * j34)) ∧ (IntKind.wrap .i64 (2 * j34)) < (16 : Nat)) >>= fun _ =>
  chk ((0 : Int) ≤ (IntKind.wrap .i64 ((IntKind.wrap .i64 (2 * j34)) + 1)) ∧ (IntKind.wrap .i64 ((IntKind.wrap .i64 (2 * j34)) + 1)) < (16 : Nat)) >>= fun _ =>
  pure (LS.next (IntKind.wrap .i64 (s5 + 1), (Vec.s (Vec.s s6 (IntKind.wrap .i64 (2 * j34)) (IntKind.wrap .u8 (Int.fdiv x26 (2 ^ 8)))) (IntKind.wrap .i64 ((IntKind.wrap .i64 (2 * j34)) + 1)) (IntKind.wrap .u8 x26))))
theorem addr_six_bytes.K1_ok (a0 : (Option Addr)) (b1 : Nat) (b2 : Nat) (x4 : Sl) (s5 : Int) (s6 : (Vec Int 16)) (x26 : Int) (j34 : Int) :
    SJ addr_six_bytes.cx [.code (c2 (c2 (c1 (c1 (c2 (c2 (c1 (c1 (c2 (c1 (c2 (c2 addr_six_bytes.B)))))))))))), .inBlock 1, .code (c2 (c2 (c2 (c1 (c1 (c2 (c1 (c2 (c2 addr_six_bytes.B))))))))), .inLoop (c1 (c1 (c2 (c1 (c2 (c2 addr_six_bytes.B)))))), .inBlock 0, .code (c2 (c2 (c2 addr_six_bytes.B)))] [(0, .pointer a0), (2, .pointer (some (pt b1 0))), (3, .pointer (some (pt b2 0))), (9, Sl.v x4), (10, .int .i64 (x4.len : Int)), (11, .int .i64 s5), (4, .int .i64 j34), (5, .int .i64 x26)] [(b2, ((cI .u8).arr 16).enc s6), (b1, ((cI .u8).arr 16).enc (Vec.rep 16 0))] (addr_six_bytes.K1 s5 s6 x26 j34) (addr_six_bytes.F1 a0 b1 b2 x4) := by
  unfold addr_six_bytes.K1
  refine SJ.rg 14 ?_
  refine OJ.go 10 [(46, .int .u8 (IntKind.wrap .u8 x26)), (45, .int .i64 x26), (44, .int .u8 (IntKind.wrap .u8 (Int.fdiv x26 (2 ^ 8)))), (43, .int .i64 (Int.fdiv x26 (2 ^ 8))), (42, .int .i64 x26), (41, .int .i64 (IntKind.wrap .i64 ((IntKind.wrap .i64 (2 * j34)) + 1))), (40, .int .i64 (IntKind.wrap .i64 (2 * j34))), (39, .int .i64 j34), (38, .int .i64 (IntKind.wrap .i64 (2 * j34))), (37, .int .i64 j34)] ?_
  refine OJ.idxK (d := 47) (T := 22) (y := .tmp 3) (j := .tmp 38) (E := 5) (sz := 1) (b := b2) (o := 0) (k := .i64) (fun hb35 hb36 => ?_)
  refine OJ.kst (y := .tmp 47) (z := .tmp 44) (cd := (cI .u8)) (u := (IntKind.wrap .u8 (Int.fdiv x26 (2 ^ 8)))) (j := 0) (b := b2) (o := (0 + (IntKind.wrap .i64 (2 * j34)).toNat * 1)) (((cI .u8).arr 16).enc (Vec.s s6 (IntKind.wrap .i64 (2 * j34)) (IntKind.wrap .u8 (Int.fdiv x26 (2 ^ 8))))) (owed := []) Ty5 rfl (Upd.zero (Upd.arr hb35 hb36)) rfl ?_
  refine OW.nil ?_
  refine OJ.idxK (d := 48) (T := 22) (y := .tmp 3) (j := .tmp 41) (E := 5) (sz := 1) (b := b2) (o := 0) (k := .i64) (fun hb37 hb38 => ?_)
  refine OJ.kst (y := .tmp 48) (z := .tmp 46) (cd := (cI .u8)) (u := (IntKind.wrap .u8 x26)) (j := 0) (b := b2) (o := (0 + (IntKind.wrap .i64 ((IntKind.wrap .i64 (2 * j34)) + 1)).toNat * 1)) (((cI .u8).arr 16).enc (Vec.s (Vec.s s6 (IntKind.wrap .i64 (2 * j34)) (IntKind.wrap .u8 (Int.fdiv x26 (2 ^ 8)))) (IntKind.wrap .i64 ((IntKind.wrap .i64 (2 * j34)) + 1)) (IntKind.wrap .u8 x26))) (owed := []) Ty5 rfl (Upd.zero (Upd.arr hb37 hb38)) rfl ?_
  refine OW.nil ?_
  refine OJ.nil ?_
  refine SJ.inBlock ?_
  refine SJ.rg 2 ?_
  refine OJ.go 2 [(11, .int .i64 (IntKind.wrap .i64 (s5 + 1))), (49, .int .i64 (IntKind.wrap .i64 (s5 + 1)))] ?_
  refine OJ.nil ?_
  exact SJ.at_ [0, 2, 3, 9, 10, 11] rfl
noncomputable def addr_six_bytes.L1 (a0 : (Option Addr)) (x4 : Sl) (s5 : Int) (s6 : (Vec Int 16)) : M (LS (Int × (Vec Int 16)) (Vec Int 16)) :=
  if s5 < (x4.len : Int) then
    idx x4.a x4.len s5 1 >>= fun p25 =>
    ld (cI .i64) p25 >>= fun x26 =>
    nilck a0 >>= fun p27 =>
    ld (cI .i64) (Addr.add p27 3) >>= fun x28 =>
    (if x28 ≥ 0 then
        nilck a0 >>= fun p29 =>
        ld (cI .i64) (Addr.add p29 3) >>= fun x30 =>
        pure (decide (s5 ≥ x30))
      else
        pure false) >>= fun y31 =>
    if y31 = true then
      nilck a0 >>= fun p39 =>
      ld cL (Addr.add p39 2) >>= fun x40 =>
      addr_six_bytes.K1 s5 s6 x26 (IntKind.wrap .i64 (s5 + (IntKind.wrap .i64 (8 - (x40.len : Int)))))
    else
      addr_six_bytes.K1 s5 s6 x26 s5
  else
    pure (LS.done s6)
theorem addr_six_bytes.L1_ok (a0 : (Option Addr)) (b1 : Nat) (b2 : Nat) (x4 : Sl) (s5 : Int) (s6 : (Vec Int 16)) :
    SJ addr_six_bytes.cx [.code (c1 (c1 (c2 (c1 (c2 (c2 addr_six_bytes.B)))))), .inLoop (c1 (c1 (c2 (c1 (c2 (c2 addr_six_bytes.B)))))), .inBlock 0, .code (c2 (c2 (c2 addr_six_bytes.B)))] [(0, .pointer a0), (2, .pointer (some (pt b1 0))), (3, .pointer (some (pt b2 0))), (9, Sl.v x4), (10, .int .i64 (x4.len : Int)), (11, .int .i64 s5)] [(b2, ((cI .u8).arr 16).enc s6), (b1, ((cI .u8).arr 16).enc (Vec.rep 16 0))] (addr_six_bytes.L1 a0 x4 s5 s6) (addr_six_bytes.F1 a0 b1 b2 x4) := by
  unfold addr_six_bytes.L1
  refine SJ.sr 1 ?_
  refine OJ.go 1 [(12, .bool (decide (s5 < (x4.len : Int))))] ?_
  refine OJ.nil ?_
  refine SJ.seq ?_
  refine SJ.cond (t := (.tmp 12)) (b := decide (s5 < (x4.len : Int))) decide_eq_true_iff (fun hc42 => ?_) (fun hc42 => ?_)
  · refine SJ.skip ?_
    refine SJ.seq ?_
    refine SJ.block (id := 1) ?_
    refine SJ.sr 5 ?_
    refine OJ.go 1 [(13, .int .i64 s5)] ?_
    refine OJ.idxS (d := 14) (T := 23) (y := .tmp 9) (j := .tmp 11) (E := 3) (cap := x4.cap) (k := .i64) (fun p25 => ?_)
    refine OJ.ld (d := 15) (y := .tmp 14) (pend2 := fun x26 => []) Ty3 (fun _ => rfl) (fun x26 => ?_)
    refine OJ.go 2 [(5, .int .i64 x26), (4, .int .i64 s5)] ?_
    refine OJ.nil ?_
    refine SJ.seq ?_
    refine SJ.sr 13 ?_
    refine OJ.go 1 [(16, .pointer a0)] ?_
    refine OJ.nilck (d := 17) (y := .tmp 16) (fun p27 => ?_)
    refine OJ.go 1 [(18, .pointer (some (Addr.add p27 3)))] ?_
    refine OJ.ld (d := 19) (y := .tmp 18) (pend2 := fun x28 => []) Ty3 (fun _ => rfl) (fun x28 => ?_)
    refine OJ.go 2 [(21, .bool (decide (x28 ≥ 0))), (20, .bool (decide (x28 ≥ 0)))] ?_
    refine OJ.join (b := decide (x28 ≥ 0)) [6, 7, 8, 9, 10, 11, 12] [] [0, 2, 3, 9, 10, 11, 4, 5, 28] (fun y31 => [(0, .pointer a0), (2, .pointer (some (pt b1 0))), (3, .pointer (some (pt b2 0))), (9, Sl.v x4), (10, .int .i64 (x4.len : Int)), (11, .int .i64 s5), (4, .int .i64 s5), (5, .int .i64 x26), (28, .bool y31)]) [] [] (t := 21) decide_eq_true_iff (fun hp_ => ?_) (fun hp_ => ?_) (fun _ _ _ _ _ _ h_ => h_) (fun y31 => ?_)
    · refine OJ.go 2 [(23, .pointer a0), (22, .int .i64 s5)] ?_
      refine OJ.nilck (d := 24) (y := .tmp 23) (fun p29 => ?_)
      refine OJ.go 1 [(25, .pointer (some (Addr.add p29 3)))] ?_
      refine OJ.ld (d := 26) (y := .tmp 25) (pend2 := fun x30 => []) Ty3 (fun _ => rfl) (fun x30 => ?_)
      refine OJ.go 2 [(28, .bool (decide (s5 ≥ x30))), (27, .bool (decide (s5 ≥ x30)))] ?_
      exact OJ.nil ⟨(Cov.mem Cov.nil), rfl, _, rfl, by kernel_rfl⟩
    · refine OJ.go 7 [(28, .bool false), (27, undef), (26, undef), (25, undef), (24, undef), (23, undef), (22, undef)] ?_
      exact OJ.nil ⟨(Cov.mem Cov.nil), rfl, _, rfl, by kernel_rfl⟩
    · refine OJ.nil ?_
      refine SJ.cond (t := (.tmp 28)) (b := y31) Iff.rfl (fun hc41 => ?_) (fun hc41 => ?_)
      · refine SJ.rg 9 ?_
        refine OJ.go 2 [(30, .pointer a0), (29, .int .i64 s5)] ?_
        refine OJ.nilck (d := 31) (y := .tmp 30) (fun p39 => ?_)
        refine OJ.go 1 [(32, .pointer (some (Addr.add p39 2)))] ?_
        refine OJ.ld (d := 33) (y := .tmp 32) (pend2 := fun x40 => []) Ty23 (fun _ => rfl) (fun x40 => ?_)
        refine OJ.go 4 [(4, .int .i64 (IntKind.wrap .i64 (s5 + (IntKind.wrap .i64 (8 - (x40.len : Int)))))), (36, .int .i64 (IntKind.wrap .i64 (s5 + (IntKind.wrap .i64 (8 - (x40.len : Int)))))), (35, .int .i64 (IntKind.wrap .i64 (8 - (x40.len : Int)))), (34, .int .i64 (x40.len : Int))] ?_
        refine OJ.nil ?_
        refine SJ.less [0, 2, 3, 9, 10, 11, 4, 5] (m' := [(0, .pointer a0), (2, .pointer (some (pt b1 0))), (3, .pointer (some (pt b2 0))), (9, Sl.v x4), (10, .int .i64 (x4.len : Int)), (11, .int .i64 s5), (4, .int .i64 (IntKind.wrap .i64 (s5 + (IntKind.wrap .i64 (8 - (x40.len : Int)))))), (5, .int .i64 x26)]) ?_
        exact addr_six_bytes.K1_ok a0 b1 b2 x4 s5 s6 x26 (IntKind.wrap .i64 (s5 + (IntKind.wrap .i64 (8 - (x40.len : Int)))))
      · refine SJ.skip ?_
        refine SJ.less [0, 2, 3, 9, 10, 11, 4, 5] (m' := [(0, .pointer a0), (2, .pointer (some (pt b1 0))), (3, .pointer (some (pt b2 0))), (9, Sl.v x4), (10, .int .i64 (x4.len : Int)), (11, .int .i64 s5), (4, .int .i64 s5), (5, .int .i64 x26)]) ?_
        exact addr_six_bytes.K1_ok a0 b1 b2 x4 s5 s6 x26 s5
  · refine SJ.exit (id := 0) (by rfl) ?_
    refine SJ.sr 2 ?_
    refine OJ.kld (d := 50) (y := .tmp 3) (cd := ((cI .u8).arr 16)) (j := 0) (b := b2) (o := 0) s6 (pend2 := []) Ty22 rfl (At.whole _) rfl ?_
    refine OJ.kst (y := .tmp 2) (z := .tmp 50) (cd := ((cI .u8).arr 16)) (u := s6) (j := 1) (b := b1) (o := 0) (((cI .u8).arr 16).enc s6) (owed := []) Ty22 rfl (Upd.whole ((Cod.len _ _).trans (Cod.len _ _).symm)) rfl ?_
    refine OW.nil ?_
    refine OJ.nil ?_
    exact SJ.ret rfl (Res.run (ys := [((cI .u8).arr 16).val s6]) (.cell (j := 1) (b := b1) (cd := ((cI .u8).arr 16)) (q := s6) (by kernel_rfl) rfl Ty22 (At.whole _) .nil) rfl)
noncomputable def addr_six_bytes (a0 : (Option Addr)) : M (Vec Int 16) :=
  slot 22 >>= fun b1 =>
  slot 22 >>= fun b2 =>
  nilck a0 >>= fun p3 =>
  ld cL (Addr.add p3 2) >>= fun x4 =>
  loopM (fun s_ : (Int × (Vec Int 16)) => addr_six_bytes.L1 a0 x4 s_.1 s_.2) (0, (Vec.rep 16 0))
theorem addr_six_bytes_ok (a0 : (Option Addr)) : Ref Tryd.prog 40 [.pointer a0] (addr_six_bytes a0) addr_six_bytes.out := by
  refine Ref.of (cd := addr_six_bytes.B) Tryd.func40 ?_
  show SJ addr_six_bytes.cx [.code addr_six_bytes.B] [(0, .pointer a0)] [] (addr_six_bytes a0) addr_six_bytes.F0
  unfold addr_six_bytes
  refine SJ.sr 1 ?_
  refine OJ.slotOf (d := 2) (op := (.alloc 22)) (cd := ((cI .u8).arr 16)) (u := (Vec.rep 16 0)) (owed := []) (alloc_run Ty22) (fun b1 => ?_)
  refine OW.nil ?_
  refine OJ.nil ?_
  refine SJ.sr 1 ?_
  refine OJ.slotOf (d := 3) (op := (.alloc 22)) (cd := ((cI .u8).arr 16)) (u := (Vec.rep 16 0)) (owed := []) (alloc_run Ty22) (fun b2 => ?_)
  refine OW.nil ?_
  refine OJ.nil ?_
  refine SJ.seq ?_
  refine SJ.sr 6 ?_
  refine OJ.go 1 [(6, .pointer a0)] ?_
  refine OJ.nilck (d := 7) (y := .tmp 6) (fun p3 => ?_)
  refine OJ.go 1 [(8, .pointer (some (Addr.add p3 2)))] ?_
  refine OJ.ld (d := 9) (y := .tmp 8) (pend2 := fun x4 => []) Ty23 (fun _ => rfl) (fun x4 => ?_)
  refine OJ.go 2 [(11, .int .i64 0), (10, .int .i64 (x4.len : Int))] ?_
  refine OJ.nil ?_
  refine SJ.block (id := 0) ?_
  exact SJ.loop (fun s_ : (Int × (Vec Int 16)) => [(0, .pointer a0), (2, .pointer (some (pt b1 0))), (3, .pointer (some (pt b2 0))), (9, Sl.v x4), (10, .int .i64 (x4.len : Int)), (11, .int .i64 s_.1)]) (fun s_ : (Int × (Vec Int 16)) => [(b2, ((cI .u8).arr 16).enc s_.2), (b1, ((cI .u8).arr 16).enc (Vec.rep 16 0))]) [0, 2, 3, 9, 10, 11] rfl (fun _ _ => rfl) (fun s_ => addr_six_bytes.L1_ok a0 b1 b2 x4 s_.1 s_.2)

/-! ### weir/addr.parse: function 23 -/
noncomputable def addr_parse.B : Code := (Tryd.f23.body).getD .skip
noncomputable def addr_parse.cx : Fx := ⟨Tryd.prog, 23, Tryd.f23⟩
noncomputable def addr_parse.out (r_ : (api_IP × (Option Addr))) : Value := .tuple #[c_api_IP.val r_.1, .pointer r_.2]
noncomputable def addr_parse.F0 (r_ : (api_IP × (Option Addr))) : Reach := .ret (addr_parse.out r_)
noncomputable def addr_parse (a0 : ByteArray) : M (api_IP × (Option Addr)) :=
  slot 27 >>= fun b1 =>
  if (a0.size : Int) > 45 then
    newv 61 c_addr_fault (⟨2, 45⟩ : addr_fault) >>= fun b3 =>
    pure (z_api_IP, (some (pt b3 0)))
  else
    strings_Contains a0 str7 >>= fun r4 =>
    if ¬ (r4 = true) then
      addr_four a0 0 >>= fun r8 =>
      slot 86 >>= fun b9 =>
      if ¬ (r8.2 = none) then
        pure (z_api_IP, r8.2)
      else
        pure ((⟨4, (⟨[(Vec.g r8.1 0 0), (Vec.g r8.1 1 0), (Vec.g r8.1 2 0), (Vec.g r8.1 3 0), 0, 0, 0, 0, 0, 0, 0, 0, 0, 0, 0, 0], rfl⟩ : (Vec Int 16))⟩ : api_IP), none)
    else
      newv 91 c_addr_six (⟨a0, z_addr_six.at_, z_addr_six.groups, (-1)⟩ : addr_six) >>= fun b11 =>
      addr_six_read (some (pt b11 0)) >>= fun r12 =>
      if ¬ (r12 = none) then
        pure (z_api_IP, r12)
      else
        addr_six_bytes (some (pt b11 0)) >>= fun r13 =>
        pure ((⟨6, r13⟩ : api_IP), none)
theorem addr_parse_ok (a0 : ByteArray) : Ref Tryd.prog 23 [.string a0] (addr_parse a0) addr_parse.out := by
  refine Ref.of (cd := addr_parse.B) Tryd.func23 ?_
  show SJ addr_parse.cx [.code addr_parse.B] [(0, .string a0)] [] (addr_parse a0) addr_parse.F0
  unfold addr_parse
  refine SJ.sr 2 ?_
  refine OJ.slotOf (d := 2) (op := (.alloc 27)) (cd := c_api_IP) (u := z_api_IP) (owed := []) (alloc_run Ty27) (fun b1 => ?_)
  refine OW.nil ?_
  refine OJ.go 1 [(3, .pointer none)] ?_
  refine OJ.nil ?_
  refine SJ.seq ?_
  refine SJ.sr 3 ?_
  refine OJ.go 3 [(10, .bool (decide ((a0.size : Int) > 45))), (9, .int .i64 (a0.size : Int)), (8, .string a0)] ?_
  refine OJ.nil ?_
  refine SJ.cond (t := (.tmp 10)) (b := decide ((a0.size : Int) > 45)) decide_eq_true_iff (fun hc16 => ?_) (fun hc16 => ?_)
  · refine SJ.sr 5 ?_
    refine OJ.build (d := 11) (T := 27) (parts := []) (ps := []) (cd := c_api_IP) (z0 := z_api_IP) z_api_IP Ty27 rfl Filled.nil ?_
    refine OJ.build (d := 12) (T := 61) (parts := [(0, .const (.int .i64 2)), (1, .const (.int .i64 45))]) (ps := [(0, (cI .i64).val 2), (1, (cI .i64).val 45)]) (cd := c_addr_fault) (z0 := z_addr_fault) (⟨2, 45⟩ : addr_fault) Ty61 rfl (Filled.cons (cd := (cI .i64)) (q := 2) (o := 0) (by kernel_rfl) (Up_addr_fault_why z_addr_fault 2) (Filled.cons (cd := (cI .i64)) (q := 45) (o := 1) (by kernel_rfl) (Up_addr_fault_at_ (⟨2, z_addr_fault.at_⟩ : addr_fault) 45) Filled.nil)) ?_
    refine OJ.newOf (d := 13) (op := (.box 61 (.tmp 12))) (cd := c_addr_fault) (u := (⟨2, 45⟩ : addr_fault)) (owed := []) (box_run (by kernel_rfl)) (fun b3 => ?_)
    refine OW.nil ?_
    refine OJ.kst (y := .tmp 2) (z := .tmp 11) (cd := c_api_IP) (u := z_api_IP) (j := 0) (b := b1) (o := 0) (c_api_IP.enc z_api_IP) (owed := []) Ty27 rfl (Upd.whole ((Cod.len _ _).trans (Cod.len _ _).symm)) rfl ?_
    refine OW.nil ?_
    refine OJ.go 1 [(3, .pointer (some (pt b3 0)))] ?_
    refine OJ.nil ?_
    exact SJ.ret rfl (Res.run (ys := [c_api_IP.val z_api_IP, .pointer (some (pt b3 0))]) (.cell (j := 0) (b := b1) (cd := c_api_IP) (q := z_api_IP) (by kernel_rfl) rfl Ty27 (At.whole _) (.tmp (by kernel_rfl) .nil)) rfl)
  · refine SJ.skip ?_
    refine SJ.seq ?_
    refine SJ.sr 3 ?_
    refine OJ.go 1 [(14, .string a0)] ?_
    refine OJ.call (d := 15) (g := 37) (ats := #[9, 9]) (args := [.tmp 14, .const (.string str7)]) (owed := []) F37 (strings_Contains_ok a0 str7) (fun r4 => ?_)
    refine OW.nil ?_
    refine OJ.go 1 [(16, .bool (!r4))] ?_
    refine OJ.nil ?_
    refine SJ.cond (t := (.tmp 16)) (b := (!r4)) (bnot_iff Iff.rfl) (fun hc15 => ?_) (fun hc15 => ?_)
    · refine SJ.sr 8 ?_
      refine OJ.go 1 [(18, .string a0)] ?_
      refine OJ.call (d := 19) (g := 38) (ats := #[9, 3]) (args := [.tmp 18, .const (.int .i64 0)]) (owed := []) F38 (addr_four_ok a0 0) (fun r8 => ?_)
      refine OW.nil ?_
      refine OJ.go 3 [(21, .pointer r8.2), (20, ((cI .u8).arr 4).val r8.1), (17, .tuple #[((cI .u8).arr 4).val r8.1, .pointer r8.2])] ?_
      refine OJ.slotOf (d := 4) (op := (.alloc 86)) (cd := ((cI .u8).arr 4)) (u := (Vec.rep 4 0)) (owed := []) (alloc_run Ty86) (fun b9 => ?_)
      refine OW.nil ?_
      refine OJ.kst (y := .tmp 4) (z := .tmp 20) (cd := ((cI .u8).arr 4)) (u := r8.1) (j := 0) (b := b9) (o := 0) (((cI .u8).arr 4).enc r8.1) (owed := []) Ty86 rfl (Upd.whole ((Cod.len _ _).trans (Cod.len _ _).symm)) rfl ?_
      refine OW.nil ?_
      refine OJ.go 1 [(5, .pointer r8.2)] ?_
      refine OJ.nil ?_
      refine SJ.seq ?_
      refine SJ.sr 2 ?_
      refine OJ.go 2 [(23, .bool (!(Option.isNone r8.2))), (22, .pointer r8.2)] ?_
      refine OJ.nil ?_
      refine SJ.cond (t := (.tmp 23)) (b := (!(Option.isNone r8.2))) (bnot_iff Option.isNone_iff_eq_none) (fun hc10 => ?_) (fun hc10 => ?_)
      · refine SJ.sr 4 ?_
        refine OJ.build (d := 24) (T := 27) (parts := []) (ps := []) (cd := c_api_IP) (z0 := z_api_IP) z_api_IP Ty27 rfl Filled.nil ?_
        refine OJ.go 1 [(25, .pointer r8.2)] ?_
        refine OJ.kst (y := .tmp 2) (z := .tmp 24) (cd := c_api_IP) (u := z_api_IP) (j := 1) (b := b1) (o := 0) (c_api_IP.enc z_api_IP) (owed := []) Ty27 rfl (Upd.whole ((Cod.len _ _).trans (Cod.len _ _).symm)) rfl ?_
        refine OW.nil ?_
        refine OJ.go 1 [(3, .pointer r8.2)] ?_
        refine OJ.nil ?_
        exact SJ.ret rfl (Res.run (ys := [c_api_IP.val z_api_IP, .pointer r8.2]) (.cell (j := 1) (b := b1) (cd := c_api_IP) (q := z_api_IP) (by kernel_rfl) rfl Ty27 (At.whole _) (.tmp (by kernel_rfl) .nil)) rfl)
      · refine SJ.skip ?_
        refine SJ.sr 12 ?_
        refine OJ.go 1 [(26, .pointer (some (pt b9 0)))] ?_
        refine OJ.kld (d := 27) (y := .tmp 26) (cd := (cI .u8)) (j := 0) (b := b9) (o := 0) (Vec.g r8.1 0 0) (pend2 := []) Ty5 rfl (At.zero (At.arr (z := 0) (by decide) (by decide))) rfl ?_
        refine OJ.go 1 [(28, .pointer (some (pt b9 1)))] ?_
        refine OJ.kld (d := 29) (y := .tmp 28) (cd := (cI .u8)) (j := 0) (b := b9) (o := 1) (Vec.g r8.1 1 0) (pend2 := []) Ty5 rfl (At.zero (At.arr (z := 0) (by decide) (by decide))) rfl ?_
        refine OJ.go 1 [(30, .pointer (some (pt b9 2)))] ?_
        refine OJ.kld (d := 31) (y := .tmp 30) (cd := (cI .u8)) (j := 0) (b := b9) (o := 2) (Vec.g r8.1 2 0) (pend2 := []) Ty5 rfl (At.zero (At.arr (z := 0) (by decide) (by decide))) rfl ?_
        refine OJ.go 1 [(32, .pointer (some (pt b9 3)))] ?_
        refine OJ.kld (d := 33) (y := .tmp 32) (cd := (cI .u8)) (j := 0) (b := b9) (o := 3) (Vec.g r8.1 3 0) (pend2 := []) Ty5 rfl (At.zero (At.arr (z := 0) (by decide) (by decide))) rfl ?_
        refine OJ.build (d := 34) (T := 22) (parts := [(0, .tmp 27), (1, .tmp 29), (2, .tmp 31), (3, .tmp 33)]) (ps := [(0, (cI .u8).val (Vec.g r8.1 0 0)), (1, (cI .u8).val (Vec.g r8.1 1 0)), (2, (cI .u8).val (Vec.g r8.1 2 0)), (3, (cI .u8).val (Vec.g r8.1 3 0))]) (cd := ((cI .u8).arr 16)) (z0 := (Vec.rep 16 0)) (⟨[(Vec.g r8.1 0 0), (Vec.g r8.1 1 0), (Vec.g r8.1 2 0), (Vec.g r8.1 3 0), 0, 0, 0, 0, 0, 0, 0, 0, 0, 0, 0, 0], rfl⟩ : (Vec Int 16)) Ty22 rfl (Filled.cons (cd := (cI .u8)) (q := (Vec.g r8.1 0 0)) (o := 0) (by kernel_rfl) (Upd.arr (i := 0) (by decide) (by decide)) (Filled.cons (cd := (cI .u8)) (q := (Vec.g r8.1 1 0)) (o := 1) (by kernel_rfl) (Upd.arr (i := 1) (by decide) (by decide)) (Filled.cons (cd := (cI .u8)) (q := (Vec.g r8.1 2 0)) (o := 2) (by kernel_rfl) (Upd.arr (i := 2) (by decide) (by decide)) (Filled.cons (cd := (cI .u8)) (q := (Vec.g r8.1 3 0)) (o := 3) (by kernel_rfl) (Upd.arr (i := 3) (by decide) (by decide)) Filled.nil)))) ?_
        refine OJ.build (d := 35) (T := 27) (parts := [(0, .const (.int .i64 4)), (1, .tmp 34)]) (ps := [(0, (cI .i64).val 4), (1, ((cI .u8).arr 16).val (⟨[(Vec.g r8.1 0 0), (Vec.g r8.1 1 0), (Vec.g r8.1 2 0), (Vec.g r8.1 3 0), 0, 0, 0, 0, 0, 0, 0, 0, 0, 0, 0, 0], rfl⟩ : (Vec Int 16)))]) (cd := c_api_IP) (z0 := z_api_IP) (⟨4, (⟨[(Vec.g r8.1 0 0), (Vec.g r8.1 1 0), (Vec.g r8.1 2 0), (Vec.g r8.1 3 0), 0, 0, 0, 0, 0, 0, 0, 0, 0, 0, 0, 0], rfl⟩ : (Vec Int 16))⟩ : api_IP) Ty27 rfl (Filled.cons (cd := (cI .i64)) (q := 4) (o := 0) (by kernel_rfl) (Up_api_IP_V z_api_IP 4) (Filled.cons (cd := ((cI .u8).arr 16)) (q := (⟨[(Vec.g r8.1 0 0), (Vec.g r8.1 1 0), (Vec.g r8.1 2 0), (Vec.g r8.1 3 0), 0, 0, 0, 0, 0, 0, 0, 0, 0, 0, 0, 0], rfl⟩ : (Vec Int 16))) (o := 1) (by kernel_rfl) (Up_api_IP_A (⟨4, z_api_IP.A⟩ : api_IP) (⟨[(Vec.g r8.1 0 0), (Vec.g r8.1 1 0), (Vec.g r8.1 2 0), (Vec.g r8.1 3 0), 0, 0, 0, 0, 0, 0, 0, 0, 0, 0, 0, 0], rfl⟩ : (Vec Int 16))) Filled.nil)) ?_
        refine OJ.kst (y := .tmp 2) (z := .tmp 35) (cd := c_api_IP) (u := (⟨4, (⟨[(Vec.g r8.1 0 0), (Vec.g r8.1 1 0), (Vec.g r8.1 2 0), (Vec.g r8.1 3 0), 0, 0, 0, 0, 0, 0, 0, 0, 0, 0, 0, 0], rfl⟩ : (Vec Int 16))⟩ : api_IP)) (j := 1) (b := b1) (o := 0) (c_api_IP.enc (⟨4, (⟨[(Vec.g r8.1 0 0), (Vec.g r8.1 1 0), (Vec.g r8.1 2 0), (Vec.g r8.1 3 0), 0, 0, 0, 0, 0, 0, 0, 0, 0, 0, 0, 0], rfl⟩ : (Vec Int 16))⟩ : api_IP)) (owed := []) Ty27 rfl (Upd.whole ((Cod.len _ _).trans (Cod.len _ _).symm)) rfl ?_
        refine OW.nil ?_
        refine OJ.go 1 [(3, .pointer none)] ?_
        refine OJ.nil ?_
        exact SJ.ret rfl (Res.run (ys := [c_api_IP.val (⟨4, (⟨[(Vec.g r8.1 0 0), (Vec.g r8.1 1 0), (Vec.g r8.1 2 0), (Vec.g r8.1 3 0), 0, 0, 0, 0, 0, 0, 0, 0, 0, 0, 0, 0], rfl⟩ : (Vec Int 16))⟩ : api_IP), .pointer none]) (.cell (j := 1) (b := b1) (cd := c_api_IP) (q := (⟨4, (⟨[(Vec.g r8.1 0 0), (Vec.g r8.1 1 0), (Vec.g r8.1 2 0), (Vec.g r8.1 3 0), 0, 0, 0, 0, 0, 0, 0, 0, 0, 0, 0, 0], rfl⟩ : (Vec Int 16))⟩ : api_IP)) (by kernel_rfl) rfl Ty27 (At.whole _) (.tmp (by kernel_rfl) .nil)) rfl)
    · refine SJ.skip ?_
      refine SJ.sr 4 ?_
      refine OJ.go 1 [(36, .string a0)] ?_
      refine OJ.build (d := 37) (T := 91) (parts := [(0, .tmp 36), (3, .const (.int .i64 (-1)))]) (ps := [(0, cS.val a0), (3, (cI .i64).val (-1))]) (cd := c_addr_six) (z0 := z_addr_six) (⟨a0, z_addr_six.at_, z_addr_six.groups, (-1)⟩ : addr_six) Ty91 rfl (Filled.cons (cd := cS) (q := a0) (o := 0) (by kernel_rfl) (Up_addr_six_s z_addr_six a0) (Filled.cons (cd := (cI .i64)) (q := (-1)) (o := 3) (by kernel_rfl) (Up_addr_six_gap (⟨a0, z_addr_six.at_, z_addr_six.groups, z_addr_six.gap⟩ : addr_six) (-1)) Filled.nil)) ?_
      refine OJ.newOf (d := 38) (op := (.box 91 (.tmp 37))) (cd := c_addr_six) (u := (⟨a0, z_addr_six.at_, z_addr_six.groups, (-1)⟩ : addr_six)) (owed := []) (box_run (by kernel_rfl)) (fun b11 => ?_)
      refine OW.nil ?_
      refine OJ.go 1 [(6, .pointer (some (pt b11 0)))] ?_
      refine OJ.nil ?_
      refine SJ.seq ?_
      refine SJ.sr 3 ?_
      refine OJ.go 1 [(39, .pointer (some (pt b11 0)))] ?_
      refine OJ.call (d := 40) (g := 39) (ats := #[89]) (args := [.tmp 39]) (owed := []) F39 (addr_six_read_ok (some (pt b11 0))) (fun r12 => ?_)
      refine OW.nil ?_
      refine OJ.go 1 [(7, .pointer r12)] ?_
      refine OJ.nil ?_
      refine SJ.sr 2 ?_
      refine OJ.go 2 [(42, .bool (!(Option.isNone r12))), (41, .pointer r12)] ?_
      refine OJ.nil ?_
      refine SJ.cond (t := (.tmp 42)) (b := (!(Option.isNone r12))) (bnot_iff Option.isNone_iff_eq_none) (fun hc14 => ?_) (fun hc14 => ?_)
      · refine SJ.sr 4 ?_
        refine OJ.build (d := 43) (T := 27) (parts := []) (ps := []) (cd := c_api_IP) (z0 := z_api_IP) z_api_IP Ty27 rfl Filled.nil ?_
        refine OJ.go 1 [(44, .pointer r12)] ?_
        refine OJ.kst (y := .tmp 2) (z := .tmp 43) (cd := c_api_IP) (u := z_api_IP) (j := 0) (b := b1) (o := 0) (c_api_IP.enc z_api_IP) (owed := []) Ty27 rfl (Upd.whole ((Cod.len _ _).trans (Cod.len _ _).symm)) rfl ?_
        refine OW.nil ?_
        refine OJ.go 1 [(3, .pointer r12)] ?_
        refine OJ.nil ?_
        exact SJ.ret rfl (Res.run (ys := [c_api_IP.val z_api_IP, .pointer r12]) (.cell (j := 0) (b := b1) (cd := c_api_IP) (q := z_api_IP) (by kernel_rfl) rfl Ty27 (At.whole _) (.tmp (by kernel_rfl) .nil)) rfl)
      · refine SJ.skip ?_
        refine SJ.sr 5 ?_
        refine OJ.go 1 [(45, .pointer (some (pt b11 0)))] ?_
        refine OJ.call (d := 46) (g := 40) (ats := #[89]) (args := [.tmp 45]) (owed := []) F40 (addr_six_bytes_ok (some (pt b11 0))) (fun r13 => ?_)
        refine OW.nil ?_
        refine OJ.build (d := 47) (T := 27) (parts := [(0, .const (.int .i64 6)), (1, .tmp 46)]) (ps := [(0, (cI .i64).val 6), (1, ((cI .u8).arr 16).val r13)]) (cd := c_api_IP) (z0 := z_api_IP) (⟨6, r13⟩ : api_IP) Ty27 rfl (Filled.cons (cd := (cI .i64)) (q := 6) (o := 0) (by kernel_rfl) (Up_api_IP_V z_api_IP 6) (Filled.cons (cd := ((cI .u8).arr 16)) (q := r13) (o := 1) (by kernel_rfl) (Up_api_IP_A (⟨6, z_api_IP.A⟩ : api_IP) r13) Filled.nil)) ?_
        refine OJ.kst (y := .tmp 2) (z := .tmp 47) (cd := c_api_IP) (u := (⟨6, r13⟩ : api_IP)) (j := 0) (b := b1) (o := 0) (c_api_IP.enc (⟨6, r13⟩ : api_IP)) (owed := []) Ty27 rfl (Upd.whole ((Cod.len _ _).trans (Cod.len _ _).symm)) rfl ?_
        refine OW.nil ?_
        refine OJ.go 1 [(3, .pointer none)] ?_
        refine OJ.nil ?_
        exact SJ.ret rfl (Res.run (ys := [c_api_IP.val (⟨6, r13⟩ : api_IP), .pointer none]) (.cell (j := 0) (b := b1) (cd := c_api_IP) (q := (⟨6, r13⟩ : api_IP)) (by kernel_rfl) rfl Ty27 (At.whole _) (.tmp (by kernel_rfl) .nil)) rfl)

/-! ### weir/addr.ParseIP: function 10 -/
noncomputable def addr_ParseIP.B : Code := (Tryd.f10.body).getD .skip
noncomputable def addr_ParseIP.cx : Fx := ⟨Tryd.prog, 10, Tryd.f10⟩
noncomputable def addr_ParseIP.out (r_ : (api_IP × Int × Int)) : Value := .tuple #[c_api_IP.val r_.1, .int .i64 r_.2.1, .int .i64 r_.2.2]
noncomputable def addr_ParseIP.F0 (r_ : (api_IP × Int × Int)) : Reach := .ret (addr_ParseIP.out r_)
noncomputable def addr_ParseIP (a0 : ByteArray) : M (api_IP × Int × Int) :=
  slot 27 >>= fun b1 =>
  addr_parse a0 >>= fun r2 =>
  slot 27 >>= fun b3 =>
  if ¬ (r2.2 = none) then
    draw >>= fun _ =>
    nilck r2.2 >>= fun p8 =>
    ld (cI .i64) p8 >>= fun x9 =>
    nilck r2.2 >>= fun p10 =>
    ld (cI .i64) (Addr.add p10 1) >>= fun x11 =>
    same (cI .i64) (Addr.add p10 1) x11 >>= fun _ =>
    same (cI .i64) p8 x9 >>= fun _ =>
    pure (z_api_IP, x9, x11)
  else
    pure (r2.1, 0, 0)
theorem addr_ParseIP_ok (a0 : ByteArray) : Ref Tryd.prog 10 [.string a0] (addr_ParseIP a0) addr_ParseIP.out := by
  refine Ref.of (cd := addr_ParseIP.B) Tryd.func10 ?_
  show SJ addr_ParseIP.cx [.code addr_ParseIP.B] [(0, .string a0)] [] (addr_ParseIP a0) addr_ParseIP.F0
  unfold addr_ParseIP
  refine SJ.sr 3 ?_
  refine OJ.slotOf (d := 2) (op := (.alloc 27)) (cd := c_api_IP) (u := z_api_IP) (owed := []) (alloc_run Ty27) (fun b1 => ?_)
  refine OW.nil ?_
  refine OJ.go 2 [(4, .int .i64 0), (3, .int .i64 0)] ?_
  refine OJ.nil ?_
  refine SJ.sr 8 ?_
  refine OJ.go 1 [(8, .string a0)] ?_
  refine OJ.call (d := 9) (g := 23) (ats := #[9]) (args := [.tmp 8]) (owed := []) F23 (addr_parse_ok a0) (fun r2 => ?_)
  refine OW.nil ?_
  refine OJ.go 3 [(11, .pointer r2.2), (10, c_api_IP.val r2.1), (7, .tuple #[c_api_IP.val r2.1, .pointer r2.2])] ?_
  refine OJ.slotOf (d := 5) (op := (.alloc 27)) (cd := c_api_IP) (u := z_api_IP) (owed := []) (alloc_run Ty27) (fun b3 => ?_)
  refine OW.nil ?_
  refine OJ.kst (y := .tmp 5) (z := .tmp 10) (cd := c_api_IP) (u := r2.1) (j := 0) (b := b3) (o := 0) (c_api_IP.enc r2.1) (owed := []) Ty27 rfl (Upd.whole ((Cod.len _ _).trans (Cod.len _ _).symm)) rfl ?_
  refine OW.nil ?_
  refine OJ.go 1 [(6, .pointer r2.2)] ?_
  refine OJ.nil ?_
  refine SJ.seq ?_
  refine SJ.sr 2 ?_
  refine OJ.go 2 [(13, .bool (!(Option.isNone r2.2))), (12, .pointer r2.2)] ?_
  refine OJ.nil ?_
  refine SJ.cond (t := (.tmp 13)) (b := (!(Option.isNone r2.2))) (bnot_iff Option.isNone_iff_eq_none) (fun hc12 => ?_) (fun hc12 => ?_)
  · refine SJ.seq ?_
    refine SJ.draw (id := 3) (kd := [0, 0, 0, 0, 1, 0, 0, 0, 1, 2, 0, 0]) (bef := [0, 0, 2, 6, 14, 0, 32, 96, 224, 1, 543, 2047]) (ord := [0, 1, 2, 3, 4, 5, 6, 7, 8, 9, 10, 11]) mixed ?_
    refine OJ.build (d := 14) (T := 27) (parts := []) (ps := []) (cd := c_api_IP) (z0 := z_api_IP) z_api_IP Ty27 rfl Filled.nil ?_
    refine OJ.go 1 [(15, .pointer r2.2)] ?_
    refine OJ.nilck (d := 16) (y := .tmp 15) (fun p8 => ?_)
    refine OJ.go 1 [(17, .pointer (some p8))] ?_
    refine OJ.ld (d := 18) (y := .tmp 17) (pend2 := fun x9 => [⟨4, 28, p8, (cI .i64).val x9⟩]) Ty28 (fun _ => rfl) (fun x9 => ?_)
    refine OJ.go 1 [(19, .pointer r2.2)] ?_
    refine OJ.nilck (d := 20) (y := .tmp 19) (fun p10 => ?_)
    refine OJ.go 1 [(21, .pointer (some (Addr.add p10 1)))] ?_
    refine OJ.ld (d := 22) (y := .tmp 21) (pend2 := fun x11 => [⟨8, 3, (Addr.add p10 1), (cI .i64).val x11⟩, ⟨4, 28, p8, (cI .i64).val x9⟩]) Ty3 (fun _ => rfl) (fun x11 => ?_)
    refine OJ.kst (y := .tmp 2) (z := .tmp 14) (cd := c_api_IP) (u := z_api_IP) (j := 1) (b := b1) (o := 0) (c_api_IP.enc z_api_IP) (owed := [⟨8, 3, (Addr.add p10 1), (cI .i64).val x11⟩, ⟨4, 28, p8, (cI .i64).val x9⟩]) Ty27 rfl (Upd.whole ((Cod.len _ _).trans (Cod.len _ _).symm)) rfl ?_
    refine OW.same Ty3 ?_
    refine OW.same Ty28 ?_
    refine OW.nil ?_
    refine OJ.go 2 [(4, .int .i64 x11), (3, .int .i64 x9)] ?_
    refine OJ.nil ?_
    exact SJ.ret rfl (Res.run (ys := [c_api_IP.val z_api_IP, .int .i64 x9, .int .i64 x11]) (.cell (j := 1) (b := b1) (cd := c_api_IP) (q := z_api_IP) (by kernel_rfl) rfl Ty27 (At.whole _) (.tmp (by kernel_rfl) (.tmp (by kernel_rfl) .nil))) rfl)
  · refine SJ.skip ?_
    refine SJ.sr 4 ?_
    refine OJ.kld (d := 23) (y := .tmp 5) (cd := c_api_IP) (j := 0) (b := b3) (o := 0) r2.1 (pend2 := []) Ty27 rfl (At.whole _) rfl ?_
    refine OJ.kst (y := .tmp 2) (z := .tmp 23) (cd := c_api_IP) (u := r2.1) (j := 1) (b := b1) (o := 0) (c_api_IP.enc r2.1) (owed := []) Ty27 rfl (Upd.whole ((Cod.len _ _).trans (Cod.len _ _).symm)) rfl ?_
    refine OW.nil ?_
    refine OJ.go 2 [(4, .int .i64 0), (3, .int .i64 0)] ?_
    refine OJ.nil ?_
    exact SJ.ret rfl (Res.run (ys := [c_api_IP.val r2.1, .int .i64 0, .int .i64 0]) (.cell (j := 1) (b := b1) (cd := c_api_IP) (q := r2.1) (by kernel_rfl) rfl Ty27 (At.whole _) (.tmp (by kernel_rfl) (.tmp (by kernel_rfl) .nil))) rfl)

/-! ### weir/weirlaw4.loop: function 24 -/
noncomputable def weirlaw4_loop.B : Code := (Tryd.f24.body).getD .skip
noncomputable def weirlaw4_loop.cx : Fx := ⟨Tryd.prog, 24, Tryd.f24⟩
noncomputable def weirlaw4_loop.out (r_ : api_IP) : Value := c_api_IP.val r_
noncomputable def weirlaw4_loop.F0 (r_ : api_IP) : Reach := .ret (weirlaw4_loop.out r_)
noncomputable def weirlaw4_loop  : M api_IP :=
  slot 27 >>= fun b1 =>
  pure (⟨4, (⟨[127, 0, 0, 1, 0, 0, 0, 0, 0, 0, 0, 0, 0, 0, 0, 0], rfl⟩ : (Vec Int 16))⟩ : api_IP)
theorem weirlaw4_loop_ok  : Ref Tryd.prog 24 [] (weirlaw4_loop) weirlaw4_loop.out := by
  refine Ref.of (cd := weirlaw4_loop.B) Tryd.func24 ?_
  show SJ weirlaw4_loop.cx [.code weirlaw4_loop.B] [] [] (weirlaw4_loop) weirlaw4_loop.F0
  unfold weirlaw4_loop
  refine SJ.sr 1 ?_
  refine OJ.slotOf (d := 0) (op := (.alloc 27)) (cd := c_api_IP) (u := z_api_IP) (owed := []) (alloc_run Ty27) (fun b1 => ?_)
  refine OW.nil ?_
  refine OJ.nil ?_
  refine SJ.sr 3 ?_
  refine OJ.build (d := 1) (T := 22) (parts := [(0, .const (.int .u8 127)), (1, .const (.int .u8 0)), (2, .const (.int .u8 0)), (3, .const (.int .u8 1))]) (ps := [(0, (cI .u8).val 127), (1, (cI .u8).val 0), (2, (cI .u8).val 0), (3, (cI .u8).val 1)]) (cd := ((cI .u8).arr 16)) (z0 := (Vec.rep 16 0)) (⟨[127, 0, 0, 1, 0, 0, 0, 0, 0, 0, 0, 0, 0, 0, 0, 0], rfl⟩ : (Vec Int 16)) Ty22 rfl (Filled.cons (cd := (cI .u8)) (q := 127) (o := 0) (by kernel_rfl) (Upd.arr (i := 0) (by decide) (by decide)) (Filled.cons (cd := (cI .u8)) (q := 0) (o := 1) (by kernel_rfl) (Upd.arr (i := 1) (by decide) (by decide)) (Filled.cons (cd := (cI .u8)) (q := 0) (o := 2) (by kernel_rfl) (Upd.arr (i := 2) (by decide) (by decide)) (Filled.cons (cd := (cI .u8)) (q := 1) (o := 3) (by kernel_rfl) (Upd.arr (i := 3) (by decide) (by decide)) Filled.nil)))) ?_
  refine OJ.build (d := 2) (T := 27) (parts := [(0, .const (.int .i64 4)), (1, .tmp 1)]) (ps := [(0, (cI .i64).val 4), (1, ((cI .u8).arr 16).val (⟨[127, 0, 0, 1, 0, 0, 0, 0, 0, 0, 0, 0, 0, 0, 0, 0], rfl⟩ : (Vec Int 16)))]) (cd := c_api_IP) (z0 := z_api_IP) (⟨4, (⟨[127, 0, 0, 1, 0, 0, 0, 0, 0, 0, 0, 0, 0, 0, 0, 0], rfl⟩ : (Vec Int 16))⟩ : api_IP) Ty27 rfl (Filled.cons (cd := (cI .i64)) (q := 4) (o := 0) (by kernel_rfl) (Up_api_IP_V z_api_IP 4) (Filled.cons (cd := ((cI .u8).arr 16)) (q := (⟨[127, 0, 0, 1, 0, 0, 0, 0, 0, 0, 0, 0, 0, 0, 0, 0], rfl⟩ : (Vec Int 16))) (o := 1) (by kernel_rfl) (Up_api_IP_A (⟨4, z_api_IP.A⟩ : api_IP) (⟨[127, 0, 0, 1, 0, 0, 0, 0, 0, 0, 0, 0, 0, 0, 0, 0], rfl⟩ : (Vec Int 16))) Filled.nil)) ?_
  refine OJ.kst (y := .tmp 0) (z := .tmp 2) (cd := c_api_IP) (u := (⟨4, (⟨[127, 0, 0, 1, 0, 0, 0, 0, 0, 0, 0, 0, 0, 0, 0, 0], rfl⟩ : (Vec Int 16))⟩ : api_IP)) (j := 0) (b := b1) (o := 0) (c_api_IP.enc (⟨4, (⟨[127, 0, 0, 1, 0, 0, 0, 0, 0, 0, 0, 0, 0, 0, 0, 0], rfl⟩ : (Vec Int 16))⟩ : api_IP)) (owed := []) Ty27 rfl (Upd.whole ((Cod.len _ _).trans (Cod.len _ _).symm)) rfl ?_
  refine OW.nil ?_
  refine OJ.nil ?_
  exact SJ.ret rfl (Res.run (ys := [c_api_IP.val (⟨4, (⟨[127, 0, 0, 1, 0, 0, 0, 0, 0, 0, 0, 0, 0, 0, 0, 0], rfl⟩ : (Vec Int 16))⟩ : api_IP)]) (.cell (j := 0) (b := b1) (cd := c_api_IP) (q := (⟨4, (⟨[127, 0, 0, 1, 0, 0, 0, 0, 0, 0, 0, 0, 0, 0, 0, 0], rfl⟩ : (Vec Int 16))⟩ : api_IP)) (by kernel_rfl) rfl Ty27 (At.whole _) .nil) rfl)

/-! ### weir/addr.Class: function 25 -/
noncomputable def addr_Class.B : Code := (Tryd.f25.body).getD .skip
noncomputable def addr_Class.cx : Fx := ⟨Tryd.prog, 25, Tryd.f25⟩
noncomputable def addr_Class.out (r_ : Int) : Value := .int .i64 r_
noncomputable def addr_Class.F0 (r_ : Int) : Reach := .ret (addr_Class.out r_)
noncomputable def addr_Class.F1 (a0 : api_IP) (b1 : Nat) (x3 : (Vec addr_net 12)) : (LS Int Int) → Reach := loopF [.inLoop (c1 (c1 (c2 (c1 (c2 (c2 addr_Class.B)))))), .inBlock 0, .code (c2 (c2 (c2 addr_Class.B)))] (fun s_ : Int => [(1, .pointer (some (pt b1 0))), (8, (c_addr_net.arr 12).val x3), (9, .int .i64 s_)]) (fun s_ : Int => [(b1, c_api_IP.enc a0)]) addr_Class.F0
noncomputable def addr_Class.L1 (a0 : api_IP) (x3 : (Vec addr_net 12)) (s4 : Int) : M (LS Int Int) :=
  if s4 < 12 then
    chk ((0 : Int) ≤ s4 ∧ s4 < (12 : Nat)) >>= fun _ =>
    slot 95 >>= fun b14 =>
    draw >>= fun _ =>
    (if ((Vec.g x3 s4 z_addr_net).v) = a0.V then
        addr_masked a0.A ((Vec.g x3 s4 z_addr_net).bits) >>= fun r15 =>
        pure (eqv r15 ((Vec.g x3 s4 z_addr_net).a))
      else
        pure false) >>= fun y16 =>
    if y16 = true then
      pure (LS.done ((Vec.g x3 s4 z_addr_net).class_))
    else
      pure (LS.next (IntKind.wrap .i64 (s4 + 1)))
  else
    pure (LS.done 7)
theorem addr_Class.L1_ok (a0 : api_IP) (b1 : Nat) (x3 : (Vec addr_net 12)) (s4 : Int) :
    SJ addr_Class.cx [.code (c1 (c1 (c2 (c1 (c2 (c2 addr_Class.B)))))), .inLoop (c1 (c1 (c2 (c1 (c2 (c2 addr_Class.B)))))), .inBlock 0, .code (c2 (c2 (c2 addr_Class.B)))] [(1, .pointer (some (pt b1 0))), (8, (c_addr_net.arr 12).val x3), (9, .int .i64 s4)] [(b1, c_api_IP.enc a0)] (addr_Class.L1 a0 x3 s4) (addr_Class.F1 a0 b1 x3) := by
  unfold addr_Class.L1
  refine SJ.sr 1 ?_
  refine OJ.go 1 [(10, .bool (decide (s4 < 12)))] ?_
  refine OJ.nil ?_
  refine SJ.seq ?_
  refine SJ.cond (t := (.tmp 10)) (b := decide (s4 < 12)) decide_eq_true_iff (fun hc18 => ?_) (fun hc18 => ?_)
  · refine SJ.skip ?_
    refine SJ.seq ?_
    refine SJ.block (id := 1) ?_
    refine SJ.sr 3 ?_
    refine OJ.idxV (d := 11) (T := 96) (E := 95) (y := .tmp 8) (j := .tmp 9) (k := .i64) (v0 := x3) Ty95 (fun hb12 hb13 => ?_)
    refine OJ.slotOf (d := 4) (op := (.alloc 95)) (cd := c_addr_net) (u := z_addr_net) (owed := []) (alloc_run Ty95) (fun b14 => ?_)
    refine OW.nil ?_
    refine OJ.kst (y := .tmp 4) (z := .tmp 11) (cd := c_addr_net) (u := (Vec.g x3 s4 z_addr_net)) (j := 0) (b := b14) (o := 0) (c_addr_net.enc (Vec.g x3 s4 z_addr_net)) (owed := []) Ty95 rfl (Upd.whole ((Cod.len _ _).trans (Cod.len _ _).symm)) rfl ?_
    refine OW.nil ?_
    refine OJ.nil ?_
    refine SJ.seq ?_
    refine SJ.draw (id := 6) (kd := [0, 1, 0, 1, 0, 0, 0, 1, 0, 1, 2, 0, 1, 0, 0]) (bef := [0, 1, 0, 4, 15, 31, 63, 127, 63, 319, 1023, 63, 2111, 8191, 16383]) (ord := [0, 1, 2, 3, 4, 5, 6, 7, 8, 9, 11, 12, 10, 13, 14]) mixed ?_
    refine OJ.go 1 [(12, .pointer (some (pt b14 0)))] ?_
    refine OJ.kld (d := 13) (y := .tmp 12) (cd := (cI .i64)) (j := 0) (b := b14) (o := 0) ((Vec.g x3 s4 z_addr_net).v) (pend2 := [⟨1, 3, (pt b14 0), (cI .i64).val ((Vec.g x3 s4 z_addr_net).v)⟩]) Ty3 rfl (At_addr_net_v (Vec.g x3 s4 z_addr_net)) rfl ?_
    refine OJ.go 1 [(14, .pointer (some (pt b1 0)))] ?_
    refine OJ.kld (d := 15) (y := .tmp 14) (cd := (cI .i64)) (j := 1) (b := b1) (o := 0) a0.V (pend2 := [⟨3, 3, (pt b1 0), (cI .i64).val a0.V⟩, ⟨1, 3, (pt b14 0), (cI .i64).val ((Vec.g x3 s4 z_addr_net).v)⟩]) Ty3 rfl (At_api_IP_V a0) rfl ?_
    refine OJ.go 2 [(17, .bool (((Vec.g x3 s4 z_addr_net).v) == a0.V)), (16, .bool (((Vec.g x3 s4 z_addr_net).v) == a0.V))] ?_
    refine OJ.join (b := (((Vec.g x3 s4 z_addr_net).v) == a0.V)) [6, 7, 8, 9, 11, 12, 10, 13, 14] [] [1, 8, 9, 4, 26] (fun y16 => [(1, .pointer (some (pt b1 0))), (8, (c_addr_net.arr 12).val x3), (9, .int .i64 s4), (4, .pointer (some (pt b14 0))), (26, .bool y16)]) [⟨12, 22, (pt b14 1), ((cI .u8).arr 16).val ((Vec.g x3 s4 z_addr_net).a)⟩, ⟨9, 3, (pt b14 17), (cI .i64).val ((Vec.g x3 s4 z_addr_net).bits)⟩, ⟨7, 22, (pt b1 1), ((cI .u8).arr 16).val a0.A⟩, ⟨3, 3, (pt b1 0), (cI .i64).val a0.V⟩, ⟨1, 3, (pt b14 0), (cI .i64).val ((Vec.g x3 s4 z_addr_net).v)⟩] [] (t := 17) beq_iff_eq (fun hp_ => ?_) (fun hp_ => ?_) (fun _ _ _ _ _ _ h_ => h_) (fun y16 => ?_)
    · refine OJ.go 1 [(18, .pointer (some (pt b1 1)))] ?_
      refine OJ.kld (d := 19) (y := .tmp 18) (cd := ((cI .u8).arr 16)) (j := 1) (b := b1) (o := 1) a0.A (pend2 := [⟨7, 22, (pt b1 1), ((cI .u8).arr 16).val a0.A⟩, ⟨3, 3, (pt b1 0), (cI .i64).val a0.V⟩, ⟨1, 3, (pt b14 0), (cI .i64).val ((Vec.g x3 s4 z_addr_net).v)⟩]) Ty22 rfl (At_api_IP_A a0) rfl ?_
      refine OJ.go 1 [(20, .pointer (some (pt b14 17)))] ?_
      refine OJ.kld (d := 21) (y := .tmp 20) (cd := (cI .i64)) (j := 0) (b := b14) (o := 17) ((Vec.g x3 s4 z_addr_net).bits) (pend2 := [⟨9, 3, (pt b14 17), (cI .i64).val ((Vec.g x3 s4 z_addr_net).bits)⟩, ⟨7, 22, (pt b1 1), ((cI .u8).arr 16).val a0.A⟩, ⟨3, 3, (pt b1 0), (cI .i64).val a0.V⟩, ⟨1, 3, (pt b14 0), (cI .i64).val ((Vec.g x3 s4 z_addr_net).v)⟩]) Ty3 rfl (At_addr_net_bits (Vec.g x3 s4 z_addr_net)) rfl ?_
      refine OJ.go 1 [(23, .pointer (some (pt b14 1)))] ?_
      refine OJ.kld (d := 24) (y := .tmp 23) (cd := ((cI .u8).arr 16)) (j := 0) (b := b14) (o := 1) ((Vec.g x3 s4 z_addr_net).a) (pend2 := [⟨12, 22, (pt b14 1), ((cI .u8).arr 16).val ((Vec.g x3 s4 z_addr_net).a)⟩, ⟨9, 3, (pt b14 17), (cI .i64).val ((Vec.g x3 s4 z_addr_net).bits)⟩, ⟨7, 22, (pt b1 1), ((cI .u8).arr 16).val a0.A⟩, ⟨3, 3, (pt b1 0), (cI .i64).val a0.V⟩, ⟨1, 3, (pt b14 0), (cI .i64).val ((Vec.g x3 s4 z_addr_net).v)⟩]) Ty22 rfl (At_addr_net_a (Vec.g x3 s4 z_addr_net)) rfl ?_
      refine OJ.call (d := 22) (g := 27) (ats := #[22, 3]) (args := [.tmp 19, .tmp 21]) (owed := [⟨12, 22, (pt b14 1), ((cI .u8).arr 16).val ((Vec.g x3 s4 z_addr_net).a)⟩]) F27 (addr_masked_ok a0.A ((Vec.g x3 s4 z_addr_net).bits)) (fun r15 => ?_)
      refine OW.known (j := 0) (q := ((Vec.g x3 s4 z_addr_net).a)) Ty22 rfl (At_addr_net_a (Vec.g x3 s4 z_addr_net)) ?_
      refine OW.nil ?_
      refine OJ.eql (d := 25) (T := 22) (yT := 22) (y := .tmp 22) (z := .tmp 24) (cd := ((cI .u8).arr 16)) (p := r15) (q := ((Vec.g x3 s4 z_addr_net).a)) rfl Eq22 ?_
      refine OJ.go 1 [(26, .bool (eqv r15 ((Vec.g x3 s4 z_addr_net).a)))] ?_
      exact OJ.nil ⟨(Cov.mem (Cov.keep (List.mem_of_getElem? (i := 0) rfl) (Cov.keep (List.mem_of_getElem? (i := 1) rfl) (Cov.keep (List.mem_of_getElem? (i := 2) rfl) (Cov.keep (List.mem_of_getElem? (i := 3) rfl) (Cov.keep (List.mem_of_getElem? (i := 4) rfl) Cov.nil)))))), rfl, _, rfl, by kernel_rfl⟩
    · refine OJ.go 9 [(26, .bool false), (25, undef), (22, undef), (24, undef), (23, undef), (21, undef), (20, undef), (19, undef), (18, undef)] ?_
      exact OJ.nil ⟨(Cov.mem (Cov.keep (List.mem_of_getElem? (i := 3) rfl) (Cov.keep (List.mem_of_getElem? (i := 4) rfl) Cov.nil))), rfl, _, rfl, by kernel_rfl⟩
    · refine OJ.nil ?_
      refine SJ.cond (t := (.tmp 26)) (b := y16) Iff.rfl (fun hc17 => ?_) (fun hc17 => ?_)
      · refine SJ.sr 3 ?_
        refine OJ.go 1 [(27, .pointer (some (pt b14 18)))] ?_
        refine OJ.kld (d := 28) (y := .tmp 27) (cd := (cI .i64)) (j := 0) (b := b14) (o := 18) ((Vec.g x3 s4 z_addr_net).class_) (pend2 := []) Ty3 rfl (At_addr_net_class_ (Vec.g x3 s4 z_addr_net)) rfl ?_
        refine OJ.go 1 [(2, .int .i64 ((Vec.g x3 s4 z_addr_net).class_))] ?_
        refine OJ.nil ?_
        exact SJ.ret rfl (Res.run (ys := [.int .i64 ((Vec.g x3 s4 z_addr_net).class_)]) (.tmp (by kernel_rfl) .nil) rfl)
      · refine SJ.skip ?_
        refine SJ.inBlock ?_
        refine SJ.rg 2 ?_
        refine OJ.go 2 [(9, .int .i64 (IntKind.wrap .i64 (s4 + 1))), (29, .int .i64 (IntKind.wrap .i64 (s4 + 1)))] ?_
        refine OJ.nil ?_
        refine SJ.forget (List.Sublist.cons _ (List.Sublist.cons_cons _ List.Sublist.slnil)) ?_
        exact SJ.at_ [1, 8, 9] rfl
  · refine SJ.exit (id := 0) (by rfl) ?_
    refine SJ.sr 1 ?_
    refine OJ.go 1 [(2, .int .i64 7)] ?_
    refine OJ.nil ?_
    exact SJ.ret rfl (Res.run (ys := [.int .i64 7]) (.tmp (by kernel_rfl) .nil) rfl)
noncomputable def addr_Class (a0 : api_IP) : M Int :=
  slot 27 >>= fun b1 =>
  addr_Valid a0 >>= fun r2 =>
  if ¬ (r2 = true) then
    pure 0
  else
    ld (c_addr_net.arr 12) ⟨0, 0, none⟩ >>= fun x3 =>
    loopM (fun s_ : Int => addr_Class.L1 a0 x3 s_) 0
theorem addr_Class_ok (a0 : api_IP) : Ref Tryd.prog 25 [c_api_IP.val a0] (addr_Class a0) addr_Class.out := by
  refine Ref.of (cd := addr_Class.B) Tryd.func25 ?_
  show SJ addr_Class.cx [.code addr_Class.B] [(0, c_api_IP.val a0)] [] (addr_Class a0) addr_Class.F0
  unfold addr_Class
  refine SJ.sr 2 ?_
  refine OJ.slotOf (d := 1) (op := (.box 27 (.tmp 0))) (cd := c_api_IP) (u := a0) (owed := []) (box_run (by kernel_rfl)) (fun b1 => ?_)
  refine OW.nil ?_
  refine OJ.go 1 [(2, .int .i64 0)] ?_
  refine OJ.nil ?_
  refine SJ.seq ?_
  refine SJ.sr 3 ?_
  refine OJ.kld (d := 5) (y := .tmp 1) (cd := c_api_IP) (j := 0) (b := b1) (o := 0) a0 (pend2 := []) Ty27 rfl (At.whole _) rfl ?_
  refine OJ.call (d := 6) (g := 19) (ats := #[27]) (args := [.tmp 5]) (owed := []) F19 (addr_Valid_ok a0) (fun r2 => ?_)
  refine OW.nil ?_
  refine OJ.go 1 [(7, .bool (!r2))] ?_
  refine OJ.nil ?_
  refine SJ.cond (t := (.tmp 7)) (b := (!r2)) (bnot_iff Iff.rfl) (fun hc19 => ?_) (fun hc19 => ?_)
  · refine SJ.sr 1 ?_
    refine OJ.go 1 [(2, .int .i64 0)] ?_
    refine OJ.nil ?_
    exact SJ.ret rfl (Res.run (ys := [.int .i64 0]) (.tmp (by kernel_rfl) .nil) rfl)
  · refine SJ.skip ?_
    refine SJ.seq ?_
    refine SJ.sr 2 ?_
    refine OJ.ld (d := 8) (y := .global 0) (pend2 := fun x3 => []) Ty96 (fun _ => rfl) (fun x3 => ?_)
    refine OJ.go 1 [(9, .int .i64 0)] ?_
    refine OJ.nil ?_
    refine SJ.block (id := 0) ?_
    exact SJ.loop (fun s_ : Int => [(1, .pointer (some (pt b1 0))), (8, (c_addr_net.arr 12).val x3), (9, .int .i64 s_)]) (fun s_ : Int => [(b1, c_api_IP.enc a0)]) [1, 8, 9] rfl (fun _ _ => rfl) (fun s_ => addr_Class.L1_ok a0 b1 x3 s_)

/-! ### weir/weirlaw4.started: function 11 -/
noncomputable def weirlaw4_started.B : Code := (Tryd.f11.body).getD .skip
noncomputable def weirlaw4_started.cx : Fx := ⟨Tryd.prog, 11, Tryd.f11⟩
noncomputable def weirlaw4_started.out (r_ : Bool) : Value := .bool r_
noncomputable def weirlaw4_started.F0 (r_ : Bool) : Reach := .ret (weirlaw4_started.out r_)
noncomputable def weirlaw4_started  : M Bool :=
  addr_ParseIP str11 >>= fun r1 =>
  slot 27 >>= fun b2 =>
  weirlaw4_loop >>= fun r3 =>
  addr_PrintIP r3 >>= fun r4 =>
  weirlaw4_loop >>= fun r5 =>
  addr_Class r5 >>= fun r6 =>
  draw >>= fun _ =>
  weirlaw4_loop >>= fun r7 =>
  (if r1.1 = r7 then
      weirlaw4_num r1.2.1 >>= fun r8 =>
      pure (r8 == 0)
    else
      pure false) >>= fun y9 =>
  (if y9 = true then
      pure (r1.2.2 == 0)
    else
      pure false) >>= fun y10 =>
  (if y10 = true then
      pure (r4.1.toList == str11.toList)
    else
      pure false) >>= fun y11 =>
  (if y11 = true then
      weirlaw4_num r4.2 >>= fun r12 =>
      pure (r12 == 0)
    else
      pure false) >>= fun y13 =>
  (if y13 = true then
      pure (r6 == 2)
    else
      pure false) >>= fun y14 =>
  pure y14
theorem weirlaw4_started_ok  : Ref Tryd.prog 11 [] (weirlaw4_started) weirlaw4_started.out := by
  refine Ref.of (cd := weirlaw4_started.B) Tryd.func11 ?_
  show SJ weirlaw4_started.cx [.code weirlaw4_started.B] [] [] (weirlaw4_started) weirlaw4_started.F0
  unfold weirlaw4_started
  refine SJ.sr 1 ?_
  refine OJ.go 1 [(0, .bool false)] ?_
  refine OJ.nil ?_
  refine SJ.sr 9 ?_
  refine OJ.call (d := 8) (g := 10) (ats := #[9]) (args := [.const (.string str11)]) (owed := []) F10 (addr_ParseIP_ok str11) (fun r1 => ?_)
  refine OW.nil ?_
  refine OJ.go 4 [(11, .int .i64 r1.2.2), (10, .int .i64 r1.2.1), (9, c_api_IP.val r1.1), (7, .tuple #[c_api_IP.val r1.1, .int .i64 r1.2.1, .int .i64 r1.2.2])] ?_
  refine OJ.slotOf (d := 1) (op := (.alloc 27)) (cd := c_api_IP) (u := z_api_IP) (owed := []) (alloc_run Ty27) (fun b2 => ?_)
  refine OW.nil ?_
  refine OJ.kst (y := .tmp 1) (z := .tmp 9) (cd := c_api_IP) (u := r1.1) (j := 0) (b := b2) (o := 0) (c_api_IP.enc r1.1) (owed := []) Ty27 rfl (Upd.whole ((Cod.len _ _).trans (Cod.len _ _).symm)) rfl ?_
  refine OW.nil ?_
  refine OJ.go 2 [(3, .int .i64 r1.2.2), (2, .int .i64 r1.2.1)] ?_
  refine OJ.nil ?_
  refine SJ.sr 7 ?_
  refine OJ.call (d := 13) (g := 24) (ats := #[]) (args := []) (owed := []) F24 (weirlaw4_loop_ok ) (fun r3 => ?_)
  refine OW.nil ?_
  refine OJ.call (d := 14) (g := 16) (ats := #[27]) (args := [.tmp 13]) (owed := []) F16 (addr_PrintIP_ok r3) (fun r4 => ?_)
  refine OW.nil ?_
  refine OJ.go 5 [(5, .int .i64 r4.2), (4, .string r4.1), (16, .int .i64 r4.2), (15, .string r4.1), (12, .tuple #[.string r4.1, .int .i64 r4.2])] ?_
  refine OJ.nil ?_
  refine SJ.sr 3 ?_
  refine OJ.call (d := 17) (g := 24) (ats := #[]) (args := []) (owed := []) F24 (weirlaw4_loop_ok ) (fun r5 => ?_)
  refine OW.nil ?_
  refine OJ.call (d := 18) (g := 25) (ats := #[27]) (args := [.tmp 17]) (owed := []) F25 (addr_Class_ok r5) (fun r6 => ?_)
  refine OW.nil ?_
  refine OJ.go 1 [(6, .int .i64 r6)] ?_
  refine OJ.nil ?_
  refine SJ.seq ?_
  refine SJ.draw (id := 4) (kd := [1, 2, 0, 0, 0, 2, 0, 0, 0, 0, 0, 0, 0, 0, 0, 0, 0, 0, 2, 0, 0, 0, 0, 0, 0, 0]) (bef := [0, 0, 3, 7, 15, 31, 63, 127, 255, 511, 1023, 2047, 4095, 8191, 16383, 32767, 65535, 131071, 262143, 524287, 1048575, 2097151, 4194303, 8388607, 16777215, 33554431]) (ord := [0, 1, 2, 3, 4, 5, 6, 7, 8, 9, 10, 11, 12, 13, 14, 15, 16, 17, 18, 19, 20, 21, 22, 23, 24, 25]) mixed ?_
  refine OJ.kld (d := 19) (y := .tmp 1) (cd := c_api_IP) (j := 0) (b := b2) (o := 0) r1.1 (pend2 := [⟨0, 27, (pt b2 0), c_api_IP.val r1.1⟩]) Ty27 rfl (At.whole _) rfl ?_
  refine OJ.call (d := 20) (g := 24) (ats := #[]) (args := []) (owed := [⟨0, 27, (pt b2 0), c_api_IP.val r1.1⟩]) F24 (weirlaw4_loop_ok ) (fun r7 => ?_)
  refine OW.known (j := 0) (q := r1.1) Ty27 rfl (At.whole _) ?_
  refine OW.nil ?_
  refine OJ.eql (d := 21) (T := 27) (yT := 27) (y := .tmp 19) (z := .tmp 20) (cd := c_api_IP) (p := r1.1) (q := r7) rfl Eq27 ?_
  refine OJ.go 1 [(22, .bool (eqv r1.1 r7))] ?_
  refine OJ.join (b := (eqv r1.1 r7)) [4, 5, 6, 7] [8, 9, 10, 11, 12, 13, 14, 15, 16, 17, 18, 19, 20, 21, 22, 23, 24, 25] [3, 4, 5, 6, 26] (fun y9 => [(3, .int .i64 r1.2.2), (4, .string r4.1), (5, .int .i64 r4.2), (6, .int .i64 r6), (26, .bool y9)]) [⟨0, 27, (pt b2 0), c_api_IP.val r1.1⟩] [] (t := 22) eqv_iff (fun hp_ => ?_) (fun hp_ => ?_) (fun _ _ _ _ _ _ h_ => h_) (fun y9 => ?_)
  · refine OJ.go 1 [(23, .int .i64 r1.2.1)] ?_
    refine OJ.call (d := 24) (g := 12) (ats := #[28]) (args := [.tmp 23]) (owed := []) F12 (weirlaw4_num_ok r1.2.1) (fun r8 => ?_)
    refine OW.nil ?_
    refine OJ.go 2 [(26, .bool (r8 == 0)), (25, .bool (r8 == 0))] ?_
    exact OJ.nil ⟨(Cov.mem (Cov.keep (List.mem_of_getElem? (i := 0) rfl) Cov.nil)), rfl, _, rfl, by kernel_rfl⟩
  · refine OJ.go 4 [(26, .bool false), (25, undef), (24, undef), (23, undef)] ?_
    exact OJ.nil ⟨(Cov.mem (Cov.keep (List.mem_of_getElem? (i := 0) rfl) Cov.nil)), rfl, _, rfl, by kernel_rfl⟩
  · refine OJ.go 1 [(27, .bool y9)] ?_
    refine OJ.join (b := y9) [9, 10, 11] [12, 13, 14, 15, 16, 17, 18, 19, 20, 21, 22, 23, 24, 25] [4, 5, 6, 30] (fun y10 => [(4, .string r4.1), (5, .int .i64 r4.2), (6, .int .i64 r6), (30, .bool y10)]) [⟨0, 27, (pt b2 0), c_api_IP.val r1.1⟩] [] (t := 27) Iff.rfl (fun hp_ => ?_) (fun hp_ => ?_) (fun _ _ _ _ _ _ h_ => h_) (fun y10 => ?_)
    · refine OJ.go 3 [(30, .bool (r1.2.2 == 0)), (29, .bool (r1.2.2 == 0)), (28, .int .i64 r1.2.2)] ?_
      exact OJ.nil ⟨(Cov.mem (Cov.keep (List.mem_of_getElem? (i := 0) rfl) Cov.nil)), rfl, _, rfl, by kernel_rfl⟩
    · refine OJ.go 3 [(30, .bool false), (29, undef), (28, undef)] ?_
      exact OJ.nil ⟨(Cov.mem (Cov.keep (List.mem_of_getElem? (i := 0) rfl) Cov.nil)), rfl, _, rfl, by kernel_rfl⟩
    · refine OJ.go 1 [(31, .bool y10)] ?_
      refine OJ.join (b := y10) [13, 14, 15] [16, 17, 18, 19, 20, 21, 22, 23, 24, 25] [5, 6, 34] (fun y11 => [(5, .int .i64 r4.2), (6, .int .i64 r6), (34, .bool y11)]) [⟨0, 27, (pt b2 0), c_api_IP.val r1.1⟩] [] (t := 31) Iff.rfl (fun hp_ => ?_) (fun hp_ => ?_) (fun _ _ _ _ _ _ h_ => h_) (fun y11 => ?_)
      · refine OJ.go 3 [(34, .bool (r4.1.toList == str11.toList)), (33, .bool (r4.1.toList == str11.toList)), (32, .string r4.1)] ?_
        exact OJ.nil ⟨(Cov.mem (Cov.keep (List.mem_of_getElem? (i := 0) rfl) Cov.nil)), rfl, _, rfl, by kernel_rfl⟩
      · refine OJ.go 3 [(34, .bool false), (33, undef), (32, undef)] ?_
        exact OJ.nil ⟨(Cov.mem (Cov.keep (List.mem_of_getElem? (i := 0) rfl) Cov.nil)), rfl, _, rfl, by kernel_rfl⟩
      · refine OJ.go 1 [(35, .bool y11)] ?_
        refine OJ.join (b := y11) [17, 18, 19, 20] [21, 22, 23, 24, 25] [6, 39] (fun y13 => [(6, .int .i64 r6), (39, .bool y13)]) [⟨0, 27, (pt b2 0), c_api_IP.val r1.1⟩] [] (t := 35) Iff.rfl (fun hp_ => ?_) (fun hp_ => ?_) (fun _ _ _ _ _ _ h_ => h_) (fun y13 => ?_)
        · refine OJ.go 1 [(36, .int .i64 r4.2)] ?_
          refine OJ.call (d := 37) (g := 12) (ats := #[28]) (args := [.tmp 36]) (owed := []) F12 (weirlaw4_num_ok r4.2) (fun r12 => ?_)
          refine OW.nil ?_
          refine OJ.go 2 [(39, .bool (r12 == 0)), (38, .bool (r12 == 0))] ?_
          exact OJ.nil ⟨(Cov.mem (Cov.keep (List.mem_of_getElem? (i := 0) rfl) Cov.nil)), rfl, _, rfl, by kernel_rfl⟩
        · refine OJ.go 4 [(39, .bool false), (38, undef), (37, undef), (36, undef)] ?_
          exact OJ.nil ⟨(Cov.mem (Cov.keep (List.mem_of_getElem? (i := 0) rfl) Cov.nil)), rfl, _, rfl, by kernel_rfl⟩
        · refine OJ.go 1 [(40, .bool y13)] ?_
          refine OJ.join (b := y13) [22, 23, 24] [25] [43] (fun y14 => [(43, .bool y14)]) [⟨0, 27, (pt b2 0), c_api_IP.val r1.1⟩] [] (t := 40) Iff.rfl (fun hp_ => ?_) (fun hp_ => ?_) (fun _ _ _ _ _ _ h_ => h_) (fun y14 => ?_)
          · refine OJ.go 3 [(43, .bool (r6 == 2)), (42, .bool (r6 == 2)), (41, .int .i64 r6)] ?_
            exact OJ.nil ⟨(Cov.mem (Cov.keep (List.mem_of_getElem? (i := 0) rfl) Cov.nil)), rfl, _, rfl, by kernel_rfl⟩
          · refine OJ.go 3 [(43, .bool false), (42, undef), (41, undef)] ?_
            exact OJ.nil ⟨(Cov.mem (Cov.keep (List.mem_of_getElem? (i := 0) rfl) Cov.nil)), rfl, _, rfl, by kernel_rfl⟩
          · refine OJ.go 1 [(0, .bool y14)] ?_
            refine OJ.nil ?_
            exact SJ.ret rfl (Res.run (ys := [.bool y14]) (.tmp (by kernel_rfl) .nil) rfl)

/-! ### (*strings.Builder).WriteByte: function 32 -/
noncomputable def strings_Builder_WriteByte.B : Code := (Tryd.f32.body).getD .skip
noncomputable def strings_Builder_WriteByte.cx : Fx := ⟨Tryd.prog, 32, Tryd.f32⟩
noncomputable def strings_Builder_WriteByte.out (r_ : Any) : Value := r_.v
noncomputable def strings_Builder_WriteByte.F0 (r_ : Any) : Reach := .ret (strings_Builder_WriteByte.out r_)
noncomputable def strings_Builder_WriteByte (a0 : (Option Addr)) (a1 : Int) : M Any :=
  strings_Builder_copyCheck a0 >>= fun r1 =>
  nilck a0 >>= fun p2 =>
  ld cL (Addr.add p2 1) >>= fun x3 =>
  slot 5 >>= fun b4 =>
  appl (cI .u8) 5 1 0 x3 [a1] >>= fun r5 =>
  nilck a0 >>= fun p6 =>
  st cL (Addr.add p6 1) r5 >>= fun _ =>
  pure (⟨.nilIface, rfl⟩ : Any)
theorem strings_Builder_WriteByte_ok (a0 : (Option Addr)) (a1 : Int) : Ref Tryd.prog 32 [.pointer a0, .int .u8 a1] (strings_Builder_WriteByte a0 a1) strings_Builder_WriteByte.out := by
  refine Ref.of (cd := strings_Builder_WriteByte.B) Tryd.func32 ?_
  show SJ strings_Builder_WriteByte.cx [.code strings_Builder_WriteByte.B] [(0, .pointer a0), (1, .int .u8 a1)] [] (strings_Builder_WriteByte a0 a1) strings_Builder_WriteByte.F0
  unfold strings_Builder_WriteByte
  refine SJ.sr 1 ?_
  refine OJ.go 1 [(4, (⟨.nilIface, rfl⟩ : Any).v)] ?_
  refine OJ.nil ?_
  refine SJ.sr 2 ?_
  refine OJ.go 1 [(5, .pointer a0)] ?_
  refine OJ.call (d := 6) (g := 44) (ats := #[73]) (args := [.tmp 5]) (owed := []) F44 (strings_Builder_copyCheck_ok a0) (fun r1 => ?_)
  refine OW.nil ?_
  refine OJ.nil ?_
  refine SJ.sr 11 ?_
  refine OJ.go 2 [(8, .pointer a0), (7, .pointer a0)] ?_
  refine OJ.nilck (d := 9) (y := .tmp 8) (fun p2 => ?_)
  refine OJ.go 1 [(10, .pointer (some (Addr.add p2 1)))] ?_
  refine OJ.ld (d := 11) (y := .tmp 10) (pend2 := fun x3 => []) Ty55 (fun _ => rfl) (fun x3 => ?_)
  refine OJ.go 1 [(12, .int .u8 a1)] ?_
  refine OJ.rowSlot (d := 13) (t := 55) (parts := [(0, .tmp 12)]) (ps := [(0, (cI .u8).val a1)]) (cd := (cI .u8)) (⟨[a1], rfl⟩ : Vec Int 1) (owed := []) Ty5 (Filled.cons (cd := (cI .u8)) (q := a1) (o := 0) rfl (Upd.arr (i := 0) (by decide) (by decide)) Filled.nil) (fun b4 => ?_)
  refine OW.nil ?_
  refine OJ.appl (d := 14) (t := 55) (u := 55) (so := .tmp 11) (xo := .tmp 13) (j := 0) (b := b4) (l := ((cI .u8).arr 1).enc (⟨[a1], rfl⟩ : Vec Int 1)) (n := 1) (k := 1) [a1] (owed := []) Ty5 (by rfl) (Cod.arr_enc _ _ _) (by rfl) (fun r5 => ?_)
  refine OW.nil ?_
  refine OJ.nilck (d := 15) (y := .tmp 7) (fun p6 => ?_)
  refine OJ.go 1 [(16, .pointer (some (Addr.add p6 1)))] ?_
  refine OJ.st (y := .tmp 16) (z := .tmp 14) (owed := []) Ty55 ?_
  refine OW.nil ?_
  refine OJ.nil ?_
  refine SJ.sr 1 ?_
  refine OJ.go 1 [(4, (⟨.nilIface, rfl⟩ : Any).v)] ?_
  refine OJ.nil ?_
  exact SJ.ret rfl (Res.run (ys := [(⟨.nilIface, rfl⟩ : Any).v]) (.tmp (by kernel_rfl) .nil) rfl)

/-! ### weir/addr.PrintMac: function 18 -/
noncomputable def addr_PrintMac.B : Code := (Tryd.f18.body).getD .skip
noncomputable def addr_PrintMac.cx : Fx := ⟨Tryd.prog, 18, Tryd.f18⟩
noncomputable def addr_PrintMac.out (r_ : ByteArray) : Value := .string r_
noncomputable def addr_PrintMac.F0 (r_ : ByteArray) : Reach := .ret (addr_PrintMac.out r_)
noncomputable def addr_PrintMac.F1 (a0 : (Vec Int 6)) (b2 : Nat) : (LS Int ByteArray) → Reach := loopF [.inLoop (c1 (c1 (c2 (c1 (c2 (c2 addr_PrintMac.B)))))), .inBlock 0, .code (c2 (c2 (c2 addr_PrintMac.B)))] (fun s_ : Int => [(3, .pointer (some (pt b2 0))), (6, ((cI .u8).arr 6).val a0), (7, .int .i64 s_)]) (fun s_ : Int => []) addr_PrintMac.F0
noncomputable def addr_PrintMac.K1 (a0 : (Vec Int 6)) (b2 : Nat) (s3 : Int) : M (LS Int ByteArray) :=
  chk ((0 : Int) ≤ (Int.fdiv (Vec.g a0 s3 0) (2 ^ 4)) ∧ (Int.fdiv (Vec.g a0 s3 0) (2 ^ 4)) < (str12.size : Int)) >>= fun _ =>
  strings_Builder_WriteByte (some (pt b2 0)) (sb str12 (Int.fdiv (Vec.g a0 s3 0) (2 ^ 4))) >>= fun r22 =>
  chk ((0 : Int) ≤ (band .u8 (Vec.g a0 s3 0) 15) ∧ (band .u8 (Vec.g a0 s3 0) 15) < (str12.size : Int)) >>= fun _ =>
  strings_Builder_WriteByte (some (pt b2 0)) (sb str12 (band .u8 (Vec.g a0 s3 0) 15)) >>= fun r25 =>
  pure (LS.next (IntKind.wrap .i64 (s3 + 1)))
theorem addr_PrintMac.K1_ok (a0 : (Vec Int 6)) (b2 : Nat) (s3 : Int) :
    SJ addr_PrintMac.cx [.code (c2 (c2 (c1 (c1 (c2 (c2 (c1 (c1 (c2 (c1 (c2 (c2 addr_PrintMac.B)))))))))))), .inBlock 1, .code (c2 (c2 (c2 (c1 (c1 (c2 (c1 (c2 (c2 addr_PrintMac.B))))))))), .inLoop (c1 (c1 (c2 (c1 (c2 (c2 addr_PrintMac.B)))))), .inBlock 0, .code (c2 (c2 (c2 addr_PrintMac.B)))] [(3, .pointer (some (pt b2 0))), (6, ((cI .u8).arr 6).val a0), (7, .int .i64 s3), (5, .int .u8 (Vec.g a0 s3 0))] [] (addr_PrintMac.K1 a0 b2 s3) (addr_PrintMac.F1 a0 b2) := by
  unfold addr_PrintMac.K1
  refine SJ.sr 4 ?_
  refine OJ.go 2 [(15, .int .u8 (Int.fdiv (Vec.g a0 s3 0) (2 ^ 4))), (14, .int .u8 (Vec.g a0 s3 0))] ?_
  refine OJ.idxT (d := 16) (T := 9) (y := .const (.string str12)) (j := .tmp 15) (k := .u8) (fun hb20 hb21 => ?_)
  refine OJ.call (d := 17) (g := 32) (ats := #[75, 5]) (args := [.tmp 3, .tmp 16]) (owed := []) F32 (strings_Builder_WriteByte_ok (some (pt b2 0)) (sb str12 (Int.fdiv (Vec.g a0 s3 0) (2 ^ 4)))) (fun r22 => ?_)
  refine OW.nil ?_
  refine OJ.nil ?_
  refine SJ.rg 4 ?_
  refine OJ.go 2 [(19, .int .u8 (band .u8 (Vec.g a0 s3 0) 15)), (18, .int .u8 (Vec.g a0 s3 0))] ?_
  refine OJ.idxT (d := 20) (T := 9) (y := .const (.string str12)) (j := .tmp 19) (k := .u8) (fun hb23 hb24 => ?_)
  refine OJ.call (d := 21) (g := 32) (ats := #[75, 5]) (args := [.tmp 3, .tmp 20]) (owed := []) F32 (strings_Builder_WriteByte_ok (some (pt b2 0)) (sb str12 (band .u8 (Vec.g a0 s3 0) 15))) (fun r25 => ?_)
  refine OW.nil ?_
  refine OJ.nil ?_
  refine SJ.inBlock ?_
  refine SJ.rg 2 ?_
  refine OJ.go 2 [(7, .int .i64 (IntKind.wrap .i64 (s3 + 1))), (22, .int .i64 (IntKind.wrap .i64 (s3 + 1)))] ?_
  refine OJ.nil ?_
  exact SJ.at_ [3, 6, 7] rfl
noncomputable def addr_PrintMac.L1 (a0 : (Vec Int 6)) (b2 : Nat) (s3 : Int) : M (LS Int ByteArray) :=
  if s3 < 6 then
    chk ((0 : Int) ≤ s3 ∧ s3 < (6 : Nat)) >>= fun _ =>
    if s3 > 0 then
      strings_Builder_WriteByte (some (pt b2 0)) 58 >>= fun r26 =>
      addr_PrintMac.K1 a0 b2 s3
    else
      addr_PrintMac.K1 a0 b2 s3
  else
    strings_Builder_String (some (pt b2 0)) >>= fun r28 =>
    pure (LS.done r28)
theorem addr_PrintMac.L1_ok (a0 : (Vec Int 6)) (b2 : Nat) (s3 : Int) :
    SJ addr_PrintMac.cx [.code (c1 (c1 (c2 (c1 (c2 (c2 addr_PrintMac.B)))))), .inLoop (c1 (c1 (c2 (c1 (c2 (c2 addr_PrintMac.B)))))), .inBlock 0, .code (c2 (c2 (c2 addr_PrintMac.B)))] [(3, .pointer (some (pt b2 0))), (6, ((cI .u8).arr 6).val a0), (7, .int .i64 s3)] [] (addr_PrintMac.L1 a0 b2 s3) (addr_PrintMac.F1 a0 b2) := by
  unfold addr_PrintMac.L1
  refine SJ.sr 1 ?_
  refine OJ.go 1 [(8, .bool (decide (s3 < 6)))] ?_
  refine OJ.nil ?_
  refine SJ.seq ?_
  refine SJ.cond (t := (.tmp 8)) (b := decide (s3 < 6)) decide_eq_true_iff (fun hc29 => ?_) (fun hc29 => ?_)
  · refine SJ.skip ?_
    refine SJ.seq ?_
    refine SJ.block (id := 1) ?_
    refine SJ.sr 4 ?_
    refine OJ.go 1 [(9, .int .i64 s3)] ?_
    refine OJ.idxV (d := 10) (T := 42) (E := 5) (y := .tmp 6) (j := .tmp 7) (k := .i64) (v0 := a0) Ty5 (fun hb17 hb18 => ?_)
    refine OJ.go 2 [(5, .int .u8 (Vec.g a0 s3 0)), (4, .int .i64 s3)] ?_
    refine OJ.nil ?_
    refine SJ.seq ?_
    refine SJ.sr 2 ?_
    refine OJ.go 2 [(12, .bool (decide (s3 > 0))), (11, .int .i64 s3)] ?_
    refine OJ.nil ?_
    refine SJ.cond (t := (.tmp 12)) (b := decide (s3 > 0)) decide_eq_true_iff (fun hc27 => ?_) (fun hc27 => ?_)
    · refine SJ.rg 1 ?_
      refine OJ.call (d := 13) (g := 32) (ats := #[75, 5]) (args := [.tmp 3, .const (.int .u8 58)]) (owed := []) F32 (strings_Builder_WriteByte_ok (some (pt b2 0)) 58) (fun r26 => ?_)
      refine OW.nil ?_
      refine OJ.nil ?_
      refine SJ.less [3, 6, 7, 5] (m' := [(3, .pointer (some (pt b2 0))), (6, ((cI .u8).arr 6).val a0), (7, .int .i64 s3), (5, .int .u8 (Vec.g a0 s3 0))]) ?_
      exact addr_PrintMac.K1_ok a0 b2 s3
    · refine SJ.skip ?_
      refine SJ.less [3, 6, 7, 5] (m' := [(3, .pointer (some (pt b2 0))), (6, ((cI .u8).arr 6).val a0), (7, .int .i64 s3), (5, .int .u8 (Vec.g a0 s3 0))]) ?_
      exact addr_PrintMac.K1_ok a0 b2 s3
  · refine SJ.exit (id := 0) (by rfl) ?_
    refine SJ.sr 2 ?_
    refine OJ.call (d := 23) (g := 33) (ats := #[75]) (args := [.tmp 3]) (owed := []) F33 (strings_Builder_String_ok (some (pt b2 0))) (fun r28 => ?_)
    refine OW.nil ?_
    refine OJ.go 1 [(2, .string r28)] ?_
    refine OJ.nil ?_
    exact SJ.ret rfl (Res.run (ys := [.string r28]) (.tmp (by kernel_rfl) .nil) rfl)
noncomputable def addr_PrintMac (a0 : (Vec Int 6)) : M ByteArray :=
  slot 42 >>= fun b1 =>
  newv 75 c_strings_Builder z_strings_Builder >>= fun b2 =>
  loopM (fun s_ : Int => addr_PrintMac.L1 a0 b2 s_) 0
theorem addr_PrintMac_ok (a0 : (Vec Int 6)) : Ref Tryd.prog 18 [((cI .u8).arr 6).val a0] (addr_PrintMac a0) addr_PrintMac.out := by
  refine Ref.of (cd := addr_PrintMac.B) Tryd.func18 ?_
  show SJ addr_PrintMac.cx [.code addr_PrintMac.B] [(0, ((cI .u8).arr 6).val a0)] [] (addr_PrintMac a0) addr_PrintMac.F0
  unfold addr_PrintMac
  refine SJ.sr 2 ?_
  refine OJ.slotOf (d := 1) (op := (.box 42 (.tmp 0))) (cd := ((cI .u8).arr 6)) (u := a0) (owed := []) (box_run (by kernel_rfl)) (fun b1 => ?_)
  refine OW.nil ?_
  refine OJ.go 1 [(2, .string ByteArray.empty)] ?_
  refine OJ.nil ?_
  refine SJ.sr 1 ?_
  refine OJ.newOf (d := 3) (op := (.alloc 75)) (cd := c_strings_Builder) (u := z_strings_Builder) (owed := []) (alloc_run Ty75) (fun b2 => ?_)
  refine OW.nil ?_
  refine OJ.nil ?_
  refine SJ.seq ?_
  refine SJ.sr 2 ?_
  refine OJ.kld (d := 6) (y := .tmp 1) (cd := ((cI .u8).arr 6)) (j := 0) (b := b1) (o := 0) a0 (pend2 := []) Ty42 rfl (At.whole _) rfl ?_
  refine OJ.go 1 [(7, .int .i64 0)] ?_
  refine OJ.nil ?_
  refine SJ.block (id := 0) ?_
  refine SJ.forget (List.Sublist.cons _ List.Sublist.slnil) ?_
  exact SJ.loop (fun s_ : Int => [(3, .pointer (some (pt b2 0))), (6, ((cI .u8).arr 6).val a0), (7, .int .i64 s_)]) (fun s_ : Int => []) [3, 6, 7] rfl (fun _ _ => rfl) (fun s_ => addr_PrintMac.L1_ok a0 b2 s_)

/-! ### weir/weirlaw4.AddrUnlike: function 5 -/
noncomputable def weirlaw4_AddrUnlike.B : Code := (Tryd.f5.body).getD .skip
noncomputable def weirlaw4_AddrUnlike.cx : Fx := ⟨Tryd.prog, 5, Tryd.f5⟩
noncomputable def weirlaw4_AddrUnlike.out (r_ : Bool) : Value := .bool r_
noncomputable def weirlaw4_AddrUnlike.F0 (r_ : Bool) : Reach := .ret (weirlaw4_AddrUnlike.out r_)
noncomputable def weirlaw4_AddrUnlike (a0 : api_IP) (a1 : api_IP) (a2 : api_Prefix) (a3 : api_Prefix) (a4 : (Vec Int 6)) (a5 : (Vec Int 6)) : M Bool :=
  slot 27 >>= fun b1 =>
  slot 27 >>= fun b2 =>
  slot 37 >>= fun b3 =>
  slot 37 >>= fun b4 =>
  slot 42 >>= fun b5 =>
  slot 42 >>= fun b6 =>
  addr_PrintIP a0 >>= fun r7 =>
  addr_PrintIP a1 >>= fun r8 =>
  weirlaw4_num r7.2 >>= fun r9 =>
  (if r9 = 0 then
      weirlaw4_num r8.2 >>= fun r10 =>
      pure (r10 == 0)
    else
      pure false) >>= fun y11 =>
  (if y11 = true then
      pure (!((r7.1.toList == r8.1.toList) == (eqv a0 a1)))
    else
      pure false) >>= fun y12 =>
  if y12 = true then
    pure false
  else
    addr_PrintPrefix a2 >>= fun r13 =>
    addr_PrintPrefix a3 >>= fun r14 =>
    weirlaw4_num r13.2 >>= fun r15 =>
    (if r15 = 0 then
        weirlaw4_num r14.2 >>= fun r16 =>
        pure (r16 == 0)
      else
        pure false) >>= fun y17 =>
    (if y17 = true then
        pure (!((r13.1.toList == r14.1.toList) == (eqv a2 a3)))
      else
        pure false) >>= fun y18 =>
    if y18 = true then
      pure false
    else
      draw >>= fun _ =>
      weirlaw4_started >>= fun r19 =>
      (if r19 = true then
          addr_PrintMac a4 >>= fun r20 =>
          addr_PrintMac a5 >>= fun r21 =>
          pure ((r20.toList == r21.toList) == (eqv a4 a5))
        else
          pure false) >>= fun y22 =>
      pure y22
theorem weirlaw4_AddrUnlike_ok (a0 : api_IP) (a1 : api_IP) (a2 : api_Prefix) (a3 : api_Prefix) (a4 : (Vec Int 6)) (a5 : (Vec Int 6)) : Ref Tryd.prog 5 [c_api_IP.val a0, c_api_IP.val a1, c_api_Prefix.val a2, c_api_Prefix.val a3, ((cI .u8).arr 6).val a4, ((cI .u8).arr 6).val a5] (weirlaw4_AddrUnlike a0 a1 a2 a3 a4 a5) weirlaw4_AddrUnlike.out := by
  refine Ref.of (cd := weirlaw4_AddrUnlike.B) Tryd.func5 ?_
  show SJ weirlaw4_AddrUnlike.cx [.code weirlaw4_AddrUnlike.B] [(0, c_api_IP.val a0), (1, c_api_IP.val a1), (2, c_api_Prefix.val a2), (3, c_api_Prefix.val a3), (4, ((cI .u8).arr 6).val a4), (5, ((cI .u8).arr 6).val a5)] [] (weirlaw4_AddrUnlike a0 a1 a2 a3 a4 a5) weirlaw4_AddrUnlike.F0
  unfold weirlaw4_AddrUnlike
  refine SJ.sr 7 ?_
  refine OJ.slotOf (d := 6) (op := (.box 27 (.tmp 0))) (cd := c_api_IP) (u := a0) (owed := []) (box_run (by kernel_rfl)) (fun b1 => ?_)
  refine OW.nil ?_
  refine OJ.slotOf (d := 7) (op := (.box 27 (.tmp 1))) (cd := c_api_IP) (u := a1) (owed := []) (box_run (by kernel_rfl)) (fun b2 => ?_)
  refine OW.nil ?_
  refine OJ.slotOf (d := 8) (op := (.box 37 (.tmp 2))) (cd := c_api_Prefix) (u := a2) (owed := []) (box_run (by kernel_rfl)) (fun b3 => ?_)
  refine OW.nil ?_
  refine OJ.slotOf (d := 9) (op := (.box 37 (.tmp 3))) (cd := c_api_Prefix) (u := a3) (owed := []) (box_run (by kernel_rfl)) (fun b4 => ?_)
  refine OW.nil ?_
  refine OJ.slotOf (d := 10) (op := (.box 42 (.tmp 4))) (cd := ((cI .u8).arr 6)) (u := a4) (owed := []) (box_run (by kernel_rfl)) (fun b5 => ?_)
  refine OW.nil ?_
  refine OJ.slotOf (d := 11) (op := (.box 42 (.tmp 5))) (cd := ((cI .u8).arr 6)) (u := a5) (owed := []) (box_run (by kernel_rfl)) (fun b6 => ?_)
  refine OW.nil ?_
  refine OJ.go 1 [(12, .bool false)] ?_
  refine OJ.nil ?_
  refine SJ.sr 7 ?_
  refine OJ.kld (d := 22) (y := .tmp 6) (cd := c_api_IP) (j := 5) (b := b1) (o := 0) a0 (pend2 := []) Ty27 rfl (At.whole _) rfl ?_
  refine OJ.call (d := 23) (g := 16) (ats := #[27]) (args := [.tmp 22]) (owed := []) F16 (addr_PrintIP_ok a0) (fun r7 => ?_)
  refine OW.nil ?_
  refine OJ.go 5 [(14, .int .i64 r7.2), (13, .string r7.1), (25, .int .i64 r7.2), (24, .string r7.1), (21, .tuple #[.string r7.1, .int .i64 r7.2])] ?_
  refine OJ.nil ?_
  refine SJ.sr 7 ?_
  refine OJ.kld (d := 27) (y := .tmp 7) (cd := c_api_IP) (j := 4) (b := b2) (o := 0) a1 (pend2 := []) Ty27 rfl (At.whole _) rfl ?_
  refine OJ.call (d := 28) (g := 16) (ats := #[27]) (args := [.tmp 27]) (owed := []) F16 (addr_PrintIP_ok a1) (fun r8 => ?_)
  refine OW.nil ?_
  refine OJ.go 5 [(16, .int .i64 r8.2), (15, .string r8.1), (30, .int .i64 r8.2), (29, .string r8.1), (26, .tuple #[.string r8.1, .int .i64 r8.2])] ?_
  refine OJ.nil ?_
  refine SJ.seq ?_
  refine SJ.sr 17 ?_
  refine OJ.go 1 [(31, .int .i64 r7.2)] ?_
  refine OJ.call (d := 32) (g := 12) (ats := #[28]) (args := [.tmp 31]) (owed := []) F12 (weirlaw4_num_ok r7.2) (fun r9 => ?_)
  refine OW.nil ?_
  refine OJ.go 2 [(34, .bool (r9 == 0)), (33, .bool (r9 == 0))] ?_
  refine OJ.join (b := (r9 == 0)) [4, 5, 6, 7] [8, 9, 10, 11, 12, 13, 14, 15, 16] [6, 7, 8, 9, 10, 11, 13, 15, 38] (fun y11 => [(6, .pointer (some (pt b1 0))), (7, .pointer (some (pt b2 0))), (8, .pointer (some (pt b3 0))), (9, .pointer (some (pt b4 0))), (10, .pointer (some (pt b5 0))), (11, .pointer (some (pt b6 0))), (13, .string r7.1), (15, .string r8.1), (38, .bool y11)]) [] [] (t := 34) beq_iff_eq (fun hp_ => ?_) (fun hp_ => ?_) (fun _ _ _ _ _ _ h_ => h_) (fun y11 => ?_)
  · refine OJ.go 1 [(35, .int .i64 r8.2)] ?_
    refine OJ.call (d := 36) (g := 12) (ats := #[28]) (args := [.tmp 35]) (owed := []) F12 (weirlaw4_num_ok r8.2) (fun r10 => ?_)
    refine OW.nil ?_
    refine OJ.go 2 [(38, .bool (r10 == 0)), (37, .bool (r10 == 0))] ?_
    exact OJ.nil ⟨(Cov.mem Cov.nil), rfl, _, rfl, by kernel_rfl⟩
  · refine OJ.go 4 [(38, .bool false), (37, undef), (36, undef), (35, undef)] ?_
    exact OJ.nil ⟨(Cov.mem Cov.nil), rfl, _, rfl, by kernel_rfl⟩
  · refine OJ.go 1 [(39, .bool y11)] ?_
    refine OJ.join (b := y11) [9, 10, 11, 12, 13, 14, 15, 16] [] [8, 9, 10, 11, 47] (fun y12 => [(8, .pointer (some (pt b3 0))), (9, .pointer (some (pt b4 0))), (10, .pointer (some (pt b5 0))), (11, .pointer (some (pt b6 0))), (47, .bool y12)]) [] [] (t := 39) Iff.rfl (fun hp_ => ?_) (fun hp_ => ?_) (fun _ _ _ _ _ _ h_ => h_) (fun y12 => ?_)
    · refine OJ.go 3 [(42, .bool (r7.1.toList == r8.1.toList)), (41, .string r8.1), (40, .string r7.1)] ?_
      refine OJ.kld (d := 43) (y := .tmp 6) (cd := c_api_IP) (j := 5) (b := b1) (o := 0) a0 (pend2 := []) Ty27 rfl (At.whole _) rfl ?_
      refine OJ.kld (d := 44) (y := .tmp 7) (cd := c_api_IP) (j := 4) (b := b2) (o := 0) a1 (pend2 := []) Ty27 rfl (At.whole _) rfl ?_
      refine OJ.eql (d := 45) (T := 27) (yT := 27) (y := .tmp 43) (z := .tmp 44) (cd := c_api_IP) (p := a0) (q := a1) rfl Eq27 ?_
      refine OJ.go 2 [(47, .bool (!((r7.1.toList == r8.1.toList) == (eqv a0 a1)))), (46, .bool (!((r7.1.toList == r8.1.toList) == (eqv a0 a1))))] ?_
      exact OJ.nil ⟨(Cov.mem Cov.nil), rfl, _, rfl, by kernel_rfl⟩
    · refine OJ.go 8 [(47, .bool false), (46, undef), (45, undef), (44, undef), (43, undef), (42, undef), (41, undef), (40, undef)] ?_
      exact OJ.nil ⟨(Cov.mem Cov.nil), rfl, _, rfl, by kernel_rfl⟩
    · refine OJ.nil ?_
      refine SJ.cond (t := (.tmp 47)) (b := y12) Iff.rfl (fun hc24 => ?_) (fun hc24 => ?_)
      · refine SJ.sr 1 ?_
        refine OJ.go 1 [(12, .bool false)] ?_
        refine OJ.nil ?_
        exact SJ.ret rfl (Res.run (ys := [.bool false]) (.tmp (by kernel_rfl) .nil) rfl)
      · refine SJ.skip ?_
        refine SJ.sr 7 ?_
        refine OJ.kld (d := 49) (y := .tmp 8) (cd := c_api_Prefix) (j := 3) (b := b3) (o := 0) a2 (pend2 := []) Ty37 rfl (At.whole _) rfl ?_
        refine OJ.call (d := 50) (g := 17) (ats := #[37]) (args := [.tmp 49]) (owed := []) F17 (addr_PrintPrefix_ok a2) (fun r13 => ?_)
        refine OW.nil ?_
        refine OJ.go 5 [(18, .int .i64 r13.2), (17, .string r13.1), (52, .int .i64 r13.2), (51, .string r13.1), (48, .tuple #[.string r13.1, .int .i64 r13.2])] ?_
        refine OJ.nil ?_
        refine SJ.sr 7 ?_
        refine OJ.kld (d := 54) (y := .tmp 9) (cd := c_api_Prefix) (j := 2) (b := b4) (o := 0) a3 (pend2 := []) Ty37 rfl (At.whole _) rfl ?_
        refine OJ.call (d := 55) (g := 17) (ats := #[37]) (args := [.tmp 54]) (owed := []) F17 (addr_PrintPrefix_ok a3) (fun r14 => ?_)
        refine OW.nil ?_
        refine OJ.go 5 [(20, .int .i64 r14.2), (19, .string r14.1), (57, .int .i64 r14.2), (56, .string r14.1), (53, .tuple #[.string r14.1, .int .i64 r14.2])] ?_
        refine OJ.nil ?_
        refine SJ.seq ?_
        refine SJ.sr 17 ?_
        refine OJ.go 1 [(58, .int .i64 r13.2)] ?_
        refine OJ.call (d := 59) (g := 12) (ats := #[28]) (args := [.tmp 58]) (owed := []) F12 (weirlaw4_num_ok r13.2) (fun r15 => ?_)
        refine OW.nil ?_
        refine OJ.go 2 [(61, .bool (r15 == 0)), (60, .bool (r15 == 0))] ?_
        refine OJ.join (b := (r15 == 0)) [4, 5, 6, 7] [8, 9, 10, 11, 12, 13, 14, 15, 16] [8, 9, 10, 11, 17, 19, 65] (fun y17 => [(8, .pointer (some (pt b3 0))), (9, .pointer (some (pt b4 0))), (10, .pointer (some (pt b5 0))), (11, .pointer (some (pt b6 0))), (17, .string r13.1), (19, .string r14.1), (65, .bool y17)]) [] [] (t := 61) beq_iff_eq (fun hp_ => ?_) (fun hp_ => ?_) (fun _ _ _ _ _ _ h_ => h_) (fun y17 => ?_)
        · refine OJ.go 1 [(62, .int .i64 r14.2)] ?_
          refine OJ.call (d := 63) (g := 12) (ats := #[28]) (args := [.tmp 62]) (owed := []) F12 (weirlaw4_num_ok r14.2) (fun r16 => ?_)
          refine OW.nil ?_
          refine OJ.go 2 [(65, .bool (r16 == 0)), (64, .bool (r16 == 0))] ?_
          exact OJ.nil ⟨(Cov.mem Cov.nil), rfl, _, rfl, by kernel_rfl⟩
        · refine OJ.go 4 [(65, .bool false), (64, undef), (63, undef), (62, undef)] ?_
          exact OJ.nil ⟨(Cov.mem Cov.nil), rfl, _, rfl, by kernel_rfl⟩
        · refine OJ.go 1 [(66, .bool y17)] ?_
          refine OJ.join (b := y17) [9, 10, 11, 12, 13, 14, 15, 16] [] [10, 11, 74] (fun y18 => [(10, .pointer (some (pt b5 0))), (11, .pointer (some (pt b6 0))), (74, .bool y18)]) [] [] (t := 66) Iff.rfl (fun hp_ => ?_) (fun hp_ => ?_) (fun _ _ _ _ _ _ h_ => h_) (fun y18 => ?_)
          · refine OJ.go 3 [(69, .bool (r13.1.toList == r14.1.toList)), (68, .string r14.1), (67, .string r13.1)] ?_
            refine OJ.kld (d := 70) (y := .tmp 8) (cd := c_api_Prefix) (j := 3) (b := b3) (o := 0) a2 (pend2 := []) Ty37 rfl (At.whole _) rfl ?_
            refine OJ.kld (d := 71) (y := .tmp 9) (cd := c_api_Prefix) (j := 2) (b := b4) (o := 0) a3 (pend2 := []) Ty37 rfl (At.whole _) rfl ?_
            refine OJ.eql (d := 72) (T := 37) (yT := 37) (y := .tmp 70) (z := .tmp 71) (cd := c_api_Prefix) (p := a2) (q := a3) rfl Eq37 ?_
            refine OJ.go 2 [(74, .bool (!((r13.1.toList == r14.1.toList) == (eqv a2 a3)))), (73, .bool (!((r13.1.toList == r14.1.toList) == (eqv a2 a3))))] ?_
            exact OJ.nil ⟨(Cov.mem Cov.nil), rfl, _, rfl, by kernel_rfl⟩
          · refine OJ.go 8 [(74, .bool false), (73, undef), (72, undef), (71, undef), (70, undef), (69, undef), (68, undef), (67, undef)] ?_
            exact OJ.nil ⟨(Cov.mem Cov.nil), rfl, _, rfl, by kernel_rfl⟩
          · refine OJ.nil ?_
            refine SJ.cond (t := (.tmp 74)) (b := y18) Iff.rfl (fun hc23 => ?_) (fun hc23 => ?_)
            · refine SJ.sr 1 ?_
              refine OJ.go 1 [(12, .bool false)] ?_
              refine OJ.nil ?_
              exact SJ.ret rfl (Res.run (ys := [.bool false]) (.tmp (by kernel_rfl) .nil) rfl)
            · refine SJ.skip ?_
              refine SJ.seq ?_
              refine SJ.draw (id := 9) (kd := [2, 0, 1, 2, 1, 2, 0, 1, 1, 0, 0, 0, 0]) (bef := [0, 1, 3, 7, 3, 31, 63, 3, 3, 387, 1023, 2047, 4095]) (ord := [0, 1, 2, 4, 7, 8, 3, 5, 6, 9, 10, 11, 12]) mixed ?_
              refine OJ.call (d := 75) (g := 11) (ats := #[]) (args := []) (owed := []) F11 (weirlaw4_started_ok ) (fun r19 => ?_)
              refine OW.nil ?_
              refine OJ.go 1 [(76, .bool r19)] ?_
              refine OJ.join (b := r19) [2, 4, 7, 8, 3, 5, 6, 9, 10, 11] [12] [86] (fun y22 => [(86, .bool y22)]) [⟨8, 42, (pt b6 0), ((cI .u8).arr 6).val a5⟩, ⟨7, 42, (pt b5 0), ((cI .u8).arr 6).val a4⟩, ⟨4, 42, (pt b6 0), ((cI .u8).arr 6).val a5⟩, ⟨2, 42, (pt b5 0), ((cI .u8).arr 6).val a4⟩] [] (t := 76) Iff.rfl (fun hp_ => ?_) (fun hp_ => ?_) (fun _ _ _ _ _ _ h_ => h_) (fun y22 => ?_)
              · refine OJ.kld (d := 77) (y := .tmp 10) (cd := ((cI .u8).arr 6)) (j := 1) (b := b5) (o := 0) a4 (pend2 := [⟨2, 42, (pt b5 0), ((cI .u8).arr 6).val a4⟩]) Ty42 rfl (At.whole _) rfl ?_
                refine OJ.kld (d := 79) (y := .tmp 11) (cd := ((cI .u8).arr 6)) (j := 0) (b := b6) (o := 0) a5 (pend2 := [⟨4, 42, (pt b6 0), ((cI .u8).arr 6).val a5⟩, ⟨2, 42, (pt b5 0), ((cI .u8).arr 6).val a4⟩]) Ty42 rfl (At.whole _) rfl ?_
                refine OJ.kld (d := 82) (y := .tmp 10) (cd := ((cI .u8).arr 6)) (j := 1) (b := b5) (o := 0) a4 (pend2 := [⟨7, 42, (pt b5 0), ((cI .u8).arr 6).val a4⟩, ⟨4, 42, (pt b6 0), ((cI .u8).arr 6).val a5⟩, ⟨2, 42, (pt b5 0), ((cI .u8).arr 6).val a4⟩]) Ty42 rfl (At.whole _) rfl ?_
                refine OJ.kld (d := 83) (y := .tmp 11) (cd := ((cI .u8).arr 6)) (j := 0) (b := b6) (o := 0) a5 (pend2 := [⟨8, 42, (pt b6 0), ((cI .u8).arr 6).val a5⟩, ⟨7, 42, (pt b5 0), ((cI .u8).arr 6).val a4⟩, ⟨4, 42, (pt b6 0), ((cI .u8).arr 6).val a5⟩, ⟨2, 42, (pt b5 0), ((cI .u8).arr 6).val a4⟩]) Ty42 rfl (At.whole _) rfl ?_
                refine OJ.call (d := 78) (g := 18) (ats := #[42]) (args := [.tmp 77]) (owed := [⟨8, 42, (pt b6 0), ((cI .u8).arr 6).val a5⟩, ⟨7, 42, (pt b5 0), ((cI .u8).arr 6).val a4⟩, ⟨4, 42, (pt b6 0), ((cI .u8).arr 6).val a5⟩]) F18 (addr_PrintMac_ok a4) (fun r20 => ?_)
                refine OW.known (j := 0) (q := a5) Ty42 rfl (At.whole _) ?_
                refine OW.known (j := 1) (q := a4) Ty42 rfl (At.whole _) ?_
                refine OW.known (j := 0) (q := a5) Ty42 rfl (At.whole _) ?_
                refine OW.nil ?_
                refine OJ.call (d := 80) (g := 18) (ats := #[42]) (args := [.tmp 79]) (owed := [⟨8, 42, (pt b6 0), ((cI .u8).arr 6).val a5⟩, ⟨7, 42, (pt b5 0), ((cI .u8).arr 6).val a4⟩]) F18 (addr_PrintMac_ok a5) (fun r21 => ?_)
                refine OW.known (j := 0) (q := a5) Ty42 rfl (At.whole _) ?_
                refine OW.known (j := 1) (q := a4) Ty42 rfl (At.whole _) ?_
                refine OW.nil ?_
                refine OJ.go 1 [(81, .bool (r20.toList == r21.toList))] ?_
                refine OJ.eql (d := 84) (T := 42) (yT := 42) (y := .tmp 82) (z := .tmp 83) (cd := ((cI .u8).arr 6)) (p := a4) (q := a5) rfl Eq42 ?_
                refine OJ.go 2 [(86, .bool ((r20.toList == r21.toList) == (eqv a4 a5))), (85, .bool ((r20.toList == r21.toList) == (eqv a4 a5)))] ?_
                exact OJ.nil ⟨(Cov.mem (Cov.keep (List.mem_of_getElem? (i := 0) rfl) (Cov.keep (List.mem_of_getElem? (i := 1) rfl) (Cov.keep (List.mem_of_getElem? (i := 2) rfl) (Cov.keep (List.mem_of_getElem? (i := 3) rfl) Cov.nil))))), rfl, _, rfl, by kernel_rfl⟩
              · refine OJ.go 10 [(86, .bool false), (85, undef), (84, undef), (81, undef), (80, undef), (78, undef), (83, undef), (82, undef), (79, undef), (77, undef)] ?_
                exact OJ.nil ⟨(Cov.mem Cov.nil), rfl, _, rfl, by kernel_rfl⟩
              · refine OJ.go 1 [(12, .bool y22)] ?_
                refine OJ.nil ?_
                exact SJ.ret rfl (Res.run (ys := [.bool y22]) (.tmp (by kernel_rfl) .nil) rfl)

/-! ### internal/stringslite.Cut: function 45 -/
noncomputable def stringslite_Cut.B : Code := (Tryd.f45.body).getD .skip
noncomputable def stringslite_Cut.cx : Fx := ⟨Tryd.prog, 45, Tryd.f45⟩
noncomputable def stringslite_Cut.out (r_ : (ByteArray × ByteArray × Bool)) : Value := .tuple #[.string r_.1, .string r_.2.1, .bool r_.2.2]
noncomputable def stringslite_Cut.F0 (r_ : (ByteArray × ByteArray × Bool)) : Reach := .ret (stringslite_Cut.out r_)
noncomputable def stringslite_Cut (a0 : ByteArray) (a1 : ByteArray) : M (ByteArray × ByteArray × Bool) :=
  stringslite_Index a0 a1 >>= fun r1 =>
  if r1 ≥ 0 then
    draw >>= fun _ =>
    chk (0 ≤ (0 : Int) ∧ (0 : Int) ≤ r1 ∧ r1 ≤ (a0.size : Int)) >>= fun _ =>
    chk (0 ≤ ((IntKind.wrap .i64 (r1 + (a1.size : Int))) : Int) ∧ ((IntKind.wrap .i64 (r1 + (a1.size : Int))) : Int) ≤ (a0.size : Int) ∧ (a0.size : Int) ≤ (a0.size : Int)) >>= fun _ =>
    pure ((ByteArray.extract a0 (Int.toNat 0) (Int.toNat r1)), (ByteArray.extract a0 (Int.toNat (IntKind.wrap .i64 (r1 + (a1.size : Int)))) (Int.toNat (a0.size : Int))), true)
  else
    pure (a0, ByteArray.empty, false)
theorem stringslite_Cut_ok (a0 : ByteArray) (a1 : ByteArray) : Ref Tryd.prog 45 [.string a0, .string a1] (stringslite_Cut a0 a1) stringslite_Cut.out := by
  refine Ref.of (cd := stringslite_Cut.B) Tryd.func45 ?_
  show SJ stringslite_Cut.cx [.code stringslite_Cut.B] [(0, .string a0), (1, .string a1)] [] (stringslite_Cut a0 a1) stringslite_Cut.F0
  unfold stringslite_Cut
  refine SJ.sr 3 ?_
  refine OJ.go 3 [(6, .bool false), (5, .string ByteArray.empty), (4, .string ByteArray.empty)] ?_
  refine OJ.nil ?_
  refine SJ.seq ?_
  refine SJ.sr 4 ?_
  refine OJ.go 2 [(9, .string a1), (8, .string a0)] ?_
  refine OJ.call (d := 10) (g := 55) (ats := #[9, 9]) (args := [.tmp 8, .tmp 9]) (owed := []) F55 (stringslite_Index_ok a0 a1) (fun r1 => ?_)
  refine OW.nil ?_
  refine OJ.go 1 [(7, .int .i64 r1)] ?_
  refine OJ.nil ?_
  refine SJ.sr 2 ?_
  refine OJ.go 2 [(12, .bool (decide (r1 ≥ 0))), (11, .int .i64 r1)] ?_
  refine OJ.nil ?_
  refine SJ.cond (t := (.tmp 12)) (b := decide (r1 ≥ 0)) decide_eq_true_iff (fun hc2 => ?_) (fun hc2 => ?_)
  · refine SJ.seq ?_
    refine SJ.draw (id := 3) (kd := [0, 0, 0, 0, 0, 0, 0, 0, 0, 0, 0, 0]) (bef := [0, 0, 3, 0, 0, 0, 32, 112, 248, 7, 1023, 2047]) (ord := [0, 1, 2, 3, 4, 5, 6, 7, 8, 9, 10, 11]) mixed ?_
    refine OJ.go 2 [(14, .int .i64 r1), (13, .string a0)] ?_
    refine OJ.cutT (d := 15) (t := 9) (y := .tmp 13) (lo := none) (hi := (some (.tmp 14))) (lo' := none) (hi' := some (.i64, r1)) ?_
    refine OJ.go 5 [(20, .int .i64 (IntKind.wrap .i64 (r1 + (a1.size : Int)))), (19, .int .i64 (a1.size : Int)), (18, .string a1), (17, .int .i64 r1), (16, .string a0)] ?_
    refine OJ.cutT (d := 21) (t := 9) (y := .tmp 16) (lo := (some (.tmp 20))) (hi := none) (lo' := some (.i64, IntKind.wrap .i64 (r1 + (a1.size : Int)))) (hi' := none) ?_
    refine OJ.go 3 [(6, .bool true), (5, .string (ByteArray.extract a0 (Int.toNat (IntKind.wrap .i64 (r1 + (a1.size : Int)))) (Int.toNat (a0.size : Int)))), (4, .string (ByteArray.extract a0 (Int.toNat 0) (Int.toNat r1)))] ?_
    refine OJ.nil ?_
    exact SJ.ret rfl (Res.run (ys := [.string (ByteArray.extract a0 (Int.toNat 0) (Int.toNat r1)), .string (ByteArray.extract a0 (Int.toNat (IntKind.wrap .i64 (r1 + (a1.size : Int)))) (Int.toNat (a0.size : Int))), .bool true]) (.tmp (by kernel_rfl) (.tmp (by kernel_rfl) (.tmp (by kernel_rfl) .nil))) rfl)
  · refine SJ.skip ?_
    refine SJ.sr 4 ?_
    refine OJ.go 4 [(6, .bool false), (5, .string ByteArray.empty), (4, .string a0), (22, .string a0)] ?_
    refine OJ.nil ?_
    exact SJ.ret rfl (Res.run (ys := [.string a0, .string ByteArray.empty, .bool false]) (.tmp (by kernel_rfl) (.tmp (by kernel_rfl) (.tmp (by kernel_rfl) .nil))) rfl)

/-! ### strings.Cut: function 34 -/
noncomputable def strings_Cut.B : Code := (Tryd.f34.body).getD .skip
noncomputable def strings_Cut.cx : Fx := ⟨Tryd.prog, 34, Tryd.f34⟩
noncomputable def strings_Cut.out (r_ : (ByteArray × ByteArray × Bool)) : Value := .tuple #[.string r_.1, .string r_.2.1, .bool r_.2.2]
noncomputable def strings_Cut.F0 (r_ : (ByteArray × ByteArray × Bool)) : Reach := .ret (strings_Cut.out r_)
noncomputable def strings_Cut (a0 : ByteArray) (a1 : ByteArray) : M (ByteArray × ByteArray × Bool) :=
  stringslite_Cut a0 a1 >>= fun r1 =>
  pure (r1.1, r1.2.1, r1.2.2)
theorem strings_Cut_ok (a0 : ByteArray) (a1 : ByteArray) : Ref Tryd.prog 34 [.string a0, .string a1] (strings_Cut a0 a1) strings_Cut.out := by
  refine Ref.of (cd := strings_Cut.B) Tryd.func34 ?_
  show SJ strings_Cut.cx [.code strings_Cut.B] [(0, .string a0), (1, .string a1)] [] (strings_Cut a0 a1) strings_Cut.F0
  unfold strings_Cut
  refine SJ.sr 3 ?_
  refine OJ.go 3 [(6, .bool false), (5, .string ByteArray.empty), (4, .string ByteArray.empty)] ?_
  refine OJ.nil ?_
  refine SJ.sr 9 ?_
  refine OJ.go 2 [(8, .string a1), (7, .string a0)] ?_
  refine OJ.call (d := 9) (g := 45) (ats := #[9, 9]) (args := [.tmp 7, .tmp 8]) (owed := []) F45 (stringslite_Cut_ok a0 a1) (fun r1 => ?_)
  refine OW.nil ?_
  refine OJ.go 6 [(6, .bool r1.2.2), (5, .string r1.2.1), (4, .string r1.1), (12, .bool r1.2.2), (11, .string r1.2.1), (10, .string r1.1)] ?_
  refine OJ.nil ?_
  exact SJ.ret rfl (Res.run (ys := [.string r1.1, .string r1.2.1, .bool r1.2.2]) (.tmp (by kernel_rfl) (.tmp (by kernel_rfl) (.tmp (by kernel_rfl) .nil))) rfl)

/-! ### weir/addr.ParsePrefix: function 20 -/
noncomputable def addr_ParsePrefix.B : Code := (Tryd.f20.body).getD .skip
noncomputable def addr_ParsePrefix.cx : Fx := ⟨Tryd.prog, 20, Tryd.f20⟩
noncomputable def addr_ParsePrefix.out (r_ : (api_Prefix × Int × Int)) : Value := .tuple #[c_api_Prefix.val r_.1, .int .i64 r_.2.1, .int .i64 r_.2.2]
noncomputable def addr_ParsePrefix.F0 (r_ : (api_Prefix × Int × Int)) : Reach := .ret (addr_ParsePrefix.out r_)
noncomputable def addr_ParsePrefix.K1 (r3 : (api_IP × (Option Addr))) (j8 : Int) (j17 : (Option Addr)) : M (api_Prefix × Int × Int) :=
  if ¬ (j17 = none) then
    draw >>= fun _ =>
    nilck j17 >>= fun p22 =>
    ld (cI .i64) p22 >>= fun x23 =>
    nilck j17 >>= fun p24 =>
    ld (cI .i64) (Addr.add p24 1) >>= fun x25 =>
    same (cI .i64) (Addr.add p24 1) x25 >>= fun _ =>
    same (cI .i64) p22 x23 >>= fun _ =>
    pure (z_api_Prefix, x23, x25)
  else
    pure ((⟨r3.1, j8⟩ : api_Prefix), 0, 0)
theorem addr_ParsePrefix.K1_ok (b1 : Nat) (r3 : (api_IP × (Option Addr))) (j8 : Int) (b13 : Nat) (j17 : (Option Addr)) :
    SJ addr_ParsePrefix.cx [.code (c2 (c2 (c2 (c2 (c2 (c2 (c2 (c2 (c2 (c2 addr_ParsePrefix.B))))))))))] [(2, .pointer (some (pt b1 0))), (9, .pointer j17), (12, .pointer (some (pt b13 0)))] [(b13, c_api_Prefix.enc (⟨r3.1, j8⟩ : api_Prefix)), (b1, c_api_Prefix.enc z_api_Prefix)] (addr_ParsePrefix.K1 r3 j8 j17) addr_ParsePrefix.F0 := by
  unfold addr_ParsePrefix.K1
  refine SJ.seq ?_
  refine SJ.sr 2 ?_
  refine OJ.go 2 [(70, .bool (!(Option.isNone j17))), (69, .pointer j17)] ?_
  refine OJ.nil ?_
  refine SJ.cond (t := (.tmp 70)) (b := (!(Option.isNone j17))) (bnot_iff Option.isNone_iff_eq_none) (fun hc26 => ?_) (fun hc26 => ?_)
  · refine SJ.seq ?_
    refine SJ.draw (id := 16) (kd := [0, 0, 0, 0, 1, 0, 0, 0, 1, 2, 0, 0]) (bef := [0, 0, 2, 6, 14, 0, 32, 96, 224, 1, 543, 2047]) (ord := [0, 1, 2, 3, 4, 5, 6, 7, 8, 9, 10, 11]) mixed ?_
    refine OJ.build (d := 71) (T := 37) (parts := []) (ps := []) (cd := c_api_Prefix) (z0 := z_api_Prefix) z_api_Prefix Ty37 rfl Filled.nil ?_
    refine OJ.go 1 [(72, .pointer j17)] ?_
    refine OJ.nilck (d := 73) (y := .tmp 72) (fun p22 => ?_)
    refine OJ.go 1 [(74, .pointer (some p22))] ?_
    refine OJ.ld (d := 75) (y := .tmp 74) (pend2 := fun x23 => [⟨4, 28, p22, (cI .i64).val x23⟩]) Ty28 (fun _ => rfl) (fun x23 => ?_)
    refine OJ.go 1 [(76, .pointer j17)] ?_
    refine OJ.nilck (d := 77) (y := .tmp 76) (fun p24 => ?_)
    refine OJ.go 1 [(78, .pointer (some (Addr.add p24 1)))] ?_
    refine OJ.ld (d := 79) (y := .tmp 78) (pend2 := fun x25 => [⟨8, 3, (Addr.add p24 1), (cI .i64).val x25⟩, ⟨4, 28, p22, (cI .i64).val x23⟩]) Ty3 (fun _ => rfl) (fun x25 => ?_)
    refine OJ.kst (y := .tmp 2) (z := .tmp 71) (cd := c_api_Prefix) (u := z_api_Prefix) (j := 1) (b := b1) (o := 0) (c_api_Prefix.enc z_api_Prefix) (owed := [⟨8, 3, (Addr.add p24 1), (cI .i64).val x25⟩, ⟨4, 28, p22, (cI .i64).val x23⟩]) Ty37 rfl (Upd.whole ((Cod.len _ _).trans (Cod.len _ _).symm)) rfl ?_
    refine OW.same Ty3 ?_
    refine OW.same Ty28 ?_
    refine OW.nil ?_
    refine OJ.go 2 [(4, .int .i64 x25), (3, .int .i64 x23)] ?_
    refine OJ.nil ?_
    exact SJ.ret rfl (Res.run (ys := [c_api_Prefix.val z_api_Prefix, .int .i64 x23, .int .i64 x25]) (.cell (j := 1) (b := b1) (cd := c_api_Prefix) (q := z_api_Prefix) (by kernel_rfl) rfl Ty37 (At.whole _) (.tmp (by kernel_rfl) (.tmp (by kernel_rfl) .nil))) rfl)
  · refine SJ.skip ?_
    refine SJ.sr 4 ?_
    refine OJ.kld (d := 80) (y := .tmp 12) (cd := c_api_Prefix) (j := 0) (b := b13) (o := 0) (⟨r3.1, j8⟩ : api_Prefix) (pend2 := []) Ty37 rfl (At.whole _) rfl ?_
    refine OJ.kst (y := .tmp 2) (z := .tmp 80) (cd := c_api_Prefix) (u := (⟨r3.1, j8⟩ : api_Prefix)) (j := 1) (b := b1) (o := 0) (c_api_Prefix.enc (⟨r3.1, j8⟩ : api_Prefix)) (owed := []) Ty37 rfl (Upd.whole ((Cod.len _ _).trans (Cod.len _ _).symm)) rfl ?_
    refine OW.nil ?_
    refine OJ.go 2 [(4, .int .i64 0), (3, .int .i64 0)] ?_
    refine OJ.nil ?_
    exact SJ.ret rfl (Res.run (ys := [c_api_Prefix.val (⟨r3.1, j8⟩ : api_Prefix), .int .i64 0, .int .i64 0]) (.cell (j := 1) (b := b1) (cd := c_api_Prefix) (q := (⟨r3.1, j8⟩ : api_Prefix)) (by kernel_rfl) rfl Ty37 (At.whole _) (.tmp (by kernel_rfl) (.tmp (by kernel_rfl) .nil))) rfl)
noncomputable def addr_ParsePrefix.K2 (r3 : (api_IP × (Option Addr))) (j8 : Int) (j12 : (Option Addr)) : M (api_Prefix × Int × Int) :=
  slot 37 >>= fun b13 =>
  (if j12 = none then
      addr_ValidPrefix (⟨r3.1, j8⟩ : api_Prefix) >>= fun r14 =>
      pure (r14 != 0)
    else
      pure false) >>= fun y15 =>
  if y15 = true then
    newv 61 c_addr_fault (⟨46, 0⟩ : addr_fault) >>= fun b27 =>
    addr_ParsePrefix.K1 r3 j8 (some (pt b27 0))
  else
    addr_ParsePrefix.K1 r3 j8 j12
theorem addr_ParsePrefix.K2_ok (b1 : Nat) (r3 : (api_IP × (Option Addr))) (b4 : Nat) (j8 : Int) (j12 : (Option Addr)) :
    SJ addr_ParsePrefix.cx [.code (c2 (c2 (c2 (c2 (c2 (c2 (c2 (c2 addr_ParsePrefix.B))))))))] [(2, .pointer (some (pt b1 0))), (8, .pointer (some (pt b4 0))), (9, .pointer j12), (10, .int .i64 j8)] [(b4, c_api_IP.enc r3.1), (b1, c_api_Prefix.enc z_api_Prefix)] (addr_ParsePrefix.K2 r3 j8 j12) addr_ParsePrefix.F0 := by
  unfold addr_ParsePrefix.K2
  refine SJ.sr 5 ?_
  refine OJ.kld (d := 57) (y := .tmp 8) (cd := c_api_IP) (j := 0) (b := b4) (o := 0) r3.1 (pend2 := []) Ty27 rfl (At.whole _) rfl ?_
  refine OJ.go 1 [(58, .int .i64 j8)] ?_
  refine OJ.build (d := 59) (T := 37) (parts := [(0, .tmp 57), (1, .tmp 58)]) (ps := [(0, c_api_IP.val r3.1), (1, (cI .i64).val j8)]) (cd := c_api_Prefix) (z0 := z_api_Prefix) (⟨r3.1, j8⟩ : api_Prefix) Ty37 rfl (Filled.cons (cd := c_api_IP) (q := r3.1) (o := 0) (by kernel_rfl) (Up_api_Prefix_IP z_api_Prefix r3.1) (Filled.cons (cd := (cI .i64)) (q := j8) (o := 17) (by kernel_rfl) (Up_api_Prefix_Len (⟨r3.1, z_api_Prefix.Len⟩ : api_Prefix) j8) Filled.nil)) ?_
  refine OJ.slotOf (d := 12) (op := (.alloc 37)) (cd := c_api_Prefix) (u := z_api_Prefix) (owed := []) (alloc_run Ty37) (fun b13 => ?_)
  refine OW.nil ?_
  refine OJ.kst (y := .tmp 12) (z := .tmp 59) (cd := c_api_Prefix) (u := (⟨r3.1, j8⟩ : api_Prefix)) (j := 0) (b := b13) (o := 0) (c_api_Prefix.enc (⟨r3.1, j8⟩ : api_Prefix)) (owed := []) Ty37 rfl (Upd.whole ((Cod.len _ _).trans (Cod.len _ _).symm)) rfl ?_
  refine OW.nil ?_
  refine OJ.nil ?_
  refine SJ.seq ?_
  refine SJ.sr 7 ?_
  refine OJ.go 3 [(62, .bool (Option.isNone j12)), (61, .bool (Option.isNone j12)), (60, .pointer j12)] ?_
  refine OJ.join (b := (Option.isNone j12)) [3, 4, 5, 6] [] [2, 9, 12, 66] (fun y15 => [(2, .pointer (some (pt b1 0))), (9, .pointer j12), (12, .pointer (some (pt b13 0))), (66, .bool y15)]) [] [] (t := 62) Option.isNone_iff_eq_none (fun hp_ => ?_) (fun hp_ => ?_) (fun _ _ _ _ _ _ h_ => h_) (fun y15 => ?_)
  · refine OJ.kld (d := 63) (y := .tmp 12) (cd := c_api_Prefix) (j := 0) (b := b13) (o := 0) (⟨r3.1, j8⟩ : api_Prefix) (pend2 := []) Ty37 rfl (At.whole _) rfl ?_
    refine OJ.call (d := 64) (g := 14) (ats := #[37]) (args := [.tmp 63]) (owed := []) F14 (addr_ValidPrefix_ok (⟨r3.1, j8⟩ : api_Prefix)) (fun r14 => ?_)
    refine OW.nil ?_
    refine OJ.go 2 [(66, .bool (r14 != 0)), (65, .bool (r14 != 0))] ?_
    exact OJ.nil ⟨(Cov.mem Cov.nil), rfl, _, rfl, by kernel_rfl⟩
  · refine OJ.go 4 [(66, .bool false), (65, undef), (64, undef), (63, undef)] ?_
    exact OJ.nil ⟨(Cov.mem Cov.nil), rfl, _, rfl, by kernel_rfl⟩
  · refine OJ.nil ?_
    refine SJ.cond (t := (.tmp 66)) (b := y15) Iff.rfl (fun hc28 => ?_) (fun hc28 => ?_)
    · refine SJ.rg 3 ?_
      refine OJ.build (d := 67) (T := 61) (parts := [(0, .const (.int .i64 46)), (1, .const (.int .i64 0))]) (ps := [(0, (cI .i64).val 46), (1, (cI .i64).val 0)]) (cd := c_addr_fault) (z0 := z_addr_fault) (⟨46, 0⟩ : addr_fault) Ty61 rfl (Filled.cons (cd := (cI .i64)) (q := 46) (o := 0) (by kernel_rfl) (Up_addr_fault_why z_addr_fault 46) (Filled.cons (cd := (cI .i64)) (q := 0) (o := 1) (by kernel_rfl) (Up_addr_fault_at_ (⟨46, z_addr_fault.at_⟩ : addr_fault) 0) Filled.nil)) ?_
      refine OJ.newOf (d := 68) (op := (.box 61 (.tmp 67))) (cd := c_addr_fault) (u := (⟨46, 0⟩ : addr_fault)) (owed := []) (box_run (by kernel_rfl)) (fun b27 => ?_)
      refine OW.nil ?_
      refine OJ.go 1 [(9, .pointer (some (pt b27 0)))] ?_
      refine OJ.nil ?_
      refine SJ.forget (List.Sublist.cons_cons _ (List.Sublist.cons _ (List.Sublist.cons_cons _ List.Sublist.slnil))) ?_
      refine SJ.less [2, 9, 12] (m' := [(2, .pointer (some (pt b1 0))), (9, .pointer (some (pt b27 0))), (12, .pointer (some (pt b13 0)))]) ?_
      exact addr_ParsePrefix.K1_ok b1 r3 j8 b13 (some (pt b27 0))
    · refine SJ.skip ?_
      refine SJ.forget (List.Sublist.cons_cons _ (List.Sublist.cons _ (List.Sublist.cons_cons _ List.Sublist.slnil))) ?_
      refine SJ.less [2, 9, 12] (m' := [(2, .pointer (some (pt b1 0))), (9, .pointer j12), (12, .pointer (some (pt b13 0)))]) ?_
      exact addr_ParsePrefix.K1_ok b1 r3 j8 b13 j12
noncomputable def addr_ParsePrefix.K3 (a0 : ByteArray) (r3 : (api_IP × (Option Addr))) (j7 : (Option Addr)) (j8 : Int) (j9 : Int) : M (api_Prefix × Int × Int) :=
  (if j7 = none then
      pure (decide (j9 < (a0.size : Int)))
    else
      pure false) >>= fun y10 =>
  if y10 = true then
    newv 61 c_addr_fault (⟨41, j9⟩ : addr_fault) >>= fun b29 =>
    addr_ParsePrefix.K2 r3 j8 (some (pt b29 0))
  else
    addr_ParsePrefix.K2 r3 j8 j7
theorem addr_ParsePrefix.K3_ok (a0 : ByteArray) (b1 : Nat) (r3 : (api_IP × (Option Addr))) (b4 : Nat) (j7 : (Option Addr)) (j8 : Int) (j9 : Int) :
    SJ addr_ParsePrefix.cx [.code (c2 (c2 (c2 (c2 (c2 (c2 (c2 addr_ParsePrefix.B)))))))] [(0, .string a0), (2, .pointer (some (pt b1 0))), (8, .pointer (some (pt b4 0))), (9, .pointer j7), (10, .int .i64 j8), (11, .int .i64 j9)] [(b4, c_api_IP.enc r3.1), (b1, c_api_Prefix.enc z_api_Prefix)] (addr_ParsePrefix.K3 a0 r3 j7 j8 j9) addr_ParsePrefix.F0 := by
  unfold addr_ParsePrefix.K3
  refine SJ.seq ?_
  refine SJ.sr 8 ?_
  refine OJ.go 3 [(48, .bool (Option.isNone j7)), (47, .bool (Option.isNone j7)), (46, .pointer j7)] ?_
  refine OJ.join (b := (Option.isNone j7)) [3, 4, 5, 6, 7] [] [2, 8, 9, 10, 11, 53] (fun y10 => [(2, .pointer (some (pt b1 0))), (8, .pointer (some (pt b4 0))), (9, .pointer j7), (10, .int .i64 j8), (11, .int .i64 j9), (53, .bool y10)]) [] [] (t := 48) Option.isNone_iff_eq_none (fun hp_ => ?_) (fun hp_ => ?_) (fun _ _ _ _ _ _ h_ => h_) (fun y10 => ?_)
  · refine OJ.go 5 [(53, .bool (decide (j9 < (a0.size : Int)))), (52, .bool (decide (j9 < (a0.size : Int)))), (51, .int .i64 (a0.size : Int)), (50, .string a0), (49, .int .i64 j9)] ?_
    exact OJ.nil ⟨(Cov.mem Cov.nil), rfl, _, rfl, by kernel_rfl⟩
  · refine OJ.go 5 [(53, .bool false), (52, undef), (51, undef), (50, undef), (49, undef)] ?_
    exact OJ.nil ⟨(Cov.mem Cov.nil), rfl, _, rfl, by kernel_rfl⟩
  · refine OJ.nil ?_
    refine SJ.cond (t := (.tmp 53)) (b := y10) Iff.rfl (fun hc30 => ?_) (fun hc30 => ?_)
    · refine SJ.rg 4 ?_
      refine OJ.go 1 [(54, .int .i64 j9)] ?_
      refine OJ.build (d := 55) (T := 61) (parts := [(0, .const (.int .i64 41)), (1, .tmp 54)]) (ps := [(0, (cI .i64).val 41), (1, (cI .i64).val j9)]) (cd := c_addr_fault) (z0 := z_addr_fault) (⟨41, j9⟩ : addr_fault) Ty61 rfl (Filled.cons (cd := (cI .i64)) (q := 41) (o := 0) (by kernel_rfl) (Up_addr_fault_why z_addr_fault 41) (Filled.cons (cd := (cI .i64)) (q := j9) (o := 1) (by kernel_rfl) (Up_addr_fault_at_ (⟨41, z_addr_fault.at_⟩ : addr_fault) j9) Filled.nil)) ?_
      refine OJ.newOf (d := 56) (op := (.box 61 (.tmp 55))) (cd := c_addr_fault) (u := (⟨41, j9⟩ : addr_fault)) (owed := []) (box_run (by kernel_rfl)) (fun b29 => ?_)
      refine OW.nil ?_
      refine OJ.go 1 [(9, .pointer (some (pt b29 0)))] ?_
      refine OJ.nil ?_
      refine SJ.less [2, 8, 9, 10] (m' := [(2, .pointer (some (pt b1 0))), (8, .pointer (some (pt b4 0))), (9, .pointer (some (pt b29 0))), (10, .int .i64 j8)]) ?_
      exact addr_ParsePrefix.K2_ok b1 r3 b4 j8 (some (pt b29 0))
    · refine SJ.skip ?_
      refine SJ.less [2, 8, 9, 10] (m' := [(2, .pointer (some (pt b1 0))), (8, .pointer (some (pt b4 0))), (9, .pointer j7), (10, .int .i64 j8)]) ?_
      exact addr_ParsePrefix.K2_ok b1 r3 b4 j8 j7
noncomputable def addr_ParsePrefix (a0 : ByteArray) : M (api_Prefix × Int × Int) :=
  slot 37 >>= fun b1 =>
  if (a0.size : Int) > 49 then
    pure (z_api_Prefix, 2, 49)
  else
    strings_Cut a0 str10 >>= fun r2 =>
    if ¬ (r2.2.2 = true) then
      pure (z_api_Prefix, 42, (a0.size : Int))
    else
      addr_parse r2.1 >>= fun r3 =>
      slot 27 >>= fun b4 =>
      if r3.2 = none then
        addr_size r3.1 >>= fun r31 =>
        addr_number a0 (IntKind.wrap .i64 ((r2.1.size : Int) + 1)) r31 45 >>= fun r32 =>
        addr_ParsePrefix.K3 a0 r3 r32.2.2 r32.1 r32.2.1
      else
        addr_ParsePrefix.K3 a0 r3 r3.2 0 0
theorem addr_ParsePrefix_ok (a0 : ByteArray) : Ref Tryd.prog 20 [.string a0] (addr_ParsePrefix a0) addr_ParsePrefix.out := by
  refine Ref.of (cd := addr_ParsePrefix.B) Tryd.func20 ?_
  show SJ addr_ParsePrefix.cx [.code addr_ParsePrefix.B] [(0, .string a0)] [] (addr_ParsePrefix a0) addr_ParsePrefix.F0
  unfold addr_ParsePrefix
  refine SJ.sr 3 ?_
  refine OJ.slotOf (d := 2) (op := (.alloc 37)) (cd := c_api_Prefix) (u := z_api_Prefix) (owed := []) (alloc_run Ty37) (fun b1 => ?_)
  refine OW.nil ?_
  refine OJ.go 2 [(4, .int .i64 0), (3, .int .i64 0)] ?_
  refine OJ.nil ?_
  refine SJ.seq ?_
  refine SJ.sr 3 ?_
  refine OJ.go 3 [(15, .bool (decide ((a0.size : Int) > 49))), (14, .int .i64 (a0.size : Int)), (13, .string a0)] ?_
  refine OJ.nil ?_
  refine SJ.cond (t := (.tmp 15)) (b := decide ((a0.size : Int) > 49)) decide_eq_true_iff (fun hc35 => ?_) (fun hc35 => ?_)
  · refine SJ.sr 4 ?_
    refine OJ.build (d := 16) (T := 37) (parts := []) (ps := []) (cd := c_api_Prefix) (z0 := z_api_Prefix) z_api_Prefix Ty37 rfl Filled.nil ?_
    refine OJ.kst (y := .tmp 2) (z := .tmp 16) (cd := c_api_Prefix) (u := z_api_Prefix) (j := 0) (b := b1) (o := 0) (c_api_Prefix.enc z_api_Prefix) (owed := []) Ty37 rfl (Upd.whole ((Cod.len _ _).trans (Cod.len _ _).symm)) rfl ?_
    refine OW.nil ?_
    refine OJ.go 2 [(4, .int .i64 49), (3, .int .i64 2)] ?_
    refine OJ.nil ?_
    exact SJ.ret rfl (Res.run (ys := [c_api_Prefix.val z_api_Prefix, .int .i64 2, .int .i64 49]) (.cell (j := 0) (b := b1) (cd := c_api_Prefix) (q := z_api_Prefix) (by kernel_rfl) rfl Ty37 (At.whole _) (.tmp (by kernel_rfl) (.tmp (by kernel_rfl) .nil))) rfl)
  · refine SJ.skip ?_
    refine SJ.sr 9 ?_
    refine OJ.go 1 [(18, .string a0)] ?_
    refine OJ.call (d := 19) (g := 34) (ats := #[9, 9]) (args := [.tmp 18, .const (.string str10)]) (owed := []) F34 (strings_Cut_ok a0 str10) (fun r2 => ?_)
    refine OW.nil ?_
    refine OJ.go 7 [(7, .bool r2.2.2), (6, .string r2.2.1), (5, .string r2.1), (22, .bool r2.2.2), (21, .string r2.2.1), (20, .string r2.1), (17, .tuple #[.string r2.1, .string r2.2.1, .bool r2.2.2])] ?_
    refine OJ.nil ?_
    refine SJ.seq ?_
    refine SJ.sr 2 ?_
    refine OJ.go 2 [(24, .bool (!r2.2.2)), (23, .bool r2.2.2)] ?_
    refine OJ.nil ?_
    refine SJ.cond (t := (.tmp 24)) (b := (!r2.2.2)) (bnot_iff Iff.rfl) (fun hc34 => ?_) (fun hc34 => ?_)
    · refine SJ.sr 6 ?_
      refine OJ.build (d := 25) (T := 37) (parts := []) (ps := []) (cd := c_api_Prefix) (z0 := z_api_Prefix) z_api_Prefix Ty37 rfl Filled.nil ?_
      refine OJ.go 2 [(27, .int .i64 (a0.size : Int)), (26, .string a0)] ?_
      refine OJ.kst (y := .tmp 2) (z := .tmp 25) (cd := c_api_Prefix) (u := z_api_Prefix) (j := 0) (b := b1) (o := 0) (c_api_Prefix.enc z_api_Prefix) (owed := []) Ty37 rfl (Upd.whole ((Cod.len _ _).trans (Cod.len _ _).symm)) rfl ?_
      refine OW.nil ?_
      refine OJ.go 2 [(4, .int .i64 (a0.size : Int)), (3, .int .i64 42)] ?_
      refine OJ.nil ?_
      exact SJ.ret rfl (Res.run (ys := [c_api_Prefix.val z_api_Prefix, .int .i64 42, .int .i64 (a0.size : Int)]) (.cell (j := 0) (b := b1) (cd := c_api_Prefix) (q := z_api_Prefix) (by kernel_rfl) rfl Ty37 (At.whole _) (.tmp (by kernel_rfl) (.tmp (by kernel_rfl) .nil))) rfl)
    · refine SJ.skip ?_
      refine SJ.sr 8 ?_
      refine OJ.go 1 [(29, .string r2.1)] ?_
      refine OJ.call (d := 30) (g := 23) (ats := #[9]) (args := [.tmp 29]) (owed := []) F23 (addr_parse_ok r2.1) (fun r3 => ?_)
      refine OW.nil ?_
      refine OJ.go 3 [(32, .pointer r3.2), (31, c_api_IP.val r3.1), (28, .tuple #[c_api_IP.val r3.1, .pointer r3.2])] ?_
      refine OJ.slotOf (d := 8) (op := (.alloc 27)) (cd := c_api_IP) (u := z_api_IP) (owed := []) (alloc_run Ty27) (fun b4 => ?_)
      refine OW.nil ?_
      refine OJ.kst (y := .tmp 8) (z := .tmp 31) (cd := c_api_IP) (u := r3.1) (j := 0) (b := b4) (o := 0) (c_api_IP.enc r3.1) (owed := []) Ty27 rfl (Upd.whole ((Cod.len _ _).trans (Cod.len _ _).symm)) rfl ?_
      refine OW.nil ?_
      refine OJ.go 1 [(9, .pointer r3.2)] ?_
      refine OJ.nil ?_
      refine SJ.sr 2 ?_
      refine OJ.go 2 [(11, .int .i64 0), (10, .int .i64 0)] ?_
      refine OJ.nil ?_
      refine SJ.seq ?_
      refine SJ.sr 2 ?_
      refine OJ.go 2 [(34, .bool (Option.isNone r3.2)), (33, .pointer r3.2)] ?_
      refine OJ.nil ?_
      refine SJ.cond (t := (.tmp 34)) (b := (Option.isNone r3.2)) Option.isNone_iff_eq_none (fun hc33 => ?_) (fun hc33 => ?_)
      · refine SJ.rg 14 ?_
        refine OJ.go 4 [(39, .int .i64 (IntKind.wrap .i64 ((r2.1.size : Int) + 1))), (38, .int .i64 (r2.1.size : Int)), (37, .string r2.1), (36, .string a0)] ?_
        refine OJ.kld (d := 40) (y := .tmp 8) (cd := c_api_IP) (j := 0) (b := b4) (o := 0) r3.1 (pend2 := []) Ty27 rfl (At.whole _) rfl ?_
        refine OJ.call (d := 41) (g := 26) (ats := #[27]) (args := [.tmp 40]) (owed := []) F26 (addr_size_ok r3.1) (fun r31 => ?_)
        refine OW.nil ?_
        refine OJ.call (d := 42) (g := 35) (ats := #[9, 3, 3, 28]) (args := [.tmp 36, .tmp 39, .tmp 41, .const (.int .i64 45)]) (owed := []) F35 (addr_number_ok a0 (IntKind.wrap .i64 ((r2.1.size : Int) + 1)) r31 45) (fun r32 => ?_)
        refine OW.nil ?_
        refine OJ.go 7 [(9, .pointer r32.2.2), (11, .int .i64 r32.2.1), (10, .int .i64 r32.1), (45, .pointer r32.2.2), (44, .int .i64 r32.2.1), (43, .int .i64 r32.1), (35, .tuple #[.int .i64 r32.1, .int .i64 r32.2.1, .pointer r32.2.2])] ?_
        refine OJ.nil ?_
        refine SJ.less [0, 2, 8, 9, 10, 11] (m' := [(0, .string a0), (2, .pointer (some (pt b1 0))), (8, .pointer (some (pt b4 0))), (9, .pointer r32.2.2), (10, .int .i64 r32.1), (11, .int .i64 r32.2.1)]) ?_
        exact addr_ParsePrefix.K3_ok a0 b1 r3 b4 r32.2.2 r32.1 r32.2.1
      · refine SJ.skip ?_
        refine SJ.less [0, 2, 8, 9, 10, 11] (m' := [(0, .string a0), (2, .pointer (some (pt b1 0))), (8, .pointer (some (pt b4 0))), (9, .pointer r3.2), (10, .int .i64 0), (11, .int .i64 0)]) ?_
        exact addr_ParsePrefix.K3_ok a0 b1 r3 b4 r3.2 0 0
end Go.Proofs.YtddmmgcfanpmmaaDoor.Lx
