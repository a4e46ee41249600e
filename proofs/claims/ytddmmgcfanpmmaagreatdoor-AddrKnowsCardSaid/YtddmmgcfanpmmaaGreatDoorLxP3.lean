/- Programs of the M-world for Go functions, each with the proof that the Go text does what it says. Printed by lxgen.py. -/
import Derived.Test.YtddmmgcfanpmmaaGreatDoorLxT
import Derived.Test.YtddmmgcfanpmmaaGreatDoorLxP0
import Derived.Test.YtddmmgcfanpmmaaGreatDoorLxP1
import Derived.Test.YtddmmgcfanpmmaaGreatDoorLxP2
set_option linter.unusedVariables false
set_option linter.unusedSimpArgs false
namespace Go.Proofs.YtddmmgcfanpmmaaGreatDoor.Lx
open Go Go.Proofs
/-! ### weir/weirref4.bit: function 82 -/
noncomputable def weirref4_bit.B : Code := (Tryz.f82.body).getD .skip
noncomputable def weirref4_bit.cx : Fx := ⟨Tryz.prog, 82, Tryz.f82⟩
noncomputable def weirref4_bit.out (r_ : Int) : Value := .int .i64 r_
noncomputable def weirref4_bit.F0 (r_ : Int) : Reach := .ret (weirref4_bit.out r_)
noncomputable def weirref4_bit.F1  : (LS (Int × Int) Int) → Reach := loopF [.inLoop (c1 (c1 (c2 (c1 (c2 (c2 weirref4_bit.B)))))), .inBlock 0, .code (c2 (c2 (c2 weirref4_bit.B)))] (fun s_ : (Int × Int) => [(5, .int .i64 s_.1), (6, .int .i64 s_.2)]) (fun s_ : (Int × Int) => []) weirref4_bit.F0
noncomputable def weirref4_bit.L1 (s4 : Int) (s5 : Int) : M (LS (Int × Int) Int) :=
  if s5 < 7 then
    pure (LS.next (IntKind.wrap .i64 (Int.tdiv s4 2), IntKind.wrap .i64 (s5 + 1)))
  else
    pure (LS.done (Int.tmod s4 2))
theorem weirref4_bit.L1_ok (s4 : Int) (s5 : Int) :
    SJ weirref4_bit.cx [.code (c1 (c1 (c2 (c1 (c2 (c2 weirref4_bit.B)))))), .inLoop (c1 (c1 (c2 (c1 (c2 (c2 weirref4_bit.B)))))), .inBlock 0, .code (c2 (c2 (c2 weirref4_bit.B)))] [(5, .int .i64 s4), (6, .int .i64 s5)] [] (weirref4_bit.L1 s4 s5) weirref4_bit.F1 := by
  unfold weirref4_bit.L1
  refine SJ.seq ?_
  refine SJ.sr 2 ?_
  refine OJ.go 2 [(16, .bool (decide (s5 < 7))), (15, .int .i64 s5)] ?_
  refine OJ.nil ?_
  refine SJ.cond (t := (.tmp 16)) (b := decide (s5 < 7)) decide_eq_true_iff (fun hc7 => ?_) (fun hc7 => ?_)
  · refine SJ.skip ?_
    refine SJ.seq ?_
    refine SJ.block (id := 1) ?_
    refine SJ.rg 3 ?_
    refine OJ.go 3 [(5, .int .i64 (IntKind.wrap .i64 (Int.tdiv s4 2))), (20, .int .i64 (IntKind.wrap .i64 (Int.tdiv s4 2))), (19, .int .i64 s4)] ?_
    refine OJ.nil ?_
    refine SJ.inBlock ?_
    refine SJ.rg 3 ?_
    refine OJ.go 3 [(6, .int .i64 (IntKind.wrap .i64 (s5 + 1))), (18, .int .i64 (IntKind.wrap .i64 (s5 + 1))), (17, .int .i64 s5)] ?_
    refine OJ.nil ?_
    exact SJ.at_ [5, 6] rfl
  · refine SJ.exit (id := 0) (by rfl) ?_
    refine SJ.sr 3 ?_
    refine OJ.go 3 [(4, .int .i64 (Int.tmod s4 2)), (22, .int .i64 (Int.tmod s4 2)), (21, .int .i64 s4)] ?_
    refine OJ.nil ?_
    exact SJ.ret rfl (Res.run (ys := [.int .i64 (Int.tmod s4 2)]) (.tmp (by kernel_rfl) .nil) rfl)
noncomputable def weirref4_bit (a0 : api_IP) (a1 : Int) : M Int :=
  slot 28 >>= fun b1 =>
  chk ((0 : Int) ≤ (IntKind.wrap .i64 (Int.tdiv a1 8)) ∧ (IntKind.wrap .i64 (Int.tdiv a1 8)) < (16 : Nat)) >>= fun _ =>
  loopM (fun s_ : (Int × Int) => weirref4_bit.L1 s_.1 s_.2) (IntKind.wrap .i64 (Vec.g a0.A (IntKind.wrap .i64 (Int.tdiv a1 8)) 0), Int.tmod a1 8)
theorem weirref4_bit_ok (a0 : api_IP) (a1 : Int) : Ref Tryz.prog 82 [c_api_IP.val a0, .int .i64 a1] (weirref4_bit a0 a1) weirref4_bit.out := by
  refine Ref.of (cd := weirref4_bit.B) Tryz.func82 ?_
  show SJ weirref4_bit.cx [.code weirref4_bit.B] [(0, c_api_IP.val a0), (1, .int .i64 a1)] [] (weirref4_bit a0 a1) weirref4_bit.F0
  unfold weirref4_bit
  refine SJ.sr 2 ?_
  refine OJ.slotOf (d := 2) (op := (.box 28 (.tmp 0))) (cd := c_api_IP) (u := a0) (owed := []) (box_run (by kernel_rfl)) (fun b1 => ?_)
  refine OW.nil ?_
  refine OJ.go 1 [(4, .int .i64 0)] ?_
  refine OJ.nil ?_
  refine SJ.sr 7 ?_
  refine OJ.go 3 [(9, .pointer (some (pt b1 1))), (8, .int .i64 (IntKind.wrap .i64 (Int.tdiv a1 8))), (7, .int .i64 a1)] ?_
  refine OJ.idxK (d := 10) (T := 26) (y := .tmp 9) (j := .tmp 8) (E := 5) (sz := 1) (b := b1) (o := 1) (k := .i64) (fun hb2 hb3 => ?_)
  refine OJ.kld (d := 11) (y := .tmp 10) (cd := (cI .u8)) (j := 0) (b := b1) (o := (1 + (IntKind.wrap .i64 (Int.tdiv a1 8)).toNat * 1)) (Vec.g a0.A (IntKind.wrap .i64 (Int.tdiv a1 8)) 0) (pend2 := []) Ty5 rfl (At.trans (At_api_IP_A a0) (At.arr (z := 0) hb2 hb3)) rfl ?_
  refine OJ.go 2 [(5, .int .i64 (IntKind.wrap .i64 (Vec.g a0.A (IntKind.wrap .i64 (Int.tdiv a1 8)) 0))), (12, .int .i64 (IntKind.wrap .i64 (Vec.g a0.A (IntKind.wrap .i64 (Int.tdiv a1 8)) 0)))] ?_
  refine OJ.nil ?_
  refine SJ.seq ?_
  refine SJ.sr 3 ?_
  refine OJ.go 3 [(6, .int .i64 (Int.tmod a1 8)), (14, .int .i64 (Int.tmod a1 8)), (13, .int .i64 a1)] ?_
  refine OJ.nil ?_
  refine SJ.block (id := 0) ?_
  refine SJ.forget (List.Sublist.cons _ List.Sublist.slnil) ?_
  exact SJ.loop (fun s_ : (Int × Int) => [(5, .int .i64 s_.1), (6, .int .i64 s_.2)]) (fun s_ : (Int × Int) => []) [5, 6] rfl (fun _ _ => rfl) (fun s_ => weirref4_bit.L1_ok s_.1 s_.2)

/-! ### weir/weirref4.ValidPrefix: function 48 -/
noncomputable def weirref4_ValidPrefix.B : Code := (Tryz.f48.body).getD .skip
noncomputable def weirref4_ValidPrefix.cx : Fx := ⟨Tryz.prog, 48, Tryz.f48⟩
noncomputable def weirref4_ValidPrefix.out (r_ : Int) : Value := .int .i64 r_
noncomputable def weirref4_ValidPrefix.F0 (r_ : Int) : Reach := .ret (weirref4_ValidPrefix.out r_)
noncomputable def weirref4_ValidPrefix.F1 (a0 : api_Prefix) (b1 : Nat) (r3 : Int) : (LS Int Int) → Reach := loopF [.inLoop (c1 (c1 (c2 (c1 (c2 (c2 (c2 (c2 (c2 weirref4_ValidPrefix.B))))))))), .inBlock 0, .code (c2 (c2 (c2 (c2 (c2 (c2 weirref4_ValidPrefix.B))))))] (fun s_ : Int => [(1, .pointer (some (pt b1 0))), (4, .int .i64 r3), (5, .int .i64 s_)]) (fun s_ : Int => [(b1, c_api_Prefix.enc a0)]) weirref4_ValidPrefix.F0
noncomputable def weirref4_ValidPrefix.L1 (a0 : api_Prefix) (r3 : Int) (s5 : Int) : M (LS Int Int) :=
  if s5 < r3 then
    weirref4_bit a0.IP s5 >>= fun r9 =>
    if r9 = 1 then
      pure (LS.done 46)
    else
      pure (LS.next (IntKind.wrap .i64 (s5 + 1)))
  else
    pure (LS.done 0)
theorem weirref4_ValidPrefix.L1_ok (a0 : api_Prefix) (b1 : Nat) (r3 : Int) (s5 : Int) :
    SJ weirref4_ValidPrefix.cx [.code (c1 (c1 (c2 (c1 (c2 (c2 (c2 (c2 (c2 weirref4_ValidPrefix.B))))))))), .inLoop (c1 (c1 (c2 (c1 (c2 (c2 (c2 (c2 (c2 weirref4_ValidPrefix.B))))))))), .inBlock 0, .code (c2 (c2 (c2 (c2 (c2 (c2 weirref4_ValidPrefix.B))))))] [(1, .pointer (some (pt b1 0))), (4, .int .i64 r3), (5, .int .i64 s5)] [(b1, c_api_Prefix.enc a0)] (weirref4_ValidPrefix.L1 a0 r3 s5) (weirref4_ValidPrefix.F1 a0 b1 r3) := by
  unfold weirref4_ValidPrefix.L1
  refine SJ.seq ?_
  refine SJ.sr 3 ?_
  refine OJ.go 3 [(27, .bool (decide (s5 < r3))), (26, .int .i64 r3), (25, .int .i64 s5)] ?_
  refine OJ.nil ?_
  refine SJ.cond (t := (.tmp 27)) (b := decide (s5 < r3)) decide_eq_true_iff (fun hc11 => ?_) (fun hc11 => ?_)
  · refine SJ.skip ?_
    refine SJ.seq ?_
    refine SJ.block (id := 1) ?_
    refine SJ.sr 5 ?_
    refine OJ.go 1 [(30, .pointer (some (pt b1 0)))] ?_
    refine OJ.kld (d := 31) (y := .tmp 30) (cd := c_api_IP) (j := 0) (b := b1) (o := 0) a0.IP (pend2 := []) Ty28 rfl (At_api_Prefix_IP a0) rfl ?_
    refine OJ.go 1 [(32, .int .i64 s5)] ?_
    refine OJ.call (d := 33) (g := 82) (ats := #[28, 3]) (args := [.tmp 31, .tmp 32]) (owed := []) F82 (weirref4_bit_ok a0.IP s5) (fun r9 => ?_)
    refine OW.nil ?_
    refine OJ.go 1 [(34, .bool (r9 == 1))] ?_
    refine OJ.nil ?_
    refine SJ.cond (t := (.tmp 34)) (b := (r9 == 1)) beq_iff_eq (fun hc10 => ?_) (fun hc10 => ?_)
    · refine SJ.sr 1 ?_
      refine OJ.go 1 [(2, .int .i64 46)] ?_
      refine OJ.nil ?_
      exact SJ.ret rfl (Res.run (ys := [.int .i64 46]) (.tmp (by kernel_rfl) .nil) rfl)
    · refine SJ.skip ?_
      refine SJ.inBlock ?_
      refine SJ.rg 3 ?_
      refine OJ.go 3 [(5, .int .i64 (IntKind.wrap .i64 (s5 + 1))), (29, .int .i64 (IntKind.wrap .i64 (s5 + 1))), (28, .int .i64 s5)] ?_
      refine OJ.nil ?_
      exact SJ.at_ [1, 4, 5] rfl
  · refine SJ.exit (id := 0) (by rfl) ?_
    refine SJ.sr 1 ?_
    refine OJ.go 1 [(2, .int .i64 0)] ?_
    refine OJ.nil ?_
    exact SJ.ret rfl (Res.run (ys := [.int .i64 0]) (.tmp (by kernel_rfl) .nil) rfl)
noncomputable def weirref4_ValidPrefix (a0 : api_Prefix) : M Int :=
  slot 38 >>= fun b1 =>
  weirref4_Valid a0.IP >>= fun r2 =>
  if ¬ (r2 = true) then
    pure 40
  else
    weirref4_width a0.IP >>= fun r3 =>
    (if a0.Len < 0 then
        pure true
      else
        pure (decide (a0.Len > r3))) >>= fun y4 =>
    if y4 = true then
      pure 45
    else
      loopM (fun s_ : Int => weirref4_ValidPrefix.L1 a0 r3 s_) a0.Len
theorem weirref4_ValidPrefix_ok (a0 : api_Prefix) : Ref Tryz.prog 48 [c_api_Prefix.val a0] (weirref4_ValidPrefix a0) weirref4_ValidPrefix.out := by
  refine Ref.of (cd := weirref4_ValidPrefix.B) Tryz.func48 ?_
  show SJ weirref4_ValidPrefix.cx [.code weirref4_ValidPrefix.B] [(0, c_api_Prefix.val a0)] [] (weirref4_ValidPrefix a0) weirref4_ValidPrefix.F0
  unfold weirref4_ValidPrefix
  refine SJ.sr 2 ?_
  refine OJ.slotOf (d := 1) (op := (.box 38 (.tmp 0))) (cd := c_api_Prefix) (u := a0) (owed := []) (box_run (by kernel_rfl)) (fun b1 => ?_)
  refine OW.nil ?_
  refine OJ.go 1 [(2, .int .i64 0)] ?_
  refine OJ.nil ?_
  refine SJ.sr 4 ?_
  refine OJ.go 1 [(6, .pointer (some (pt b1 0)))] ?_
  refine OJ.kld (d := 7) (y := .tmp 6) (cd := c_api_IP) (j := 0) (b := b1) (o := 0) a0.IP (pend2 := []) Ty28 rfl (At_api_Prefix_IP a0) rfl ?_
  refine OJ.call (d := 8) (g := 46) (ats := #[28]) (args := [.tmp 7]) (owed := []) F46 (weirref4_Valid_ok a0.IP) (fun r2 => ?_)
  refine OW.nil ?_
  refine OJ.go 1 [(3, .bool r2)] ?_
  refine OJ.nil ?_
  refine SJ.seq ?_
  refine SJ.sr 2 ?_
  refine OJ.go 2 [(10, .bool (!r2)), (9, .bool r2)] ?_
  refine OJ.nil ?_
  refine SJ.cond (t := (.tmp 10)) (b := (!r2)) (bnot_iff Iff.rfl) (fun hc13 => ?_) (fun hc13 => ?_)
  · refine SJ.sr 1 ?_
    refine OJ.go 1 [(2, .int .i64 40)] ?_
    refine OJ.nil ?_
    exact SJ.ret rfl (Res.run (ys := [.int .i64 40]) (.tmp (by kernel_rfl) .nil) rfl)
  · refine SJ.skip ?_
    refine SJ.sr 4 ?_
    refine OJ.go 1 [(11, .pointer (some (pt b1 0)))] ?_
    refine OJ.kld (d := 12) (y := .tmp 11) (cd := c_api_IP) (j := 0) (b := b1) (o := 0) a0.IP (pend2 := []) Ty28 rfl (At_api_Prefix_IP a0) rfl ?_
    refine OJ.call (d := 13) (g := 73) (ats := #[28]) (args := [.tmp 12]) (owed := []) F73 (weirref4_width_ok a0.IP) (fun r3 => ?_)
    refine OW.nil ?_
    refine OJ.go 1 [(4, .int .i64 r3)] ?_
    refine OJ.nil ?_
    refine SJ.seq ?_
    refine SJ.sr 9 ?_
    refine OJ.go 1 [(14, .pointer (some (pt b1 17)))] ?_
    refine OJ.kld (d := 15) (y := .tmp 14) (cd := (cI .i64)) (j := 0) (b := b1) (o := 17) a0.Len (pend2 := []) Ty3 rfl (At_api_Prefix_Len a0) rfl ?_
    refine OJ.go 2 [(17, .bool (decide (a0.Len < 0))), (16, .bool (decide (a0.Len < 0)))] ?_
    refine OJ.join (b := decide (a0.Len < 0)) [4, 5, 6, 7, 8] [] [1, 4, 22] (fun y4 => [(1, .pointer (some (pt b1 0))), (4, .int .i64 r3), (22, .bool y4)]) [] [] (t := 17) decide_eq_true_iff (fun hp_ => ?_) (fun hp_ => ?_) (fun _ _ _ _ _ _ h_ => h_) (fun y4 => ?_)
    · refine OJ.go 5 [(22, .bool true), (21, undef), (20, undef), (19, undef), (18, undef)] ?_
      exact OJ.nil ⟨(Cov.mem Cov.nil), rfl, _, rfl, by kernel_rfl⟩
    · refine OJ.go 1 [(18, .pointer (some (pt b1 17)))] ?_
      refine OJ.kld (d := 19) (y := .tmp 18) (cd := (cI .i64)) (j := 0) (b := b1) (o := 17) a0.Len (pend2 := []) Ty3 rfl (At_api_Prefix_Len a0) rfl ?_
      refine OJ.go 3 [(22, .bool (decide (a0.Len > r3))), (21, .bool (decide (a0.Len > r3))), (20, .int .i64 r3)] ?_
      exact OJ.nil ⟨(Cov.mem Cov.nil), rfl, _, rfl, by kernel_rfl⟩
    · refine OJ.nil ?_
      refine SJ.cond (t := (.tmp 22)) (b := y4) Iff.rfl (fun hc12 => ?_) (fun hc12 => ?_)
      · refine SJ.sr 1 ?_
        refine OJ.go 1 [(2, .int .i64 45)] ?_
        refine OJ.nil ?_
        exact SJ.ret rfl (Res.run (ys := [.int .i64 45]) (.tmp (by kernel_rfl) .nil) rfl)
      · refine SJ.skip ?_
        refine SJ.seq ?_
        refine SJ.sr 3 ?_
        refine OJ.go 1 [(23, .pointer (some (pt b1 17)))] ?_
        refine OJ.kld (d := 24) (y := .tmp 23) (cd := (cI .i64)) (j := 0) (b := b1) (o := 17) a0.Len (pend2 := []) Ty3 rfl (At_api_Prefix_Len a0) rfl ?_
        refine OJ.go 1 [(5, .int .i64 a0.Len)] ?_
        refine OJ.nil ?_
        refine SJ.block (id := 0) ?_
        exact SJ.loop (fun s_ : Int => [(1, .pointer (some (pt b1 0))), (4, .int .i64 r3), (5, .int .i64 s_)]) (fun s_ : Int => [(b1, c_api_Prefix.enc a0)]) [1, 4, 5] rfl (fun _ _ => rfl) (fun s_ => weirref4_ValidPrefix.L1_ok a0 b1 r3 s_)

/-! ### weir/weirref4.ParsePrefix: function 38 -/
noncomputable def weirref4_ParsePrefix.B : Code := (Tryz.f38.body).getD .skip
noncomputable def weirref4_ParsePrefix.cx : Fx := ⟨Tryz.prog, 38, Tryz.f38⟩
noncomputable def weirref4_ParsePrefix.out (r_ : (api_Prefix × Int × Int)) : Value := .tuple #[c_api_Prefix.val r_.1, .int .i64 r_.2.1, .int .i64 r_.2.2]
noncomputable def weirref4_ParsePrefix.F0 (r_ : (api_Prefix × Int × Int)) : Reach := .ret (weirref4_ParsePrefix.out r_)
noncomputable def weirref4_ParsePrefix.K1 (a0 : ByteArray) (s2 : Int) (r7 : (api_IP × Int × Int)) (s9 : Int) : M (api_Prefix × Int × Int) :=
  if s9 = (IntKind.wrap .i64 (s2 + 1)) then
    weirref4_here a0 s9 >>= fun r16 =>
    pure (z_api_Prefix, r16.1, r16.2)
  else
    weirref4_width r7.1 >>= fun r17 =>
    weirref4_decimal a0 (IntKind.wrap .i64 (s2 + 1)) s9 r17 >>= fun r18 =>
    if r18 < 0 then
      pure (z_api_Prefix, 45, IntKind.wrap .i64 (s2 + 1))
    else
      if s9 < (a0.size : Int) then
        pure (z_api_Prefix, 41, s9)
      else
        slot 38 >>= fun b19 =>
        weirref4_ValidPrefix (⟨r7.1, r18⟩ : api_Prefix) >>= fun r20 =>
        if r20 ≠ 0 then
          pure (z_api_Prefix, 46, 0)
        else
          pure ((⟨r7.1, r18⟩ : api_Prefix), 0, 0)
theorem weirref4_ParsePrefix.K1_ok (a0 : ByteArray) (b1 : Nat) (s2 : Int) (r7 : (api_IP × Int × Int)) (b8 : Nat) (s9 : Int) :
    SJ weirref4_ParsePrefix.cx [.code (c2 (c2 (c2 (c2 (c2 (c2 (c2 (c2 (c2 weirref4_ParsePrefix.B)))))))))] [(0, .string a0), (2, .pointer (some (pt b1 0))), (5, .int .i64 s2), (6, .pointer (some (pt b8 0))), (9, .int .i64 s9)] [(b8, c_api_IP.enc r7.1), (b1, c_api_Prefix.enc z_api_Prefix)] (weirref4_ParsePrefix.K1 a0 s2 r7 s9) weirref4_ParsePrefix.F0 := by
  unfold weirref4_ParsePrefix.K1
  refine SJ.seq ?_
  refine SJ.sr 4 ?_
  refine OJ.go 4 [(67, .bool (s9 == (IntKind.wrap .i64 (s2 + 1)))), (66, .int .i64 (IntKind.wrap .i64 (s2 + 1))), (65, .int .i64 s2), (64, .int .i64 s9)] ?_
  refine OJ.nil ?_
  refine SJ.cond (t := (.tmp 67)) (b := (s9 == (IntKind.wrap .i64 (s2 + 1)))) beq_iff_eq (fun hc24 => ?_) (fun hc24 => ?_)
  · refine SJ.sr 8 ?_
    refine OJ.go 2 [(70, .int .i64 s9), (69, .string a0)] ?_
    refine OJ.call (d := 71) (g := 71) (ats := #[9, 3]) (args := [.tmp 69, .tmp 70]) (owed := []) F71 (weirref4_here_ok a0 s9) (fun r16 => ?_)
    refine OW.nil ?_
    refine OJ.go 5 [(11, .int .i64 r16.2), (10, .int .i64 r16.1), (73, .int .i64 r16.2), (72, .int .i64 r16.1), (68, .tuple #[.int .i64 r16.1, .int .i64 r16.2])] ?_
    refine OJ.nil ?_
    refine SJ.sr 6 ?_
    refine OJ.build (d := 74) (T := 38) (parts := []) (ps := []) (cd := c_api_Prefix) (z0 := z_api_Prefix) z_api_Prefix Ty38 rfl Filled.nil ?_
    refine OJ.go 2 [(76, .int .i64 r16.2), (75, .int .i64 r16.1)] ?_
    refine OJ.kst (y := .tmp 2) (z := .tmp 74) (cd := c_api_Prefix) (u := z_api_Prefix) (j := 1) (b := b1) (o := 0) (c_api_Prefix.enc z_api_Prefix) (owed := []) Ty38 rfl (Upd.whole ((Cod.len _ _).trans (Cod.len _ _).symm)) rfl ?_
    refine OW.nil ?_
    refine OJ.go 2 [(4, .int .i64 r16.2), (3, .int .i64 r16.1)] ?_
    refine OJ.nil ?_
    exact SJ.ret rfl (Res.run (ys := [c_api_Prefix.val z_api_Prefix, .int .i64 r16.1, .int .i64 r16.2]) (.cell (j := 1) (b := b1) (cd := c_api_Prefix) (q := z_api_Prefix) (by kernel_rfl) rfl Ty38 (At.whole _) (.tmp (by kernel_rfl) (.tmp (by kernel_rfl) .nil))) rfl)
  · refine SJ.skip ?_
    refine SJ.sr 8 ?_
    refine OJ.go 4 [(80, .int .i64 s9), (79, .int .i64 (IntKind.wrap .i64 (s2 + 1))), (78, .int .i64 s2), (77, .string a0)] ?_
    refine OJ.kld (d := 81) (y := .tmp 6) (cd := c_api_IP) (j := 0) (b := b8) (o := 0) r7.1 (pend2 := []) Ty28 rfl (At.whole _) rfl ?_
    refine OJ.call (d := 82) (g := 73) (ats := #[28]) (args := [.tmp 81]) (owed := []) F73 (weirref4_width_ok r7.1) (fun r17 => ?_)
    refine OW.nil ?_
    refine OJ.call (d := 83) (g := 72) (ats := #[9, 3, 3, 3]) (args := [.tmp 77, .tmp 79, .tmp 80, .tmp 82]) (owed := []) F72 (weirref4_decimal_ok a0 (IntKind.wrap .i64 (s2 + 1)) s9 r17) (fun r18 => ?_)
    refine OW.nil ?_
    refine OJ.go 1 [(12, .int .i64 r18)] ?_
    refine OJ.nil ?_
    refine SJ.seq ?_
    refine SJ.sr 2 ?_
    refine OJ.go 2 [(85, .bool (decide (r18 < 0))), (84, .int .i64 r18)] ?_
    refine OJ.nil ?_
    refine SJ.cond (t := (.tmp 85)) (b := decide (r18 < 0)) decide_eq_true_iff (fun hc23 => ?_) (fun hc23 => ?_)
    · refine SJ.sr 6 ?_
      refine OJ.build (d := 86) (T := 38) (parts := []) (ps := []) (cd := c_api_Prefix) (z0 := z_api_Prefix) z_api_Prefix Ty38 rfl Filled.nil ?_
      refine OJ.go 2 [(88, .int .i64 (IntKind.wrap .i64 (s2 + 1))), (87, .int .i64 s2)] ?_
      refine OJ.kst (y := .tmp 2) (z := .tmp 86) (cd := c_api_Prefix) (u := z_api_Prefix) (j := 1) (b := b1) (o := 0) (c_api_Prefix.enc z_api_Prefix) (owed := []) Ty38 rfl (Upd.whole ((Cod.len _ _).trans (Cod.len _ _).symm)) rfl ?_
      refine OW.nil ?_
      refine OJ.go 2 [(4, .int .i64 (IntKind.wrap .i64 (s2 + 1))), (3, .int .i64 45)] ?_
      refine OJ.nil ?_
      exact SJ.ret rfl (Res.run (ys := [c_api_Prefix.val z_api_Prefix, .int .i64 45, .int .i64 (IntKind.wrap .i64 (s2 + 1))]) (.cell (j := 1) (b := b1) (cd := c_api_Prefix) (q := z_api_Prefix) (by kernel_rfl) rfl Ty38 (At.whole _) (.tmp (by kernel_rfl) (.tmp (by kernel_rfl) .nil))) rfl)
    · refine SJ.skip ?_
      refine SJ.seq ?_
      refine SJ.sr 4 ?_
      refine OJ.go 4 [(92, .bool (decide (s9 < (a0.size : Int)))), (91, .int .i64 (a0.size : Int)), (90, .string a0), (89, .int .i64 s9)] ?_
      refine OJ.nil ?_
      refine SJ.cond (t := (.tmp 92)) (b := decide (s9 < (a0.size : Int))) decide_eq_true_iff (fun hc22 => ?_) (fun hc22 => ?_)
      · refine SJ.sr 5 ?_
        refine OJ.build (d := 93) (T := 38) (parts := []) (ps := []) (cd := c_api_Prefix) (z0 := z_api_Prefix) z_api_Prefix Ty38 rfl Filled.nil ?_
        refine OJ.go 1 [(94, .int .i64 s9)] ?_
        refine OJ.kst (y := .tmp 2) (z := .tmp 93) (cd := c_api_Prefix) (u := z_api_Prefix) (j := 1) (b := b1) (o := 0) (c_api_Prefix.enc z_api_Prefix) (owed := []) Ty38 rfl (Upd.whole ((Cod.len _ _).trans (Cod.len _ _).symm)) rfl ?_
        refine OW.nil ?_
        refine OJ.go 2 [(4, .int .i64 s9), (3, .int .i64 41)] ?_
        refine OJ.nil ?_
        exact SJ.ret rfl (Res.run (ys := [c_api_Prefix.val z_api_Prefix, .int .i64 41, .int .i64 s9]) (.cell (j := 1) (b := b1) (cd := c_api_Prefix) (q := z_api_Prefix) (by kernel_rfl) rfl Ty38 (At.whole _) (.tmp (by kernel_rfl) (.tmp (by kernel_rfl) .nil))) rfl)
      · refine SJ.skip ?_
        refine SJ.sr 5 ?_
        refine OJ.kld (d := 95) (y := .tmp 6) (cd := c_api_IP) (j := 0) (b := b8) (o := 0) r7.1 (pend2 := []) Ty28 rfl (At.whole _) rfl ?_
        refine OJ.go 1 [(96, .int .i64 r18)] ?_
        refine OJ.build (d := 97) (T := 38) (parts := [(0, .tmp 95), (1, .tmp 96)]) (ps := [(0, c_api_IP.val r7.1), (1, (cI .i64).val r18)]) (cd := c_api_Prefix) (z0 := z_api_Prefix) (⟨r7.1, r18⟩ : api_Prefix) Ty38 rfl (Filled.cons (cd := c_api_IP) (q := r7.1) (o := 0) (by kernel_rfl) (Up_api_Prefix_IP z_api_Prefix r7.1) (Filled.cons (cd := (cI .i64)) (q := r18) (o := 17) (by kernel_rfl) (Up_api_Prefix_Len (⟨r7.1, z_api_Prefix.Len⟩ : api_Prefix) r18) Filled.nil)) ?_
        refine OJ.slotOf (d := 13) (op := (.alloc 38)) (cd := c_api_Prefix) (u := z_api_Prefix) (owed := []) (alloc_run Ty38) (fun b19 => ?_)
        refine OW.nil ?_
        refine OJ.kst (y := .tmp 13) (z := .tmp 97) (cd := c_api_Prefix) (u := (⟨r7.1, r18⟩ : api_Prefix)) (j := 0) (b := b19) (o := 0) (c_api_Prefix.enc (⟨r7.1, r18⟩ : api_Prefix)) (owed := []) Ty38 rfl (Upd.whole ((Cod.len _ _).trans (Cod.len _ _).symm)) rfl ?_
        refine OW.nil ?_
        refine OJ.nil ?_
        refine SJ.seq ?_
        refine SJ.sr 3 ?_
        refine OJ.kld (d := 98) (y := .tmp 13) (cd := c_api_Prefix) (j := 0) (b := b19) (o := 0) (⟨r7.1, r18⟩ : api_Prefix) (pend2 := []) Ty38 rfl (At.whole _) rfl ?_
        refine OJ.call (d := 99) (g := 48) (ats := #[38]) (args := [.tmp 98]) (owed := []) F48 (weirref4_ValidPrefix_ok (⟨r7.1, r18⟩ : api_Prefix)) (fun r20 => ?_)
        refine OW.nil ?_
        refine OJ.go 1 [(100, .bool (r20 != 0))] ?_
        refine OJ.nil ?_
        refine SJ.cond (t := (.tmp 100)) (b := (r20 != 0)) bne_iff_ne (fun hc21 => ?_) (fun hc21 => ?_)
        · refine SJ.sr 4 ?_
          refine OJ.build (d := 101) (T := 38) (parts := []) (ps := []) (cd := c_api_Prefix) (z0 := z_api_Prefix) z_api_Prefix Ty38 rfl Filled.nil ?_
          refine OJ.kst (y := .tmp 2) (z := .tmp 101) (cd := c_api_Prefix) (u := z_api_Prefix) (j := 2) (b := b1) (o := 0) (c_api_Prefix.enc z_api_Prefix) (owed := []) Ty38 rfl (Upd.whole ((Cod.len _ _).trans (Cod.len _ _).symm)) rfl ?_
          refine OW.nil ?_
          refine OJ.go 2 [(4, .int .i64 0), (3, .int .i64 46)] ?_
          refine OJ.nil ?_
          exact SJ.ret rfl (Res.run (ys := [c_api_Prefix.val z_api_Prefix, .int .i64 46, .int .i64 0]) (.cell (j := 2) (b := b1) (cd := c_api_Prefix) (q := z_api_Prefix) (by kernel_rfl) rfl Ty38 (At.whole _) (.tmp (by kernel_rfl) (.tmp (by kernel_rfl) .nil))) rfl)
        · refine SJ.skip ?_
          refine SJ.sr 4 ?_
          refine OJ.kld (d := 102) (y := .tmp 13) (cd := c_api_Prefix) (j := 0) (b := b19) (o := 0) (⟨r7.1, r18⟩ : api_Prefix) (pend2 := []) Ty38 rfl (At.whole _) rfl ?_
          refine OJ.kst (y := .tmp 2) (z := .tmp 102) (cd := c_api_Prefix) (u := (⟨r7.1, r18⟩ : api_Prefix)) (j := 2) (b := b1) (o := 0) (c_api_Prefix.enc (⟨r7.1, r18⟩ : api_Prefix)) (owed := []) Ty38 rfl (Upd.whole ((Cod.len _ _).trans (Cod.len _ _).symm)) rfl ?_
          refine OW.nil ?_
          refine OJ.go 2 [(4, .int .i64 0), (3, .int .i64 0)] ?_
          refine OJ.nil ?_
          exact SJ.ret rfl (Res.run (ys := [c_api_Prefix.val (⟨r7.1, r18⟩ : api_Prefix), .int .i64 0, .int .i64 0]) (.cell (j := 2) (b := b1) (cd := c_api_Prefix) (q := (⟨r7.1, r18⟩ : api_Prefix)) (by kernel_rfl) rfl Ty38 (At.whole _) (.tmp (by kernel_rfl) (.tmp (by kernel_rfl) .nil))) rfl)
noncomputable def weirref4_ParsePrefix.F1 (a0 : ByteArray) (b1 : Nat) (s2 : Int) (r7 : (api_IP × Int × Int)) (b8 : Nat) : (LS Int (api_Prefix × Int × Int)) → Reach := loopF [.inLoop (c1 (c1 (c1 (c2 (c2 (c2 (c2 (c2 (c2 (c2 (c2 weirref4_ParsePrefix.B))))))))))), .inBlock 2, .code (c2 (c2 (c2 (c2 (c2 (c2 (c2 (c2 (c2 weirref4_ParsePrefix.B)))))))))] (fun s_ : Int => [(0, .string a0), (2, .pointer (some (pt b1 0))), (5, .int .i64 s2), (6, .pointer (some (pt b8 0))), (9, .int .i64 s_)]) (fun s_ : Int => [(b8, c_api_IP.enc r7.1), (b1, c_api_Prefix.enc z_api_Prefix)]) weirref4_ParsePrefix.F0
noncomputable def weirref4_ParsePrefix.L1 (a0 : ByteArray) (s2 : Int) (r7 : (api_IP × Int × Int)) (s9 : Int) : M (LS Int (api_Prefix × Int × Int)) :=
  (if s9 < (a0.size : Int) then
      chk ((0 : Int) ≤ s9 ∧ s9 < (a0.size : Int)) >>= fun _ =>
      weirref4_digit (sb a0 s9) >>= fun r27 =>
      pure r27
    else
      pure false) >>= fun y28 =>
  if y28 = true then
    pure (LS.next (IntKind.wrap .i64 (s9 + 1)))
  else
    (weirref4_ParsePrefix.K1 a0 s2 r7 s9) >>= fun b => pure (LS.done b)
theorem weirref4_ParsePrefix.L1_ok (a0 : ByteArray) (b1 : Nat) (s2 : Int) (r7 : (api_IP × Int × Int)) (b8 : Nat) (s9 : Int) :
    SJ weirref4_ParsePrefix.cx [.code (c1 (c1 (c1 (c2 (c2 (c2 (c2 (c2 (c2 (c2 (c2 weirref4_ParsePrefix.B))))))))))), .inLoop (c1 (c1 (c1 (c2 (c2 (c2 (c2 (c2 (c2 (c2 (c2 weirref4_ParsePrefix.B))))))))))), .inBlock 2, .code (c2 (c2 (c2 (c2 (c2 (c2 (c2 (c2 (c2 weirref4_ParsePrefix.B)))))))))] [(0, .string a0), (2, .pointer (some (pt b1 0))), (5, .int .i64 s2), (6, .pointer (some (pt b8 0))), (9, .int .i64 s9)] [(b8, c_api_IP.enc r7.1), (b1, c_api_Prefix.enc z_api_Prefix)] (weirref4_ParsePrefix.L1 a0 s2 r7 s9) (weirref4_ParsePrefix.F1 a0 b1 s2 r7 b8) := by
  unfold weirref4_ParsePrefix.L1
  refine SJ.seq ?_
  refine SJ.sr 10 ?_
  refine OJ.go 5 [(56, .bool (decide (s9 < (a0.size : Int)))), (55, .bool (decide (s9 < (a0.size : Int)))), (54, .int .i64 (a0.size : Int)), (53, .string a0), (52, .int .i64 s9)] ?_
  refine OJ.join (b := decide (s9 < (a0.size : Int))) [5, 6, 7, 8, 9] [] [0, 2, 5, 6, 9, 61] (fun y28 => [(0, .string a0), (2, .pointer (some (pt b1 0))), (5, .int .i64 s2), (6, .pointer (some (pt b8 0))), (9, .int .i64 s9), (61, .bool y28)]) [] [] (t := 56) decide_eq_true_iff (fun hp_ => ?_) (fun hp_ => ?_) (fun _ _ _ _ _ _ h_ => h_) (fun y28 => ?_)
  · refine OJ.go 2 [(58, .int .i64 s9), (57, .string a0)] ?_
    refine OJ.idxT (d := 59) (T := 9) (y := .tmp 57) (j := .tmp 58) (k := .i64) (fun hb25 hb26 => ?_)
    refine OJ.call (d := 60) (g := 70) (ats := #[5]) (args := [.tmp 59]) (owed := []) F70 (weirref4_digit_ok (sb a0 s9)) (fun r27 => ?_)
    refine OW.nil ?_
    refine OJ.go 1 [(61, .bool r27)] ?_
    exact OJ.nil ⟨(Cov.mem Cov.nil), rfl, _, rfl, by kernel_rfl⟩
  · refine OJ.go 5 [(61, .bool false), (60, undef), (59, undef), (58, undef), (57, undef)] ?_
    exact OJ.nil ⟨(Cov.mem Cov.nil), rfl, _, rfl, by kernel_rfl⟩
  · refine OJ.nil ?_
    refine SJ.cond (t := (.tmp 61)) (b := y28) Iff.rfl (fun hc29 => ?_) (fun hc29 => ?_)
    · refine SJ.skip ?_
      refine SJ.block (id := 3) ?_
      refine SJ.rg 3 ?_
      refine OJ.go 3 [(9, .int .i64 (IntKind.wrap .i64 (s9 + 1))), (63, .int .i64 (IntKind.wrap .i64 (s9 + 1))), (62, .int .i64 s9)] ?_
      refine OJ.nil ?_
      refine SJ.inBlock ?_
      exact SJ.at_ [0, 2, 5, 6, 9] rfl
    · refine SJ.exit (id := 2) (by rfl) ?_
      refine SJ.less [0, 2, 5, 6, 9] (m' := [(0, .string a0), (2, .pointer (some (pt b1 0))), (5, .int .i64 s2), (6, .pointer (some (pt b8 0))), (9, .int .i64 s9)]) ?_
      refine SJ.done ?_
      exact weirref4_ParsePrefix.K1_ok a0 b1 s2 r7 b8 s9
noncomputable def weirref4_ParsePrefix.K2 (a0 : ByteArray) (s2 : Int) : M (api_Prefix × Int × Int) :=
  if s2 = (a0.size : Int) then
    pure (z_api_Prefix, 42, (a0.size : Int))
  else
    chk (0 ≤ (0 : Int) ∧ (0 : Int) ≤ s2 ∧ s2 ≤ (a0.size : Int)) >>= fun _ =>
    weirref4_ParseIP (ByteArray.extract a0 (Int.toNat 0) (Int.toNat s2)) >>= fun r7 =>
    slot 28 >>= fun b8 =>
    if r7.2.1 ≠ 0 then
      pure (z_api_Prefix, r7.2.1, r7.2.2)
    else
      loopM (fun s_ : Int => weirref4_ParsePrefix.L1 a0 s2 r7 s_) (IntKind.wrap .i64 (s2 + 1))
theorem weirref4_ParsePrefix.K2_ok (a0 : ByteArray) (b1 : Nat) (s2 : Int) :
    SJ weirref4_ParsePrefix.cx [.code (c2 (c2 (c2 (c2 weirref4_ParsePrefix.B))))] [(0, .string a0), (2, .pointer (some (pt b1 0))), (5, .int .i64 s2)] [(b1, c_api_Prefix.enc z_api_Prefix)] (weirref4_ParsePrefix.K2 a0 s2) weirref4_ParsePrefix.F0 := by
  unfold weirref4_ParsePrefix.K2
  refine SJ.seq ?_
  refine SJ.sr 4 ?_
  refine OJ.go 4 [(33, .bool (s2 == (a0.size : Int))), (32, .int .i64 (a0.size : Int)), (31, .string a0), (30, .int .i64 s2)] ?_
  refine OJ.nil ?_
  refine SJ.cond (t := (.tmp 33)) (b := (s2 == (a0.size : Int))) beq_iff_eq (fun hc31 => ?_) (fun hc31 => ?_)
  · refine SJ.sr 6 ?_
    refine OJ.build (d := 34) (T := 38) (parts := []) (ps := []) (cd := c_api_Prefix) (z0 := z_api_Prefix) z_api_Prefix Ty38 rfl Filled.nil ?_
    refine OJ.go 2 [(36, .int .i64 (a0.size : Int)), (35, .string a0)] ?_
    refine OJ.kst (y := .tmp 2) (z := .tmp 34) (cd := c_api_Prefix) (u := z_api_Prefix) (j := 0) (b := b1) (o := 0) (c_api_Prefix.enc z_api_Prefix) (owed := []) Ty38 rfl (Upd.whole ((Cod.len _ _).trans (Cod.len _ _).symm)) rfl ?_
    refine OW.nil ?_
    refine OJ.go 2 [(4, .int .i64 (a0.size : Int)), (3, .int .i64 42)] ?_
    refine OJ.nil ?_
    exact SJ.ret rfl (Res.run (ys := [c_api_Prefix.val z_api_Prefix, .int .i64 42, .int .i64 (a0.size : Int)]) (.cell (j := 0) (b := b1) (cd := c_api_Prefix) (q := z_api_Prefix) (by kernel_rfl) rfl Ty38 (At.whole _) (.tmp (by kernel_rfl) (.tmp (by kernel_rfl) .nil))) rfl)
  · refine SJ.skip ?_
    refine SJ.sr 12 ?_
    refine OJ.go 2 [(39, .int .i64 s2), (38, .string a0)] ?_
    refine OJ.cutT (d := 40) (t := 9) (y := .tmp 38) (lo := none) (hi := (some (.tmp 39))) (lo' := none) (hi' := some (.i64, s2)) ?_
    refine OJ.call (d := 41) (g := 36) (ats := #[9]) (args := [.tmp 40]) (owed := []) F36 (weirref4_ParseIP_ok (ByteArray.extract a0 (Int.toNat 0) (Int.toNat s2))) (fun r7 => ?_)
    refine OW.nil ?_
    refine OJ.go 4 [(44, .int .i64 r7.2.2), (43, .int .i64 r7.2.1), (42, c_api_IP.val r7.1), (37, .tuple #[c_api_IP.val r7.1, .int .i64 r7.2.1, .int .i64 r7.2.2])] ?_
    refine OJ.slotOf (d := 6) (op := (.alloc 28)) (cd := c_api_IP) (u := z_api_IP) (owed := []) (alloc_run Ty28) (fun b8 => ?_)
    refine OW.nil ?_
    refine OJ.kst (y := .tmp 6) (z := .tmp 42) (cd := c_api_IP) (u := r7.1) (j := 0) (b := b8) (o := 0) (c_api_IP.enc r7.1) (owed := []) Ty28 rfl (Upd.whole ((Cod.len _ _).trans (Cod.len _ _).symm)) rfl ?_
    refine OW.nil ?_
    refine OJ.go 2 [(8, .int .i64 r7.2.2), (7, .int .i64 r7.2.1)] ?_
    refine OJ.nil ?_
    refine SJ.seq ?_
    refine SJ.sr 2 ?_
    refine OJ.go 2 [(46, .bool (r7.2.1 != 0)), (45, .int .i64 r7.2.1)] ?_
    refine OJ.nil ?_
    refine SJ.cond (t := (.tmp 46)) (b := (r7.2.1 != 0)) bne_iff_ne (fun hc30 => ?_) (fun hc30 => ?_)
    · refine SJ.sr 6 ?_
      refine OJ.build (d := 47) (T := 38) (parts := []) (ps := []) (cd := c_api_Prefix) (z0 := z_api_Prefix) z_api_Prefix Ty38 rfl Filled.nil ?_
      refine OJ.go 2 [(49, .int .i64 r7.2.2), (48, .int .i64 r7.2.1)] ?_
      refine OJ.kst (y := .tmp 2) (z := .tmp 47) (cd := c_api_Prefix) (u := z_api_Prefix) (j := 1) (b := b1) (o := 0) (c_api_Prefix.enc z_api_Prefix) (owed := []) Ty38 rfl (Upd.whole ((Cod.len _ _).trans (Cod.len _ _).symm)) rfl ?_
      refine OW.nil ?_
      refine OJ.go 2 [(4, .int .i64 r7.2.2), (3, .int .i64 r7.2.1)] ?_
      refine OJ.nil ?_
      exact SJ.ret rfl (Res.run (ys := [c_api_Prefix.val z_api_Prefix, .int .i64 r7.2.1, .int .i64 r7.2.2]) (.cell (j := 1) (b := b1) (cd := c_api_Prefix) (q := z_api_Prefix) (by kernel_rfl) rfl Ty38 (At.whole _) (.tmp (by kernel_rfl) (.tmp (by kernel_rfl) .nil))) rfl)
    · refine SJ.skip ?_
      refine SJ.sr 3 ?_
      refine OJ.go 3 [(9, .int .i64 (IntKind.wrap .i64 (s2 + 1))), (51, .int .i64 (IntKind.wrap .i64 (s2 + 1))), (50, .int .i64 s2)] ?_
      refine OJ.nil ?_
      refine SJ.seq ?_
      refine SJ.block (id := 2) ?_
      exact SJ.loop (fun s_ : Int => [(0, .string a0), (2, .pointer (some (pt b1 0))), (5, .int .i64 s2), (6, .pointer (some (pt b8 0))), (9, .int .i64 s_)]) (fun s_ : Int => [(b8, c_api_IP.enc r7.1), (b1, c_api_Prefix.enc z_api_Prefix)]) [0, 2, 5, 6, 9] rfl (fun _ _ => rfl) (fun s_ => weirref4_ParsePrefix.L1_ok a0 b1 s2 r7 b8 s_)
noncomputable def weirref4_ParsePrefix.F2 (a0 : ByteArray) (b1 : Nat) : (LS Int (api_Prefix × Int × Int)) → Reach := loopF [.inLoop (c1 (c1 (c1 (c2 (c2 (c2 weirref4_ParsePrefix.B)))))), .inBlock 0, .code (c2 (c2 (c2 (c2 weirref4_ParsePrefix.B))))] (fun s_ : Int => [(0, .string a0), (2, .pointer (some (pt b1 0))), (5, .int .i64 s_)]) (fun s_ : Int => [(b1, c_api_Prefix.enc z_api_Prefix)]) weirref4_ParsePrefix.F0
noncomputable def weirref4_ParsePrefix.L2 (a0 : ByteArray) (s2 : Int) : M (LS Int (api_Prefix × Int × Int)) :=
  (if s2 < (a0.size : Int) then
      chk ((0 : Int) ≤ s2 ∧ s2 < (a0.size : Int)) >>= fun _ =>
      pure ((sb a0 s2) != 47)
    else
      pure false) >>= fun y34 =>
  if y34 = true then
    pure (LS.next (IntKind.wrap .i64 (s2 + 1)))
  else
    (weirref4_ParsePrefix.K2 a0 s2) >>= fun b => pure (LS.done b)
theorem weirref4_ParsePrefix.L2_ok (a0 : ByteArray) (b1 : Nat) (s2 : Int) :
    SJ weirref4_ParsePrefix.cx [.code (c1 (c1 (c1 (c2 (c2 (c2 weirref4_ParsePrefix.B)))))), .inLoop (c1 (c1 (c1 (c2 (c2 (c2 weirref4_ParsePrefix.B)))))), .inBlock 0, .code (c2 (c2 (c2 (c2 weirref4_ParsePrefix.B))))] [(0, .string a0), (2, .pointer (some (pt b1 0))), (5, .int .i64 s2)] [(b1, c_api_Prefix.enc z_api_Prefix)] (weirref4_ParsePrefix.L2 a0 s2) (weirref4_ParsePrefix.F2 a0 b1) := by
  unfold weirref4_ParsePrefix.L2
  refine SJ.seq ?_
  refine SJ.sr 10 ?_
  refine OJ.go 5 [(22, .bool (decide (s2 < (a0.size : Int)))), (21, .bool (decide (s2 < (a0.size : Int)))), (20, .int .i64 (a0.size : Int)), (19, .string a0), (18, .int .i64 s2)] ?_
  refine OJ.join (b := decide (s2 < (a0.size : Int))) [5, 6, 7, 8, 9] [] [0, 2, 5, 27] (fun y34 => [(0, .string a0), (2, .pointer (some (pt b1 0))), (5, .int .i64 s2), (27, .bool y34)]) [] [] (t := 22) decide_eq_true_iff (fun hp_ => ?_) (fun hp_ => ?_) (fun _ _ _ _ _ _ h_ => h_) (fun y34 => ?_)
  · refine OJ.go 2 [(24, .int .i64 s2), (23, .string a0)] ?_
    refine OJ.idxT (d := 25) (T := 9) (y := .tmp 23) (j := .tmp 24) (k := .i64) (fun hb32 hb33 => ?_)
    refine OJ.go 2 [(27, .bool ((sb a0 s2) != 47)), (26, .bool ((sb a0 s2) != 47))] ?_
    exact OJ.nil ⟨(Cov.mem Cov.nil), rfl, _, rfl, by kernel_rfl⟩
  · refine OJ.go 5 [(27, .bool false), (26, undef), (25, undef), (24, undef), (23, undef)] ?_
    exact OJ.nil ⟨(Cov.mem Cov.nil), rfl, _, rfl, by kernel_rfl⟩
  · refine OJ.nil ?_
    refine SJ.cond (t := (.tmp 27)) (b := y34) Iff.rfl (fun hc35 => ?_) (fun hc35 => ?_)
    · refine SJ.skip ?_
      refine SJ.block (id := 1) ?_
      refine SJ.rg 3 ?_
      refine OJ.go 3 [(5, .int .i64 (IntKind.wrap .i64 (s2 + 1))), (29, .int .i64 (IntKind.wrap .i64 (s2 + 1))), (28, .int .i64 s2)] ?_
      refine OJ.nil ?_
      refine SJ.inBlock ?_
      exact SJ.at_ [0, 2, 5] rfl
    · refine SJ.exit (id := 0) (by rfl) ?_
      refine SJ.less [0, 2, 5] (m' := [(0, .string a0), (2, .pointer (some (pt b1 0))), (5, .int .i64 s2)]) ?_
      refine SJ.done ?_
      exact weirref4_ParsePrefix.K2_ok a0 b1 s2
noncomputable def weirref4_ParsePrefix (a0 : ByteArray) : M (api_Prefix × Int × Int) :=
  slot 38 >>= fun b1 =>
  if (a0.size : Int) > 49 then
    pure (z_api_Prefix, 2, 49)
  else
    loopM (fun s_ : Int => weirref4_ParsePrefix.L2 a0 s_) 0
theorem weirref4_ParsePrefix_ok (a0 : ByteArray) : Ref Tryz.prog 38 [.string a0] (weirref4_ParsePrefix a0) weirref4_ParsePrefix.out := by
  refine Ref.of (cd := weirref4_ParsePrefix.B) Tryz.func38 ?_
  show SJ weirref4_ParsePrefix.cx [.code weirref4_ParsePrefix.B] [(0, .string a0)] [] (weirref4_ParsePrefix a0) weirref4_ParsePrefix.F0
  unfold weirref4_ParsePrefix
  refine SJ.sr 3 ?_
  refine OJ.slotOf (d := 2) (op := (.alloc 38)) (cd := c_api_Prefix) (u := z_api_Prefix) (owed := []) (alloc_run Ty38) (fun b1 => ?_)
  refine OW.nil ?_
  refine OJ.go 2 [(4, .int .i64 0), (3, .int .i64 0)] ?_
  refine OJ.nil ?_
  refine SJ.seq ?_
  refine SJ.sr 3 ?_
  refine OJ.go 3 [(16, .bool (decide ((a0.size : Int) > 49))), (15, .int .i64 (a0.size : Int)), (14, .string a0)] ?_
  refine OJ.nil ?_
  refine SJ.cond (t := (.tmp 16)) (b := decide ((a0.size : Int) > 49)) decide_eq_true_iff (fun hc36 => ?_) (fun hc36 => ?_)
  · refine SJ.sr 4 ?_
    refine OJ.build (d := 17) (T := 38) (parts := []) (ps := []) (cd := c_api_Prefix) (z0 := z_api_Prefix) z_api_Prefix Ty38 rfl Filled.nil ?_
    refine OJ.kst (y := .tmp 2) (z := .tmp 17) (cd := c_api_Prefix) (u := z_api_Prefix) (j := 0) (b := b1) (o := 0) (c_api_Prefix.enc z_api_Prefix) (owed := []) Ty38 rfl (Upd.whole ((Cod.len _ _).trans (Cod.len _ _).symm)) rfl ?_
    refine OW.nil ?_
    refine OJ.go 2 [(4, .int .i64 49), (3, .int .i64 2)] ?_
    refine OJ.nil ?_
    exact SJ.ret rfl (Res.run (ys := [c_api_Prefix.val z_api_Prefix, .int .i64 2, .int .i64 49]) (.cell (j := 0) (b := b1) (cd := c_api_Prefix) (q := z_api_Prefix) (by kernel_rfl) rfl Ty38 (At.whole _) (.tmp (by kernel_rfl) (.tmp (by kernel_rfl) .nil))) rfl)
  · refine SJ.skip ?_
    refine SJ.sr 1 ?_
    refine OJ.go 1 [(5, .int .i64 0)] ?_
    refine OJ.nil ?_
    refine SJ.seq ?_
    refine SJ.block (id := 0) ?_
    exact SJ.loop (fun s_ : Int => [(0, .string a0), (2, .pointer (some (pt b1 0))), (5, .int .i64 s_)]) (fun s_ : Int => [(b1, c_api_Prefix.enc z_api_Prefix)]) [0, 2, 5] rfl (fun _ _ => rfl) (fun s_ => weirref4_ParsePrefix.L2_ok a0 b1 s_)

/-! ### (*strings.Builder).WriteByte: function 81 -/
noncomputable def strings_Builder_WriteByte.B : Code := (Tryz.f81.body).getD .skip
noncomputable def strings_Builder_WriteByte.cx : Fx := ⟨Tryz.prog, 81, Tryz.f81⟩
noncomputable def strings_Builder_WriteByte.out (r_ : Any) : Value := r_.v
noncomputable def strings_Builder_WriteByte.F0 (r_ : Any) : Reach := .ret (strings_Builder_WriteByte.out r_)
noncomputable def strings_Builder_WriteByte (a0 : (Option Addr)) (a1 : Int) : M Any :=
  strings_Builder_copyCheck a0 >>= fun r1 =>
  nilck a0 >>= fun p2 =>
  ld cL (Addr.add p2 1) >>= fun x3 =>
  slot 5 >>= fun b4 =>
  appl (cI .u8) 5 1 0 x3 [a1] >>= fun r5 =>
  nilck a0 >>= fun p6 =>
  st cL (Addr.add p6 1) r5 >>= fun _ =>
  pure (⟨.nilIface, rfl⟩ : Any)
theorem strings_Builder_WriteByte_ok (a0 : (Option Addr)) (a1 : Int) : Ref Tryz.prog 81 [.pointer a0, .int .u8 a1] (strings_Builder_WriteByte a0 a1) strings_Builder_WriteByte.out := by
  refine Ref.of (cd := strings_Builder_WriteByte.B) Tryz.func81 ?_
  show SJ strings_Builder_WriteByte.cx [.code strings_Builder_WriteByte.B] [(0, .pointer a0), (1, .int .u8 a1)] [] (strings_Builder_WriteByte a0 a1) strings_Builder_WriteByte.F0
  unfold strings_Builder_WriteByte
  refine SJ.sr 1 ?_
  refine OJ.go 1 [(4, (⟨.nilIface, rfl⟩ : Any).v)] ?_
  refine OJ.nil ?_
  refine SJ.sr 2 ?_
  refine OJ.go 1 [(5, .pointer a0)] ?_
  refine OJ.call (d := 6) (g := 88) (ats := #[111]) (args := [.tmp 5]) (owed := []) F88 (strings_Builder_copyCheck_ok a0) (fun r1 => ?_)
  refine OW.nil ?_
  refine OJ.nil ?_
  refine SJ.sr 11 ?_
  refine OJ.go 2 [(8, .pointer a0), (7, .pointer a0)] ?_
  refine OJ.nilck (d := 9) (y := .tmp 8) (fun p2 => ?_)
  refine OJ.go 1 [(10, .pointer (some (Addr.add p2 1)))] ?_
  refine OJ.ld (d := 11) (y := .tmp 10) (pend2 := fun x3 => []) Ty51 (fun _ => rfl) (fun x3 => ?_)
  refine OJ.go 1 [(12, .int .u8 a1)] ?_
  refine OJ.rowSlot (d := 13) (t := 51) (parts := [(0, .tmp 12)]) (ps := [(0, (cI .u8).val a1)]) (cd := (cI .u8)) (⟨[a1], rfl⟩ : Vec Int 1) (owed := []) Ty5 (Filled.cons (cd := (cI .u8)) (q := a1) (o := 0) rfl (Upd.arr (i := 0) (by decide) (by decide)) Filled.nil) (fun b4 => ?_)
  refine OW.nil ?_
  refine OJ.appl (d := 14) (t := 51) (u := 51) (so := .tmp 11) (xo := .tmp 13) (j := 0) (b := b4) (l := ((cI .u8).arr 1).enc (⟨[a1], rfl⟩ : Vec Int 1)) (n := 1) (k := 1) [a1] (owed := []) Ty5 (by rfl) (Cod.arr_enc _ _ _) (by rfl) (fun r5 => ?_)
  refine OW.nil ?_
  refine OJ.nilck (d := 15) (y := .tmp 7) (fun p6 => ?_)
  refine OJ.go 1 [(16, .pointer (some (Addr.add p6 1)))] ?_
  refine OJ.st (y := .tmp 16) (z := .tmp 14) (owed := []) Ty51 ?_
  refine OW.nil ?_
  refine OJ.nil ?_
  refine SJ.sr 1 ?_
  refine OJ.go 1 [(4, (⟨.nilIface, rfl⟩ : Any).v)] ?_
  refine OJ.nil ?_
  exact SJ.ret rfl (Res.run (ys := [(⟨.nilIface, rfl⟩ : Any).v]) (.tmp (by kernel_rfl) .nil) rfl)

/-! ### weir/addr.Mask: function 49 -/
noncomputable def addr_Mask.B : Code := (Tryz.f49.body).getD .skip
noncomputable def addr_Mask.cx : Fx := ⟨Tryz.prog, 49, Tryz.f49⟩
noncomputable def addr_Mask.out (r_ : (api_IP × Int)) : Value := .tuple #[c_api_IP.val r_.1, .int .i64 r_.2]
noncomputable def addr_Mask.F0 (r_ : (api_IP × Int)) : Reach := .ret (addr_Mask.out r_)
noncomputable def addr_Mask (a0 : api_IP) (a1 : Int) : M (api_IP × Int) :=
  slot 28 >>= fun b1 =>
  slot 28 >>= fun b2 =>
  addr_size a0 >>= fun r3 =>
  if r3 = 0 then
    pure (z_api_IP, 40)
  else
    (if a1 < 0 then
        pure true
      else
        pure (decide (a1 > r3))) >>= fun y6 =>
    if y6 = true then
      pure (z_api_IP, 45)
    else
      draw >>= fun _ =>
      addr_masked a0.A a1 >>= fun r7 =>
      pure ((⟨a0.V, r7⟩ : api_IP), 0)
theorem addr_Mask_ok (a0 : api_IP) (a1 : Int) : Ref Tryz.prog 49 [c_api_IP.val a0, .int .i64 a1] (addr_Mask a0 a1) addr_Mask.out := by
  refine Ref.of (cd := addr_Mask.B) Tryz.func49 ?_
  show SJ addr_Mask.cx [.code addr_Mask.B] [(0, c_api_IP.val a0), (1, .int .i64 a1)] [] (addr_Mask a0 a1) addr_Mask.F0
  unfold addr_Mask
  refine SJ.sr 3 ?_
  refine OJ.slotOf (d := 2) (op := (.box 28 (.tmp 0))) (cd := c_api_IP) (u := a0) (owed := []) (box_run (by kernel_rfl)) (fun b1 => ?_)
  refine OW.nil ?_
  refine OJ.slotOf (d := 4) (op := (.alloc 28)) (cd := c_api_IP) (u := z_api_IP) (owed := []) (alloc_run Ty28) (fun b2 => ?_)
  refine OW.nil ?_
  refine OJ.go 1 [(5, .int .i64 0)] ?_
  refine OJ.nil ?_
  refine SJ.seq ?_
  refine SJ.sr 3 ?_
  refine OJ.kld (d := 7) (y := .tmp 2) (cd := c_api_IP) (j := 1) (b := b1) (o := 0) a0 (pend2 := []) Ty28 rfl (At.whole _) rfl ?_
  refine OJ.call (d := 8) (g := 32) (ats := #[28]) (args := [.tmp 7]) (owed := []) F32 (addr_size_ok a0) (fun r3 => ?_)
  refine OW.nil ?_
  refine OJ.go 1 [(6, .int .i64 r3)] ?_
  refine OJ.nil ?_
  refine SJ.block (id := 0) ?_
  refine SJ.sr 3 ?_
  refine OJ.go 3 [(9, .bool (r3 == 0)), (11, .bool (r3 == 0)), (10, .int .i64 r3)] ?_
  refine OJ.nil ?_
  refine SJ.cond (t := (.tmp 9)) (b := (r3 == 0)) beq_iff_eq (fun hc9 => ?_) (fun hc9 => ?_)
  · refine SJ.sr 3 ?_
    refine OJ.build (d := 12) (T := 28) (parts := []) (ps := []) (cd := c_api_IP) (z0 := z_api_IP) z_api_IP Ty28 rfl Filled.nil ?_
    refine OJ.kst (y := .tmp 4) (z := .tmp 12) (cd := c_api_IP) (u := z_api_IP) (j := 0) (b := b2) (o := 0) (c_api_IP.enc z_api_IP) (owed := []) Ty28 rfl (Upd.whole ((Cod.len _ _).trans (Cod.len _ _).symm)) rfl ?_
    refine OW.nil ?_
    refine OJ.go 1 [(5, .int .i64 40)] ?_
    refine OJ.nil ?_
    exact SJ.ret rfl (Res.run (ys := [c_api_IP.val z_api_IP, .int .i64 40]) (.cell (j := 0) (b := b2) (cd := c_api_IP) (q := z_api_IP) (by kernel_rfl) rfl Ty28 (At.whole _) (.tmp (by kernel_rfl) .nil)) rfl)
  · refine SJ.sr 8 ?_
    refine OJ.go 3 [(16, .bool (decide (a1 < 0))), (15, .bool (decide (a1 < 0))), (14, .int .i64 a1)] ?_
    refine OJ.join (b := decide (a1 < 0)) [3, 4, 5, 6] [7] [1, 2, 4, 20] (fun y6 => [(1, .int .i64 a1), (2, .pointer (some (pt b1 0))), (4, .pointer (some (pt b2 0))), (20, .bool y6)]) [] [] (t := 16) decide_eq_true_iff (fun hp_ => ?_) (fun hp_ => ?_) (fun _ _ _ _ _ _ h_ => h_) (fun y6 => ?_)
    · refine OJ.go 4 [(20, .bool true), (19, undef), (18, undef), (17, undef)] ?_
      exact OJ.nil ⟨(Cov.mem Cov.nil), rfl, _, rfl, by kernel_rfl⟩
    · refine OJ.go 4 [(20, .bool (decide (a1 > r3))), (19, .bool (decide (a1 > r3))), (18, .int .i64 r3), (17, .int .i64 a1)] ?_
      exact OJ.nil ⟨(Cov.mem Cov.nil), rfl, _, rfl, by kernel_rfl⟩
    · refine OJ.go 1 [(13, .bool y6)] ?_
      refine OJ.nil ?_
      refine SJ.cond (t := (.tmp 13)) (b := y6) Iff.rfl (fun hc8 => ?_) (fun hc8 => ?_)
      · refine SJ.sr 3 ?_
        refine OJ.build (d := 21) (T := 28) (parts := []) (ps := []) (cd := c_api_IP) (z0 := z_api_IP) z_api_IP Ty28 rfl Filled.nil ?_
        refine OJ.kst (y := .tmp 4) (z := .tmp 21) (cd := c_api_IP) (u := z_api_IP) (j := 0) (b := b2) (o := 0) (c_api_IP.enc z_api_IP) (owed := []) Ty28 rfl (Upd.whole ((Cod.len _ _).trans (Cod.len _ _).symm)) rfl ?_
        refine OW.nil ?_
        refine OJ.go 1 [(5, .int .i64 45)] ?_
        refine OJ.nil ?_
        exact SJ.ret rfl (Res.run (ys := [c_api_IP.val z_api_IP, .int .i64 45]) (.cell (j := 0) (b := b2) (cd := c_api_IP) (q := z_api_IP) (by kernel_rfl) rfl Ty28 (At.whole _) (.tmp (by kernel_rfl) .nil)) rfl)
      · refine SJ.skip ?_
        refine SJ.inBlock ?_
        refine SJ.seq ?_
        refine SJ.draw (id := 6) (kd := [0, 1, 0, 1, 0, 2, 0, 2, 0]) (bef := [0, 1, 0, 4, 0, 28, 63, 127, 255]) (ord := [0, 1, 2, 3, 4, 5, 6, 7, 8]) mixed ?_
        refine OJ.go 1 [(22, .pointer (some (pt b1 0)))] ?_
        refine OJ.kld (d := 23) (y := .tmp 22) (cd := (cI .i64)) (j := 1) (b := b1) (o := 0) a0.V (pend2 := [⟨1, 3, (pt b1 0), (cI .i64).val a0.V⟩]) Ty3 rfl (At_api_IP_V a0) rfl ?_
        refine OJ.go 1 [(24, .pointer (some (pt b1 1)))] ?_
        refine OJ.kld (d := 25) (y := .tmp 24) (cd := ((cI .u8).arr 16)) (j := 1) (b := b1) (o := 1) a0.A (pend2 := [⟨3, 26, (pt b1 1), ((cI .u8).arr 16).val a0.A⟩, ⟨1, 3, (pt b1 0), (cI .i64).val a0.V⟩]) Ty26 rfl (At_api_IP_A a0) rfl ?_
        refine OJ.go 1 [(26, .int .i64 a1)] ?_
        refine OJ.call (d := 27) (g := 20) (ats := #[26, 3]) (args := [.tmp 25, .tmp 26]) (owed := [⟨1, 3, (pt b1 0), (cI .i64).val a0.V⟩]) F20 (addr_masked_ok a0.A a1) (fun r7 => ?_)
        refine OW.known (j := 1) (q := a0.V) Ty3 rfl (At_api_IP_V a0) ?_
        refine OW.nil ?_
        refine OJ.build (d := 28) (T := 28) (parts := [(0, .tmp 23), (1, .tmp 27)]) (ps := [(0, (cI .i64).val a0.V), (1, ((cI .u8).arr 16).val r7)]) (cd := c_api_IP) (z0 := z_api_IP) (⟨a0.V, r7⟩ : api_IP) Ty28 rfl (Filled.cons (cd := (cI .i64)) (q := a0.V) (o := 0) (by kernel_rfl) (Up_api_IP_V z_api_IP a0.V) (Filled.cons (cd := ((cI .u8).arr 16)) (q := r7) (o := 1) (by kernel_rfl) (Up_api_IP_A (⟨a0.V, z_api_IP.A⟩ : api_IP) r7) Filled.nil)) ?_
        refine OJ.kst (y := .tmp 4) (z := .tmp 28) (cd := c_api_IP) (u := (⟨a0.V, r7⟩ : api_IP)) (j := 0) (b := b2) (o := 0) (c_api_IP.enc (⟨a0.V, r7⟩ : api_IP)) (owed := []) Ty28 rfl (Upd.whole ((Cod.len _ _).trans (Cod.len _ _).symm)) rfl ?_
        refine OW.nil ?_
        refine OJ.go 1 [(5, .int .i64 0)] ?_
        refine OJ.nil ?_
        exact SJ.ret rfl (Res.run (ys := [c_api_IP.val (⟨a0.V, r7⟩ : api_IP), .int .i64 0]) (.cell (j := 0) (b := b2) (cd := c_api_IP) (q := (⟨a0.V, r7⟩ : api_IP)) (by kernel_rfl) rfl Ty28 (At.whole _) (.tmp (by kernel_rfl) .nil)) rfl)

/-! ### weir/weirref4.Mask: function 50 -/
noncomputable def weirref4_Mask.B : Code := (Tryz.f50.body).getD .skip
noncomputable def weirref4_Mask.cx : Fx := ⟨Tryz.prog, 50, Tryz.f50⟩
noncomputable def weirref4_Mask.out (r_ : (api_IP × Int)) : Value := .tuple #[c_api_IP.val r_.1, .int .i64 r_.2]
noncomputable def weirref4_Mask.F0 (r_ : (api_IP × Int)) : Reach := .ret (weirref4_Mask.out r_)
noncomputable def weirref4_Mask.F1 (a0 : api_IP) (a1 : Int) (b1 : Nat) (b2 : Nat) (b6 : Nat) : (LS (Int × api_IP) (api_IP × Int)) → Reach := loopF [.inLoop (c1 (c1 (c2 (c1 (c2 (c2 (c2 (c2 (c2 weirref4_Mask.B))))))))), .inBlock 0, .code (c2 (c2 (c2 (c2 (c2 (c2 weirref4_Mask.B))))))] (fun s_ : (Int × api_IP) => [(1, .int .i64 a1), (2, .pointer (some (pt b1 0))), (4, .pointer (some (pt b2 0))), (7, .pointer (some (pt b6 0))), (8, .int .i64 s_.1)]) (fun s_ : (Int × api_IP) => [(b6, c_api_IP.enc s_.2), (b2, c_api_IP.enc z_api_IP), (b1, c_api_IP.enc a0)]) weirref4_Mask.F0
noncomputable def weirref4_Mask.K1 (s7 : Int) (s8 : api_IP) (s22 : Int) : M (LS (Int × api_IP) (api_IP × Int)) :=
  chk ((0 : Int) ≤ s7 ∧ s7 < (16 : Nat)) >>= fun _ =>
  pure (LS.next (IntKind.wrap .i64 (s7 + 1), (⟨s8.V, (Vec.s s8.A s7 (IntKind.wrap .u8 s22))⟩ : api_IP)))
theorem weirref4_Mask.K1_ok (a0 : api_IP) (a1 : Int) (b1 : Nat) (b2 : Nat) (b6 : Nat) (s7 : Int) (s8 : api_IP) (s22 : Int) :
    SJ weirref4_Mask.cx [.code (c2 (c2 (c1 (c1 (c2 (c1 (c1 (c2 (c1 (c2 (c2 (c2 (c2 (c2 weirref4_Mask.B)))))))))))))), .inBlock 1, .code (c2 (c2 (c1 (c1 (c2 (c1 (c2 (c2 (c2 (c2 (c2 weirref4_Mask.B))))))))))), .inLoop (c1 (c1 (c2 (c1 (c2 (c2 (c2 (c2 (c2 weirref4_Mask.B))))))))), .inBlock 0, .code (c2 (c2 (c2 (c2 (c2 (c2 weirref4_Mask.B))))))] [(1, .int .i64 a1), (2, .pointer (some (pt b1 0))), (4, .pointer (some (pt b2 0))), (7, .pointer (some (pt b6 0))), (8, .int .i64 s7), (9, .int .i64 s22)] [(b6, c_api_IP.enc s8), (b2, c_api_IP.enc z_api_IP), (b1, c_api_IP.enc a0)] (weirref4_Mask.K1 s7 s8 s22) (weirref4_Mask.F1 a0 a1 b1 b2 b6) := by
  unfold weirref4_Mask.K1
  refine SJ.rg 6 ?_
  refine OJ.go 4 [(54, .pointer (some (pt b6 1))), (53, .int .u8 (IntKind.wrap .u8 s22)), (52, .int .i64 s22), (51, .int .i64 s7)] ?_
  refine OJ.idxK (d := 55) (T := 26) (y := .tmp 54) (j := .tmp 51) (E := 5) (sz := 1) (b := b6) (o := 1) (k := .i64) (fun hb28 hb29 => ?_)
  refine OJ.kst (y := .tmp 55) (z := .tmp 53) (cd := (cI .u8)) (u := (IntKind.wrap .u8 s22)) (j := 0) (b := b6) (o := (1 + s7.toNat * 1)) (c_api_IP.enc (⟨s8.V, (Vec.s s8.A s7 (IntKind.wrap .u8 s22))⟩ : api_IP)) (owed := []) Ty5 rfl (Upd.trans (At_api_IP_A s8) (Upd.arr hb28 hb29) (Up_api_IP_A s8 (Vec.s s8.A s7 (IntKind.wrap .u8 s22)))) rfl ?_
  refine OW.nil ?_
  refine OJ.nil ?_
  refine SJ.inBlock ?_
  refine SJ.rg 3 ?_
  refine OJ.go 3 [(8, .int .i64 (IntKind.wrap .i64 (s7 + 1))), (31, .int .i64 (IntKind.wrap .i64 (s7 + 1))), (30, .int .i64 s7)] ?_
  refine OJ.nil ?_
  exact SJ.at_ [1, 2, 4, 7, 8] rfl
noncomputable def weirref4_Mask.F2 (a0 : api_IP) (a1 : Int) (b1 : Nat) (b2 : Nat) (b6 : Nat) (s7 : Int) (s8 : api_IP) : (LS (Int × Int) (LS (Int × api_IP) (api_IP × Int))) → Reach := loopF [.inLoop (c1 (c1 (c2 (c1 (c2 (c1 (c1 (c2 (c1 (c1 (c2 (c1 (c2 (c2 (c2 (c2 (c2 weirref4_Mask.B))))))))))))))))), .inBlock 2, .code (c2 (c2 (c1 (c1 (c2 (c1 (c1 (c2 (c1 (c2 (c2 (c2 (c2 (c2 weirref4_Mask.B)))))))))))))), .inBlock 1, .code (c2 (c2 (c1 (c1 (c2 (c1 (c2 (c2 (c2 (c2 (c2 weirref4_Mask.B))))))))))), .inLoop (c1 (c1 (c2 (c1 (c2 (c2 (c2 (c2 (c2 weirref4_Mask.B))))))))), .inBlock 0, .code (c2 (c2 (c2 (c2 (c2 (c2 weirref4_Mask.B))))))] (fun s_ : (Int × Int) => [(1, .int .i64 a1), (2, .pointer (some (pt b1 0))), (4, .pointer (some (pt b2 0))), (7, .pointer (some (pt b6 0))), (8, .int .i64 s7), (9, .int .i64 s_.1), (10, .int .i64 s_.2)]) (fun s_ : (Int × Int) => [(b6, c_api_IP.enc s8), (b2, c_api_IP.enc z_api_IP), (b1, c_api_IP.enc a0)]) (weirref4_Mask.F1 a0 a1 b1 b2 b6)
noncomputable def weirref4_Mask.L2 (a0 : api_IP) (a1 : Int) (s7 : Int) (s8 : api_IP) (s22 : Int) (s23 : Int) : M (LS (Int × Int) (LS (Int × api_IP) (api_IP × Int))) :=
  if s23 < (IntKind.wrap .i64 ((IntKind.wrap .i64 (8 * s7)) + 8)) then
    if s23 < a1 then
      weirref4_bit a0 s23 >>= fun r31 =>
      pure (LS.next (IntKind.wrap .i64 ((IntKind.wrap .i64 (2 * s22)) + r31), IntKind.wrap .i64 (s23 + 1)))
    else
      pure (LS.next (IntKind.wrap .i64 (2 * s22), IntKind.wrap .i64 (s23 + 1)))
  else
    (weirref4_Mask.K1 s7 s8 s22) >>= fun b => pure (LS.done b)
theorem weirref4_Mask.L2_ok (a0 : api_IP) (a1 : Int) (b1 : Nat) (b2 : Nat) (b6 : Nat) (s7 : Int) (s8 : api_IP) (s22 : Int) (s23 : Int) :
    SJ weirref4_Mask.cx [.code (c1 (c1 (c2 (c1 (c2 (c1 (c1 (c2 (c1 (c1 (c2 (c1 (c2 (c2 (c2 (c2 (c2 weirref4_Mask.B))))))))))))))))), .inLoop (c1 (c1 (c2 (c1 (c2 (c1 (c1 (c2 (c1 (c1 (c2 (c1 (c2 (c2 (c2 (c2 (c2 weirref4_Mask.B))))))))))))))))), .inBlock 2, .code (c2 (c2 (c1 (c1 (c2 (c1 (c1 (c2 (c1 (c2 (c2 (c2 (c2 (c2 weirref4_Mask.B)))))))))))))), .inBlock 1, .code (c2 (c2 (c1 (c1 (c2 (c1 (c2 (c2 (c2 (c2 (c2 weirref4_Mask.B))))))))))), .inLoop (c1 (c1 (c2 (c1 (c2 (c2 (c2 (c2 (c2 weirref4_Mask.B))))))))), .inBlock 0, .code (c2 (c2 (c2 (c2 (c2 (c2 weirref4_Mask.B))))))] [(1, .int .i64 a1), (2, .pointer (some (pt b1 0))), (4, .pointer (some (pt b2 0))), (7, .pointer (some (pt b6 0))), (8, .int .i64 s7), (9, .int .i64 s22), (10, .int .i64 s23)] [(b6, c_api_IP.enc s8), (b2, c_api_IP.enc z_api_IP), (b1, c_api_IP.enc a0)] (weirref4_Mask.L2 a0 a1 s7 s8 s22 s23) (weirref4_Mask.F2 a0 a1 b1 b2 b6 s7 s8) := by
  unfold weirref4_Mask.L2
  refine SJ.seq ?_
  refine SJ.sr 5 ?_
  refine OJ.go 5 [(38, .bool (decide (s23 < (IntKind.wrap .i64 ((IntKind.wrap .i64 (8 * s7)) + 8))))), (37, .int .i64 (IntKind.wrap .i64 ((IntKind.wrap .i64 (8 * s7)) + 8))), (36, .int .i64 (IntKind.wrap .i64 (8 * s7))), (35, .int .i64 s7), (34, .int .i64 s23)] ?_
  refine OJ.nil ?_
  refine SJ.cond (t := (.tmp 38)) (b := decide (s23 < (IntKind.wrap .i64 ((IntKind.wrap .i64 (8 * s7)) + 8)))) decide_eq_true_iff (fun hc33 => ?_) (fun hc33 => ?_)
  · refine SJ.skip ?_
    refine SJ.seq ?_
    refine SJ.block (id := 3) ?_
    refine SJ.sr 3 ?_
    refine OJ.go 3 [(9, .int .i64 (IntKind.wrap .i64 (2 * s22))), (42, .int .i64 (IntKind.wrap .i64 (2 * s22))), (41, .int .i64 s22)] ?_
    refine OJ.nil ?_
    refine SJ.sr 3 ?_
    refine OJ.go 3 [(45, .bool (decide (s23 < a1))), (44, .int .i64 a1), (43, .int .i64 s23)] ?_
    refine OJ.nil ?_
    refine SJ.cond (t := (.tmp 45)) (b := decide (s23 < a1)) decide_eq_true_iff (fun hc32 => ?_) (fun hc32 => ?_)
    · refine SJ.rg 6 ?_
      refine OJ.go 1 [(46, .int .i64 (IntKind.wrap .i64 (2 * s22)))] ?_
      refine OJ.kld (d := 47) (y := .tmp 2) (cd := c_api_IP) (j := 2) (b := b1) (o := 0) a0 (pend2 := []) Ty28 rfl (At.whole _) rfl ?_
      refine OJ.go 1 [(48, .int .i64 s23)] ?_
      refine OJ.call (d := 49) (g := 82) (ats := #[28, 3]) (args := [.tmp 47, .tmp 48]) (owed := []) F82 (weirref4_bit_ok a0 s23) (fun r31 => ?_)
      refine OW.nil ?_
      refine OJ.go 2 [(9, .int .i64 (IntKind.wrap .i64 ((IntKind.wrap .i64 (2 * s22)) + r31))), (50, .int .i64 (IntKind.wrap .i64 ((IntKind.wrap .i64 (2 * s22)) + r31)))] ?_
      refine OJ.nil ?_
      refine SJ.inBlock ?_
      refine SJ.rg 3 ?_
      refine OJ.go 3 [(10, .int .i64 (IntKind.wrap .i64 (s23 + 1))), (40, .int .i64 (IntKind.wrap .i64 (s23 + 1))), (39, .int .i64 s23)] ?_
      refine OJ.nil ?_
      exact SJ.at_ [1, 2, 4, 7, 8, 9, 10] rfl
    · refine SJ.skip ?_
      refine SJ.inBlock ?_
      refine SJ.rg 3 ?_
      refine OJ.go 3 [(10, .int .i64 (IntKind.wrap .i64 (s23 + 1))), (40, .int .i64 (IntKind.wrap .i64 (s23 + 1))), (39, .int .i64 s23)] ?_
      refine OJ.nil ?_
      exact SJ.at_ [1, 2, 4, 7, 8, 9, 10] rfl
  · refine SJ.exit (id := 2) (by rfl) ?_
    refine SJ.less [1, 2, 4, 7, 8, 9] (m' := [(1, .int .i64 a1), (2, .pointer (some (pt b1 0))), (4, .pointer (some (pt b2 0))), (7, .pointer (some (pt b6 0))), (8, .int .i64 s7), (9, .int .i64 s22)]) ?_
    refine SJ.done ?_
    exact weirref4_Mask.K1_ok a0 a1 b1 b2 b6 s7 s8 s22
noncomputable def weirref4_Mask.L1 (a0 : api_IP) (a1 : Int) (s7 : Int) (s8 : api_IP) : M (LS (Int × api_IP) (api_IP × Int)) :=
  if s7 < 16 then
    loopM (fun s_ : (Int × Int) => weirref4_Mask.L2 a0 a1 s7 s8 s_.1 s_.2) (0, IntKind.wrap .i64 (8 * s7))
  else
    pure (LS.done (s8, 0))
theorem weirref4_Mask.L1_ok (a0 : api_IP) (a1 : Int) (b1 : Nat) (b2 : Nat) (b6 : Nat) (s7 : Int) (s8 : api_IP) :
    SJ weirref4_Mask.cx [.code (c1 (c1 (c2 (c1 (c2 (c2 (c2 (c2 (c2 weirref4_Mask.B))))))))), .inLoop (c1 (c1 (c2 (c1 (c2 (c2 (c2 (c2 (c2 weirref4_Mask.B))))))))), .inBlock 0, .code (c2 (c2 (c2 (c2 (c2 (c2 weirref4_Mask.B))))))] [(1, .int .i64 a1), (2, .pointer (some (pt b1 0))), (4, .pointer (some (pt b2 0))), (7, .pointer (some (pt b6 0))), (8, .int .i64 s7)] [(b6, c_api_IP.enc s8), (b2, c_api_IP.enc z_api_IP), (b1, c_api_IP.enc a0)] (weirref4_Mask.L1 a0 a1 s7 s8) (weirref4_Mask.F1 a0 a1 b1 b2 b6) := by
  unfold weirref4_Mask.L1
  refine SJ.seq ?_
  refine SJ.sr 2 ?_
  refine OJ.go 2 [(29, .bool (decide (s7 < 16))), (28, .int .i64 s7)] ?_
  refine OJ.nil ?_
  refine SJ.cond (t := (.tmp 29)) (b := decide (s7 < 16)) decide_eq_true_iff (fun hc34 => ?_) (fun hc34 => ?_)
  · refine SJ.skip ?_
    refine SJ.seq ?_
    refine SJ.block (id := 1) ?_
    refine SJ.sr 1 ?_
    refine OJ.go 1 [(9, .int .i64 0)] ?_
    refine OJ.nil ?_
    refine SJ.seq ?_
    refine SJ.sr 3 ?_
    refine OJ.go 3 [(10, .int .i64 (IntKind.wrap .i64 (8 * s7))), (33, .int .i64 (IntKind.wrap .i64 (8 * s7))), (32, .int .i64 s7)] ?_
    refine OJ.nil ?_
    refine SJ.block (id := 2) ?_
    exact SJ.loop (fun s_ : (Int × Int) => [(1, .int .i64 a1), (2, .pointer (some (pt b1 0))), (4, .pointer (some (pt b2 0))), (7, .pointer (some (pt b6 0))), (8, .int .i64 s7), (9, .int .i64 s_.1), (10, .int .i64 s_.2)]) (fun s_ : (Int × Int) => [(b6, c_api_IP.enc s8), (b2, c_api_IP.enc z_api_IP), (b1, c_api_IP.enc a0)]) [1, 2, 4, 7, 8, 9, 10] rfl (fun _ _ => rfl) (fun s_ => weirref4_Mask.L2_ok a0 a1 b1 b2 b6 s7 s8 s_.1 s_.2)
  · refine SJ.exit (id := 0) (by rfl) ?_
    refine SJ.sr 3 ?_
    refine OJ.kld (d := 56) (y := .tmp 7) (cd := c_api_IP) (j := 0) (b := b6) (o := 0) s8 (pend2 := []) Ty28 rfl (At.whole _) rfl ?_
    refine OJ.kst (y := .tmp 4) (z := .tmp 56) (cd := c_api_IP) (u := s8) (j := 1) (b := b2) (o := 0) (c_api_IP.enc s8) (owed := []) Ty28 rfl (Upd.whole ((Cod.len _ _).trans (Cod.len _ _).symm)) rfl ?_
    refine OW.nil ?_
    refine OJ.go 1 [(5, .int .i64 0)] ?_
    refine OJ.nil ?_
    exact SJ.ret rfl (Res.run (ys := [c_api_IP.val s8, .int .i64 0]) (.cell (j := 1) (b := b2) (cd := c_api_IP) (q := s8) (by kernel_rfl) rfl Ty28 (At.whole _) (.tmp (by kernel_rfl) .nil)) rfl)
noncomputable def weirref4_Mask (a0 : api_IP) (a1 : Int) : M (api_IP × Int) :=
  slot 28 >>= fun b1 =>
  slot 28 >>= fun b2 =>
  weirref4_Valid a0 >>= fun r3 =>
  if ¬ (r3 = true) then
    pure (z_api_IP, 40)
  else
    (if a1 < 0 then
        pure true
      else
        weirref4_width a0 >>= fun r4 =>
        pure (decide (a1 > r4))) >>= fun y5 =>
    if y5 = true then
      pure (z_api_IP, 45)
    else
      slot 28 >>= fun b6 =>
      loopM (fun s_ : (Int × api_IP) => weirref4_Mask.L1 a0 a1 s_.1 s_.2) (0, (⟨a0.V, z_api_IP.A⟩ : api_IP))
theorem weirref4_Mask_ok (a0 : api_IP) (a1 : Int) : Ref Tryz.prog 50 [c_api_IP.val a0, .int .i64 a1] (weirref4_Mask a0 a1) weirref4_Mask.out := by
  refine Ref.of (cd := weirref4_Mask.B) Tryz.func50 ?_
  show SJ weirref4_Mask.cx [.code weirref4_Mask.B] [(0, c_api_IP.val a0), (1, .int .i64 a1)] [] (weirref4_Mask a0 a1) weirref4_Mask.F0
  unfold weirref4_Mask
  refine SJ.sr 3 ?_
  refine OJ.slotOf (d := 2) (op := (.box 28 (.tmp 0))) (cd := c_api_IP) (u := a0) (owed := []) (box_run (by kernel_rfl)) (fun b1 => ?_)
  refine OW.nil ?_
  refine OJ.slotOf (d := 4) (op := (.alloc 28)) (cd := c_api_IP) (u := z_api_IP) (owed := []) (alloc_run Ty28) (fun b2 => ?_)
  refine OW.nil ?_
  refine OJ.go 1 [(5, .int .i64 0)] ?_
  refine OJ.nil ?_
  refine SJ.sr 3 ?_
  refine OJ.kld (d := 11) (y := .tmp 2) (cd := c_api_IP) (j := 1) (b := b1) (o := 0) a0 (pend2 := []) Ty28 rfl (At.whole _) rfl ?_
  refine OJ.call (d := 12) (g := 46) (ats := #[28]) (args := [.tmp 11]) (owed := []) F46 (weirref4_Valid_ok a0) (fun r3 => ?_)
  refine OW.nil ?_
  refine OJ.go 1 [(6, .bool r3)] ?_
  refine OJ.nil ?_
  refine SJ.seq ?_
  refine SJ.sr 2 ?_
  refine OJ.go 2 [(14, .bool (!r3)), (13, .bool r3)] ?_
  refine OJ.nil ?_
  refine SJ.cond (t := (.tmp 14)) (b := (!r3)) (bnot_iff Iff.rfl) (fun hc36 => ?_) (fun hc36 => ?_)
  · refine SJ.sr 3 ?_
    refine OJ.build (d := 15) (T := 28) (parts := []) (ps := []) (cd := c_api_IP) (z0 := z_api_IP) z_api_IP Ty28 rfl Filled.nil ?_
    refine OJ.kst (y := .tmp 4) (z := .tmp 15) (cd := c_api_IP) (u := z_api_IP) (j := 0) (b := b2) (o := 0) (c_api_IP.enc z_api_IP) (owed := []) Ty28 rfl (Upd.whole ((Cod.len _ _).trans (Cod.len _ _).symm)) rfl ?_
    refine OW.nil ?_
    refine OJ.go 1 [(5, .int .i64 40)] ?_
    refine OJ.nil ?_
    exact SJ.ret rfl (Res.run (ys := [c_api_IP.val z_api_IP, .int .i64 40]) (.cell (j := 0) (b := b2) (cd := c_api_IP) (q := z_api_IP) (by kernel_rfl) rfl Ty28 (At.whole _) (.tmp (by kernel_rfl) .nil)) rfl)
  · refine SJ.skip ?_
    refine SJ.seq ?_
    refine SJ.sr 8 ?_
    refine OJ.go 3 [(18, .bool (decide (a1 < 0))), (17, .bool (decide (a1 < 0))), (16, .int .i64 a1)] ?_
    refine OJ.join (b := decide (a1 < 0)) [3, 4, 5, 6, 7] [] [1, 2, 4, 23] (fun y5 => [(1, .int .i64 a1), (2, .pointer (some (pt b1 0))), (4, .pointer (some (pt b2 0))), (23, .bool y5)]) [] [] (t := 18) decide_eq_true_iff (fun hp_ => ?_) (fun hp_ => ?_) (fun _ _ _ _ _ _ h_ => h_) (fun y5 => ?_)
    · refine OJ.go 5 [(23, .bool true), (22, undef), (21, undef), (20, undef), (19, undef)] ?_
      exact OJ.nil ⟨(Cov.mem Cov.nil), rfl, _, rfl, by kernel_rfl⟩
    · refine OJ.go 1 [(19, .int .i64 a1)] ?_
      refine OJ.kld (d := 20) (y := .tmp 2) (cd := c_api_IP) (j := 1) (b := b1) (o := 0) a0 (pend2 := []) Ty28 rfl (At.whole _) rfl ?_
      refine OJ.call (d := 21) (g := 73) (ats := #[28]) (args := [.tmp 20]) (owed := []) F73 (weirref4_width_ok a0) (fun r4 => ?_)
      refine OW.nil ?_
      refine OJ.go 2 [(23, .bool (decide (a1 > r4))), (22, .bool (decide (a1 > r4)))] ?_
      exact OJ.nil ⟨(Cov.mem Cov.nil), rfl, _, rfl, by kernel_rfl⟩
    · refine OJ.nil ?_
      refine SJ.cond (t := (.tmp 23)) (b := y5) Iff.rfl (fun hc35 => ?_) (fun hc35 => ?_)
      · refine SJ.sr 3 ?_
        refine OJ.build (d := 24) (T := 28) (parts := []) (ps := []) (cd := c_api_IP) (z0 := z_api_IP) z_api_IP Ty28 rfl Filled.nil ?_
        refine OJ.kst (y := .tmp 4) (z := .tmp 24) (cd := c_api_IP) (u := z_api_IP) (j := 0) (b := b2) (o := 0) (c_api_IP.enc z_api_IP) (owed := []) Ty28 rfl (Upd.whole ((Cod.len _ _).trans (Cod.len _ _).symm)) rfl ?_
        refine OW.nil ?_
        refine OJ.go 1 [(5, .int .i64 45)] ?_
        refine OJ.nil ?_
        exact SJ.ret rfl (Res.run (ys := [c_api_IP.val z_api_IP, .int .i64 45]) (.cell (j := 0) (b := b2) (cd := c_api_IP) (q := z_api_IP) (by kernel_rfl) rfl Ty28 (At.whole _) (.tmp (by kernel_rfl) .nil)) rfl)
      · refine SJ.skip ?_
        refine SJ.sr 5 ?_
        refine OJ.go 1 [(25, .pointer (some (pt b1 0)))] ?_
        refine OJ.kld (d := 26) (y := .tmp 25) (cd := (cI .i64)) (j := 1) (b := b1) (o := 0) a0.V (pend2 := []) Ty3 rfl (At_api_IP_V a0) rfl ?_
        refine OJ.build (d := 27) (T := 28) (parts := [(0, .tmp 26)]) (ps := [(0, (cI .i64).val a0.V)]) (cd := c_api_IP) (z0 := z_api_IP) (⟨a0.V, z_api_IP.A⟩ : api_IP) Ty28 rfl (Filled.cons (cd := (cI .i64)) (q := a0.V) (o := 0) (by kernel_rfl) (Up_api_IP_V z_api_IP a0.V) Filled.nil) ?_
        refine OJ.slotOf (d := 7) (op := (.alloc 28)) (cd := c_api_IP) (u := z_api_IP) (owed := []) (alloc_run Ty28) (fun b6 => ?_)
        refine OW.nil ?_
        refine OJ.kst (y := .tmp 7) (z := .tmp 27) (cd := c_api_IP) (u := (⟨a0.V, z_api_IP.A⟩ : api_IP)) (j := 0) (b := b6) (o := 0) (c_api_IP.enc (⟨a0.V, z_api_IP.A⟩ : api_IP)) (owed := []) Ty28 rfl (Upd.whole ((Cod.len _ _).trans (Cod.len _ _).symm)) rfl ?_
        refine OW.nil ?_
        refine OJ.nil ?_
        refine SJ.seq ?_
        refine SJ.sr 1 ?_
        refine OJ.go 1 [(8, .int .i64 0)] ?_
        refine OJ.nil ?_
        refine SJ.block (id := 0) ?_
        exact SJ.loop (fun s_ : (Int × api_IP) => [(1, .int .i64 a1), (2, .pointer (some (pt b1 0))), (4, .pointer (some (pt b2 0))), (7, .pointer (some (pt b6 0))), (8, .int .i64 s_.1)]) (fun s_ : (Int × api_IP) => [(b6, c_api_IP.enc s_.2), (b2, c_api_IP.enc z_api_IP), (b1, c_api_IP.enc a0)]) [1, 2, 4, 7, 8] rfl (fun _ _ => rfl) (fun s_ => weirref4_Mask.L1_ok a0 a1 b1 b2 b6 s_.1 s_.2)

/-! ### weir/addr.Contains: function 51 -/
noncomputable def addr_Contains.B : Code := (Tryz.f51.body).getD .skip
noncomputable def addr_Contains.cx : Fx := ⟨Tryz.prog, 51, Tryz.f51⟩
noncomputable def addr_Contains.out (r_ : Bool) : Value := .bool r_
noncomputable def addr_Contains.F0 (r_ : Bool) : Reach := .ret (addr_Contains.out r_)
noncomputable def addr_Contains (a0 : api_Prefix) (a1 : api_IP) : M Bool :=
  slot 38 >>= fun b1 =>
  slot 28 >>= fun b2 =>
  addr_ValidPrefix a0 >>= fun r3 =>
  (if r3 ≠ 0 then
      pure true
    else
      addr_Valid a1 >>= fun r4 =>
      pure (!r4)) >>= fun y5 =>
  (if y5 = true then
      pure true
    else
      pure (a0.IP.V != a1.V)) >>= fun y6 =>
  if y6 = true then
    pure false
  else
    draw >>= fun _ =>
    addr_masked a1.A a0.Len >>= fun r7 =>
    pure (eqv r7 a0.IP.A)
theorem addr_Contains_ok (a0 : api_Prefix) (a1 : api_IP) : Ref Tryz.prog 51 [c_api_Prefix.val a0, c_api_IP.val a1] (addr_Contains a0 a1) addr_Contains.out := by
  refine Ref.of (cd := addr_Contains.B) Tryz.func51 ?_
  show SJ addr_Contains.cx [.code addr_Contains.B] [(0, c_api_Prefix.val a0), (1, c_api_IP.val a1)] [] (addr_Contains a0 a1) addr_Contains.F0
  unfold addr_Contains
  refine SJ.sr 3 ?_
  refine OJ.slotOf (d := 2) (op := (.box 38 (.tmp 0))) (cd := c_api_Prefix) (u := a0) (owed := []) (box_run (by kernel_rfl)) (fun b1 => ?_)
  refine OW.nil ?_
  refine OJ.slotOf (d := 3) (op := (.box 28 (.tmp 1))) (cd := c_api_IP) (u := a1) (owed := []) (box_run (by kernel_rfl)) (fun b2 => ?_)
  refine OW.nil ?_
  refine OJ.go 1 [(4, .bool false)] ?_
  refine OJ.nil ?_
  refine SJ.seq ?_
  refine SJ.sr 16 ?_
  refine OJ.kld (d := 5) (y := .tmp 2) (cd := c_api_Prefix) (j := 1) (b := b1) (o := 0) a0 (pend2 := []) Ty38 rfl (At.whole _) rfl ?_
  refine OJ.call (d := 6) (g := 47) (ats := #[38]) (args := [.tmp 5]) (owed := []) F47 (addr_ValidPrefix_ok a0) (fun r3 => ?_)
  refine OW.nil ?_
  refine OJ.go 2 [(8, .bool (r3 != 0)), (7, .bool (r3 != 0))] ?_
  refine OJ.join (b := (r3 != 0)) [4, 5, 6, 7] [8, 9, 10, 11, 12, 13, 14, 15] [2, 3, 12] (fun y5 => [(2, .pointer (some (pt b1 0))), (3, .pointer (some (pt b2 0))), (12, .bool y5)]) [] [] (t := 8) bne_iff_ne (fun hp_ => ?_) (fun hp_ => ?_) (fun _ _ _ _ _ _ h_ => h_) (fun y5 => ?_)
  · refine OJ.go 4 [(12, .bool true), (11, undef), (10, undef), (9, undef)] ?_
    exact OJ.nil ⟨(Cov.mem Cov.nil), rfl, _, rfl, by kernel_rfl⟩
  · refine OJ.kld (d := 9) (y := .tmp 3) (cd := c_api_IP) (j := 0) (b := b2) (o := 0) a1 (pend2 := []) Ty28 rfl (At.whole _) rfl ?_
    refine OJ.call (d := 10) (g := 16) (ats := #[28]) (args := [.tmp 9]) (owed := []) F16 (addr_Valid_ok a1) (fun r4 => ?_)
    refine OW.nil ?_
    refine OJ.go 2 [(12, .bool (!r4)), (11, .bool (!r4))] ?_
    exact OJ.nil ⟨(Cov.mem Cov.nil), rfl, _, rfl, by kernel_rfl⟩
  · refine OJ.go 1 [(13, .bool y5)] ?_
    refine OJ.join (b := y5) [9, 10, 11, 12, 13, 14, 15] [] [2, 3, 20] (fun y6 => [(2, .pointer (some (pt b1 0))), (3, .pointer (some (pt b2 0))), (20, .bool y6)]) [] [] (t := 13) Iff.rfl (fun hp_ => ?_) (fun hp_ => ?_) (fun _ _ _ _ _ _ h_ => h_) (fun y6 => ?_)
    · refine OJ.go 7 [(20, .bool true), (19, undef), (18, undef), (17, undef), (16, undef), (15, undef), (14, undef)] ?_
      exact OJ.nil ⟨(Cov.mem Cov.nil), rfl, _, rfl, by kernel_rfl⟩
    · refine OJ.go 2 [(15, .pointer (some (pt b1 0))), (14, .pointer (some (pt b1 0)))] ?_
      refine OJ.kld (d := 16) (y := .tmp 15) (cd := (cI .i64)) (j := 1) (b := b1) (o := 0) a0.IP.V (pend2 := []) Ty3 rfl (At.trans (At_api_Prefix_IP a0) (At_api_IP_V a0.IP)) rfl ?_
      refine OJ.go 1 [(17, .pointer (some (pt b2 0)))] ?_
      refine OJ.kld (d := 18) (y := .tmp 17) (cd := (cI .i64)) (j := 0) (b := b2) (o := 0) a1.V (pend2 := []) Ty3 rfl (At_api_IP_V a1) rfl ?_
      refine OJ.go 2 [(20, .bool (a0.IP.V != a1.V)), (19, .bool (a0.IP.V != a1.V))] ?_
      exact OJ.nil ⟨(Cov.mem Cov.nil), rfl, _, rfl, by kernel_rfl⟩
    · refine OJ.nil ?_
      refine SJ.cond (t := (.tmp 20)) (b := y6) Iff.rfl (fun hc8 => ?_) (fun hc8 => ?_)
      · refine SJ.sr 1 ?_
        refine OJ.go 1 [(4, .bool false)] ?_
        refine OJ.nil ?_
        exact SJ.ret rfl (Res.run (ys := [.bool false]) (.tmp (by kernel_rfl) .nil) rfl)
      · refine SJ.skip ?_
        refine SJ.seq ?_
        refine SJ.draw (id := 3) (kd := [0, 1, 0, 1, 2, 0, 0, 1, 0, 0]) (bef := [0, 1, 0, 4, 15, 0, 32, 96, 255, 511]) (ord := [0, 1, 2, 3, 5, 6, 7, 4, 8, 9]) mixed ?_
        refine OJ.go 1 [(21, .pointer (some (pt b2 1)))] ?_
        refine OJ.kld (d := 22) (y := .tmp 21) (cd := ((cI .u8).arr 16)) (j := 0) (b := b2) (o := 1) a1.A (pend2 := [⟨1, 26, (pt b2 1), ((cI .u8).arr 16).val a1.A⟩]) Ty26 rfl (At_api_IP_A a1) rfl ?_
        refine OJ.go 1 [(23, .pointer (some (pt b1 17)))] ?_
        refine OJ.kld (d := 24) (y := .tmp 23) (cd := (cI .i64)) (j := 1) (b := b1) (o := 17) a0.Len (pend2 := [⟨3, 3, (pt b1 17), (cI .i64).val a0.Len⟩, ⟨1, 26, (pt b2 1), ((cI .u8).arr 16).val a1.A⟩]) Ty3 rfl (At_api_Prefix_Len a0) rfl ?_
        refine OJ.go 2 [(27, .pointer (some (pt b1 1))), (26, .pointer (some (pt b1 0)))] ?_
        refine OJ.kld (d := 28) (y := .tmp 27) (cd := ((cI .u8).arr 16)) (j := 1) (b := b1) (o := 1) a0.IP.A (pend2 := [⟨7, 26, (pt b1 1), ((cI .u8).arr 16).val a0.IP.A⟩, ⟨3, 3, (pt b1 17), (cI .i64).val a0.Len⟩, ⟨1, 26, (pt b2 1), ((cI .u8).arr 16).val a1.A⟩]) Ty26 rfl (At.trans (At_api_Prefix_IP a0) (At_api_IP_A a0.IP)) rfl ?_
        refine OJ.call (d := 25) (g := 20) (ats := #[26, 3]) (args := [.tmp 22, .tmp 24]) (owed := [⟨7, 26, (pt b1 1), ((cI .u8).arr 16).val a0.IP.A⟩]) F20 (addr_masked_ok a1.A a0.Len) (fun r7 => ?_)
        refine OW.known (j := 1) (q := a0.IP.A) Ty26 rfl (At.trans (At_api_Prefix_IP a0) (At_api_IP_A a0.IP)) ?_
        refine OW.nil ?_
        refine OJ.eql (d := 29) (T := 26) (yT := 26) (y := .tmp 25) (z := .tmp 28) (cd := ((cI .u8).arr 16)) (p := r7) (q := a0.IP.A) rfl Eq26 ?_
        refine OJ.go 1 [(4, .bool (eqv r7 a0.IP.A))] ?_
        refine OJ.nil ?_
        exact SJ.ret rfl (Res.run (ys := [.bool (eqv r7 a0.IP.A)]) (.tmp (by kernel_rfl) .nil) rfl)

/-! ### weir/weirref4.Contains: function 52 -/
noncomputable def weirref4_Contains.B : Code := (Tryz.f52.body).getD .skip
noncomputable def weirref4_Contains.cx : Fx := ⟨Tryz.prog, 52, Tryz.f52⟩
noncomputable def weirref4_Contains.out (r_ : Bool) : Value := .bool r_
noncomputable def weirref4_Contains.F0 (r_ : Bool) : Reach := .ret (weirref4_Contains.out r_)
noncomputable def weirref4_Contains.F1 (a0 : api_Prefix) (a1 : api_IP) (b1 : Nat) (b2 : Nat) : (LS Int Bool) → Reach := loopF [.inLoop (c1 (c1 (c2 (c1 (c2 (c2 (c2 (c2 weirref4_Contains.B)))))))), .inBlock 0, .code (c2 (c2 (c2 (c2 (c2 weirref4_Contains.B)))))] (fun s_ : Int => [(2, .pointer (some (pt b1 0))), (3, .pointer (some (pt b2 0))), (7, .int .i64 s_)]) (fun s_ : Int => [(b2, c_api_IP.enc a1), (b1, c_api_Prefix.enc a0)]) weirref4_Contains.F0
noncomputable def weirref4_Contains.L1 (a0 : api_Prefix) (a1 : api_IP) (s7 : Int) : M (LS Int Bool) :=
  if s7 < a0.Len then
    draw >>= fun _ =>
    weirref4_bit a0.IP s7 >>= fun r12 =>
    weirref4_bit a1 s7 >>= fun r13 =>
    if r12 ≠ r13 then
      pure (LS.done false)
    else
      pure (LS.next (IntKind.wrap .i64 (s7 + 1)))
  else
    pure (LS.done true)
theorem weirref4_Contains.L1_ok (a0 : api_Prefix) (a1 : api_IP) (b1 : Nat) (b2 : Nat) (s7 : Int) :
    SJ weirref4_Contains.cx [.code (c1 (c1 (c2 (c1 (c2 (c2 (c2 (c2 weirref4_Contains.B)))))))), .inLoop (c1 (c1 (c2 (c1 (c2 (c2 (c2 (c2 weirref4_Contains.B)))))))), .inBlock 0, .code (c2 (c2 (c2 (c2 (c2 weirref4_Contains.B)))))] [(2, .pointer (some (pt b1 0))), (3, .pointer (some (pt b2 0))), (7, .int .i64 s7)] [(b2, c_api_IP.enc a1), (b1, c_api_Prefix.enc a0)] (weirref4_Contains.L1 a0 a1 s7) (weirref4_Contains.F1 a0 a1 b1 b2) := by
  unfold weirref4_Contains.L1
  refine SJ.seq ?_
  refine SJ.sr 4 ?_
  refine OJ.go 2 [(27, .pointer (some (pt b1 17))), (26, .int .i64 s7)] ?_
  refine OJ.kld (d := 28) (y := .tmp 27) (cd := (cI .i64)) (j := 1) (b := b1) (o := 17) a0.Len (pend2 := []) Ty3 rfl (At_api_Prefix_Len a0) rfl ?_
  refine OJ.go 1 [(29, .bool (decide (s7 < a0.Len)))] ?_
  refine OJ.nil ?_
  refine SJ.cond (t := (.tmp 29)) (b := decide (s7 < a0.Len)) decide_eq_true_iff (fun hc15 => ?_) (fun hc15 => ?_)
  · refine SJ.skip ?_
    refine SJ.seq ?_
    refine SJ.block (id := 1) ?_
    refine SJ.seq ?_
    refine SJ.draw (id := 8) (kd := [0, 1, 0, 2, 1, 0, 2, 0]) (bef := [0, 1, 0, 7, 0, 0, 63, 127]) (ord := [0, 1, 2, 4, 3, 5, 6, 7]) mixed ?_
    refine OJ.go 1 [(32, .pointer (some (pt b1 0)))] ?_
    refine OJ.kld (d := 33) (y := .tmp 32) (cd := c_api_IP) (j := 1) (b := b1) (o := 0) a0.IP (pend2 := [⟨1, 28, (pt b1 0), c_api_IP.val a0.IP⟩]) Ty28 rfl (At_api_Prefix_IP a0) rfl ?_
    refine OJ.go 1 [(34, .int .i64 s7)] ?_
    refine OJ.kld (d := 36) (y := .tmp 3) (cd := c_api_IP) (j := 0) (b := b2) (o := 0) a1 (pend2 := [⟨4, 28, (pt b2 0), c_api_IP.val a1⟩, ⟨1, 28, (pt b1 0), c_api_IP.val a0.IP⟩]) Ty28 rfl (At.whole _) rfl ?_
    refine OJ.call (d := 35) (g := 82) (ats := #[28, 3]) (args := [.tmp 33, .tmp 34]) (owed := [⟨4, 28, (pt b2 0), c_api_IP.val a1⟩]) F82 (weirref4_bit_ok a0.IP s7) (fun r12 => ?_)
    refine OW.known (j := 0) (q := a1) Ty28 rfl (At.whole _) ?_
    refine OW.nil ?_
    refine OJ.go 1 [(37, .int .i64 s7)] ?_
    refine OJ.call (d := 38) (g := 82) (ats := #[28, 3]) (args := [.tmp 36, .tmp 37]) (owed := []) F82 (weirref4_bit_ok a1 s7) (fun r13 => ?_)
    refine OW.nil ?_
    refine OJ.go 1 [(39, .bool (r12 != r13))] ?_
    refine OJ.nil ?_
    refine SJ.cond (t := (.tmp 39)) (b := (r12 != r13)) bne_iff_ne (fun hc14 => ?_) (fun hc14 => ?_)
    · refine SJ.sr 1 ?_
      refine OJ.go 1 [(4, .bool false)] ?_
      refine OJ.nil ?_
      exact SJ.ret rfl (Res.run (ys := [.bool false]) (.tmp (by kernel_rfl) .nil) rfl)
    · refine SJ.skip ?_
      refine SJ.inBlock ?_
      refine SJ.rg 3 ?_
      refine OJ.go 3 [(7, .int .i64 (IntKind.wrap .i64 (s7 + 1))), (31, .int .i64 (IntKind.wrap .i64 (s7 + 1))), (30, .int .i64 s7)] ?_
      refine OJ.nil ?_
      exact SJ.at_ [2, 3, 7] rfl
  · refine SJ.exit (id := 0) (by rfl) ?_
    refine SJ.sr 1 ?_
    refine OJ.go 1 [(4, .bool true)] ?_
    refine OJ.nil ?_
    exact SJ.ret rfl (Res.run (ys := [.bool true]) (.tmp (by kernel_rfl) .nil) rfl)
noncomputable def weirref4_Contains (a0 : api_Prefix) (a1 : api_IP) : M Bool :=
  slot 38 >>= fun b1 =>
  slot 28 >>= fun b2 =>
  weirref4_ValidPrefix a0 >>= fun r3 =>
  weirref4_Valid a1 >>= fun r4 =>
  (if r3 ≠ 0 then
      pure true
    else
      pure (!r4)) >>= fun y5 =>
  (if y5 = true then
      pure true
    else
      pure (a0.IP.V != a1.V)) >>= fun y6 =>
  if y6 = true then
    pure false
  else
    loopM (fun s_ : Int => weirref4_Contains.L1 a0 a1 s_) 0
theorem weirref4_Contains_ok (a0 : api_Prefix) (a1 : api_IP) : Ref Tryz.prog 52 [c_api_Prefix.val a0, c_api_IP.val a1] (weirref4_Contains a0 a1) weirref4_Contains.out := by
  refine Ref.of (cd := weirref4_Contains.B) Tryz.func52 ?_
  show SJ weirref4_Contains.cx [.code weirref4_Contains.B] [(0, c_api_Prefix.val a0), (1, c_api_IP.val a1)] [] (weirref4_Contains a0 a1) weirref4_Contains.F0
  unfold weirref4_Contains
  refine SJ.sr 3 ?_
  refine OJ.slotOf (d := 2) (op := (.box 38 (.tmp 0))) (cd := c_api_Prefix) (u := a0) (owed := []) (box_run (by kernel_rfl)) (fun b1 => ?_)
  refine OW.nil ?_
  refine OJ.slotOf (d := 3) (op := (.box 28 (.tmp 1))) (cd := c_api_IP) (u := a1) (owed := []) (box_run (by kernel_rfl)) (fun b2 => ?_)
  refine OW.nil ?_
  refine OJ.go 1 [(4, .bool false)] ?_
  refine OJ.nil ?_
  refine SJ.sr 3 ?_
  refine OJ.kld (d := 8) (y := .tmp 2) (cd := c_api_Prefix) (j := 1) (b := b1) (o := 0) a0 (pend2 := []) Ty38 rfl (At.whole _) rfl ?_
  refine OJ.call (d := 9) (g := 48) (ats := #[38]) (args := [.tmp 8]) (owed := []) F48 (weirref4_ValidPrefix_ok a0) (fun r3 => ?_)
  refine OW.nil ?_
  refine OJ.go 1 [(5, .int .i64 r3)] ?_
  refine OJ.nil ?_
  refine SJ.sr 3 ?_
  refine OJ.kld (d := 10) (y := .tmp 3) (cd := c_api_IP) (j := 0) (b := b2) (o := 0) a1 (pend2 := []) Ty28 rfl (At.whole _) rfl ?_
  refine OJ.call (d := 11) (g := 46) (ats := #[28]) (args := [.tmp 10]) (owed := []) F46 (weirref4_Valid_ok a1) (fun r4 => ?_)
  refine OW.nil ?_
  refine OJ.go 1 [(6, .bool r4)] ?_
  refine OJ.nil ?_
  refine SJ.seq ?_
  refine SJ.sr 14 ?_
  refine OJ.go 3 [(14, .bool (r3 != 0)), (13, .bool (r3 != 0)), (12, .int .i64 r3)] ?_
  refine OJ.join (b := (r3 != 0)) [3, 4, 5] [6, 7, 8, 9, 10, 11, 12, 13] [2, 3, 17] (fun y5 => [(2, .pointer (some (pt b1 0))), (3, .pointer (some (pt b2 0))), (17, .bool y5)]) [] [] (t := 14) bne_iff_ne (fun hp_ => ?_) (fun hp_ => ?_) (fun _ _ _ _ _ _ h_ => h_) (fun y5 => ?_)
  · refine OJ.go 3 [(17, .bool true), (16, undef), (15, undef)] ?_
    exact OJ.nil ⟨(Cov.mem Cov.nil), rfl, _, rfl, by kernel_rfl⟩
  · refine OJ.go 3 [(17, .bool (!r4)), (16, .bool (!r4)), (15, .bool r4)] ?_
    exact OJ.nil ⟨(Cov.mem Cov.nil), rfl, _, rfl, by kernel_rfl⟩
  · refine OJ.go 1 [(18, .bool y5)] ?_
    refine OJ.join (b := y5) [7, 8, 9, 10, 11, 12, 13] [] [2, 3, 25] (fun y6 => [(2, .pointer (some (pt b1 0))), (3, .pointer (some (pt b2 0))), (25, .bool y6)]) [] [] (t := 18) Iff.rfl (fun hp_ => ?_) (fun hp_ => ?_) (fun _ _ _ _ _ _ h_ => h_) (fun y6 => ?_)
    · refine OJ.go 7 [(25, .bool true), (24, undef), (23, undef), (22, undef), (21, undef), (20, undef), (19, undef)] ?_
      exact OJ.nil ⟨(Cov.mem Cov.nil), rfl, _, rfl, by kernel_rfl⟩
    · refine OJ.go 2 [(20, .pointer (some (pt b1 0))), (19, .pointer (some (pt b1 0)))] ?_
      refine OJ.kld (d := 21) (y := .tmp 20) (cd := (cI .i64)) (j := 1) (b := b1) (o := 0) a0.IP.V (pend2 := []) Ty3 rfl (At.trans (At_api_Prefix_IP a0) (At_api_IP_V a0.IP)) rfl ?_
      refine OJ.go 1 [(22, .pointer (some (pt b2 0)))] ?_
      refine OJ.kld (d := 23) (y := .tmp 22) (cd := (cI .i64)) (j := 0) (b := b2) (o := 0) a1.V (pend2 := []) Ty3 rfl (At_api_IP_V a1) rfl ?_
      refine OJ.go 2 [(25, .bool (a0.IP.V != a1.V)), (24, .bool (a0.IP.V != a1.V))] ?_
      exact OJ.nil ⟨(Cov.mem Cov.nil), rfl, _, rfl, by kernel_rfl⟩
    · refine OJ.nil ?_
      refine SJ.cond (t := (.tmp 25)) (b := y6) Iff.rfl (fun hc16 => ?_) (fun hc16 => ?_)
      · refine SJ.sr 1 ?_
        refine OJ.go 1 [(4, .bool false)] ?_
        refine OJ.nil ?_
        exact SJ.ret rfl (Res.run (ys := [.bool false]) (.tmp (by kernel_rfl) .nil) rfl)
      · refine SJ.skip ?_
        refine SJ.seq ?_
        refine SJ.sr 1 ?_
        refine OJ.go 1 [(7, .int .i64 0)] ?_
        refine OJ.nil ?_
        refine SJ.block (id := 0) ?_
        exact SJ.loop (fun s_ : Int => [(2, .pointer (some (pt b1 0))), (3, .pointer (some (pt b2 0))), (7, .int .i64 s_)]) (fun s_ : Int => [(b2, c_api_IP.enc a1), (b1, c_api_Prefix.enc a0)]) [2, 3, 7] rfl (fun _ _ => rfl) (fun s_ => weirref4_Contains.L1_ok a0 a1 b1 b2 s_)

/-! ### weir/weirref4.of: function 83 -/
noncomputable def weirref4_of.B : Code := (Tryz.f83.body).getD .skip
noncomputable def weirref4_of.cx : Fx := ⟨Tryz.prog, 83, Tryz.f83⟩
noncomputable def weirref4_of.out (r_ : Bool) : Value := .bool r_
noncomputable def weirref4_of.F0 (r_ : Bool) : Reach := .ret (weirref4_of.out r_)
noncomputable def weirref4_of (a0 : ByteArray) (a1 : api_IP) : M Bool :=
  slot 28 >>= fun b1 =>
  weirref4_ParsePrefix a0 >>= fun r2 =>
  slot 38 >>= fun b3 =>
  weirref4_Contains r2.1 a1 >>= fun r4 =>
  pure r4
theorem weirref4_of_ok (a0 : ByteArray) (a1 : api_IP) : Ref Tryz.prog 83 [.string a0, c_api_IP.val a1] (weirref4_of a0 a1) weirref4_of.out := by
  refine Ref.of (cd := weirref4_of.B) Tryz.func83 ?_
  show SJ weirref4_of.cx [.code weirref4_of.B] [(0, .string a0), (1, c_api_IP.val a1)] [] (weirref4_of a0 a1) weirref4_of.F0
  unfold weirref4_of
  refine SJ.sr 2 ?_
  refine OJ.slotOf (d := 3) (op := (.box 28 (.tmp 1))) (cd := c_api_IP) (u := a1) (owed := []) (box_run (by kernel_rfl)) (fun b1 => ?_)
  refine OW.nil ?_
  refine OJ.go 1 [(4, .bool false)] ?_
  refine OJ.nil ?_
  refine SJ.sr 10 ?_
  refine OJ.go 1 [(9, .string a0)] ?_
  refine OJ.call (d := 10) (g := 38) (ats := #[9]) (args := [.tmp 9]) (owed := []) F38 (weirref4_ParsePrefix_ok a0) (fun r2 => ?_)
  refine OW.nil ?_
  refine OJ.go 4 [(13, .int .i64 r2.2.2), (12, .int .i64 r2.2.1), (11, c_api_Prefix.val r2.1), (8, .tuple #[c_api_Prefix.val r2.1, .int .i64 r2.2.1, .int .i64 r2.2.2])] ?_
  refine OJ.slotOf (d := 5) (op := (.alloc 38)) (cd := c_api_Prefix) (u := z_api_Prefix) (owed := []) (alloc_run Ty38) (fun b3 => ?_)
  refine OW.nil ?_
  refine OJ.kst (y := .tmp 5) (z := .tmp 11) (cd := c_api_Prefix) (u := r2.1) (j := 0) (b := b3) (o := 0) (c_api_Prefix.enc r2.1) (owed := []) Ty38 rfl (Upd.whole ((Cod.len _ _).trans (Cod.len _ _).symm)) rfl ?_
  refine OW.nil ?_
  refine OJ.go 2 [(7, .int .i64 r2.2.2), (6, .int .i64 r2.2.1)] ?_
  refine OJ.nil ?_
  refine SJ.sr 4 ?_
  refine OJ.kld (d := 14) (y := .tmp 5) (cd := c_api_Prefix) (j := 0) (b := b3) (o := 0) r2.1 (pend2 := []) Ty38 rfl (At.whole _) rfl ?_
  refine OJ.kld (d := 15) (y := .tmp 3) (cd := c_api_IP) (j := 1) (b := b1) (o := 0) a1 (pend2 := []) Ty28 rfl (At.whole _) rfl ?_
  refine OJ.call (d := 16) (g := 52) (ats := #[38, 28]) (args := [.tmp 14, .tmp 15]) (owed := []) F52 (weirref4_Contains_ok r2.1 a1) (fun r4 => ?_)
  refine OW.nil ?_
  refine OJ.go 1 [(4, .bool r4)] ?_
  refine OJ.nil ?_
  exact SJ.ret rfl (Res.run (ys := [.bool r4]) (.tmp (by kernel_rfl) .nil) rfl)

/-! ### weir/weirref4.Class: function 53 -/
noncomputable def weirref4_Class.B : Code := (Tryz.f53.body).getD .skip
noncomputable def weirref4_Class.cx : Fx := ⟨Tryz.prog, 53, Tryz.f53⟩
noncomputable def weirref4_Class.out (r_ : Int) : Value := .int .i64 r_
noncomputable def weirref4_Class.F0 (r_ : Int) : Reach := .ret (weirref4_Class.out r_)
noncomputable def weirref4_Class (a0 : api_IP) : M Int :=
  slot 28 >>= fun b1 =>
  weirref4_Valid a0 >>= fun r2 =>
  if ¬ (r2 = true) then
    pure 0
  else
    weirref4_of str13 a0 >>= fun r287 =>
    (if r287 = true then
        pure true
      else
        weirref4_of str14 a0 >>= fun r288 =>
        pure r288) >>= fun y289 =>
    if y289 = true then
      pure 1
    else
      weirref4_of str15 a0 >>= fun r430 =>
      (if r430 = true then
          pure true
        else
          weirref4_of str16 a0 >>= fun r431 =>
          pure r431) >>= fun y432 =>
      if y432 = true then
        pure 2
      else
        weirref4_of str17 a0 >>= fun r501 =>
        (if r501 = true then
            pure true
          else
            weirref4_of str18 a0 >>= fun r502 =>
            pure r502) >>= fun y503 =>
        if y503 = true then
          pure 3
        else
          weirref4_of str19 a0 >>= fun r536 =>
          (if r536 = true then
              pure true
            else
              weirref4_of str20 a0 >>= fun r537 =>
              pure r537) >>= fun y538 =>
          if y538 = true then
            pure 4
          else
            weirref4_of str21 a0 >>= fun r553 =>
            if r553 = true then
              pure 5
            else
              weirref4_of str22 a0 >>= fun r560 =>
              (if r560 = true then
                  pure true
                else
                  weirref4_of str23 a0 >>= fun r561 =>
                  pure r561) >>= fun y562 =>
              (if y562 = true then
                  pure true
                else
                  weirref4_of str24 a0 >>= fun r563 =>
                  pure r563) >>= fun y564 =>
              if y564 = true then
                pure 6
              else
                pure 7
theorem weirref4_Class_ok (a0 : api_IP) : Ref Tryz.prog 53 [c_api_IP.val a0] (weirref4_Class a0) weirref4_Class.out := by
  refine Ref.of (cd := weirref4_Class.B) Tryz.func53 ?_
  show SJ weirref4_Class.cx [.code weirref4_Class.B] [(0, c_api_IP.val a0)] [] (weirref4_Class a0) weirref4_Class.F0
  unfold weirref4_Class
  refine SJ.sr 2 ?_
  refine OJ.slotOf (d := 1) (op := (.box 28 (.tmp 0))) (cd := c_api_IP) (u := a0) (owed := []) (box_run (by kernel_rfl)) (fun b1 => ?_)
  refine OW.nil ?_
  refine OJ.go 1 [(2, .int .i64 0)] ?_
  refine OJ.nil ?_
  refine SJ.sr 3 ?_
  refine OJ.kld (d := 4) (y := .tmp 1) (cd := c_api_IP) (j := 0) (b := b1) (o := 0) a0 (pend2 := []) Ty28 rfl (At.whole _) rfl ?_
  refine OJ.call (d := 5) (g := 46) (ats := #[28]) (args := [.tmp 4]) (owed := []) F46 (weirref4_Valid_ok a0) (fun r2 => ?_)
  refine OW.nil ?_
  refine OJ.go 1 [(3, .bool r2)] ?_
  refine OJ.nil ?_
  refine SJ.seq ?_
  refine SJ.block (id := 0) ?_
  refine SJ.sr 3 ?_
  refine OJ.go 3 [(6, .bool (!r2)), (8, .bool (!r2)), (7, .bool r2)] ?_
  refine OJ.nil ?_
  refine SJ.cond (t := (.tmp 6)) (b := (!r2)) (bnot_iff Iff.rfl) (fun hc571 => ?_) (fun hc571 => ?_)
  · refine SJ.sr 1 ?_
    refine OJ.go 1 [(2, .int .i64 0)] ?_
    refine OJ.nil ?_
    exact SJ.ret rfl (Res.run (ys := [.int .i64 0]) (.tmp (by kernel_rfl) .nil) rfl)
  · refine SJ.sr 7 ?_
    refine OJ.kld (d := 10) (y := .tmp 1) (cd := c_api_IP) (j := 0) (b := b1) (o := 0) a0 (pend2 := []) Ty28 rfl (At.whole _) rfl ?_
    refine OJ.call (d := 11) (g := 83) (ats := #[9, 28]) (args := [.const (.string str13), .tmp 10]) (owed := []) F83 (weirref4_of_ok str13 a0) (fun r287 => ?_)
    refine OW.nil ?_
    refine OJ.go 1 [(12, .bool r287)] ?_
    refine OJ.join (b := r287) [3, 4, 5] [6] [1, 15] (fun y289 => [(1, .pointer (some (pt b1 0))), (15, .bool y289)]) [] [] (t := 12) Iff.rfl (fun hp_ => ?_) (fun hp_ => ?_) (fun _ _ _ _ _ _ h_ => h_) (fun y289 => ?_)
    · refine OJ.go 3 [(15, .bool true), (14, undef), (13, undef)] ?_
      exact OJ.nil ⟨(Cov.mem Cov.nil), rfl, _, rfl, by kernel_rfl⟩
    · refine OJ.kld (d := 13) (y := .tmp 1) (cd := c_api_IP) (j := 0) (b := b1) (o := 0) a0 (pend2 := []) Ty28 rfl (At.whole _) rfl ?_
      refine OJ.call (d := 14) (g := 83) (ats := #[9, 28]) (args := [.const (.string str14), .tmp 13]) (owed := []) F83 (weirref4_of_ok str14 a0) (fun r288 => ?_)
      refine OW.nil ?_
      refine OJ.go 1 [(15, .bool r288)] ?_
      exact OJ.nil ⟨(Cov.mem Cov.nil), rfl, _, rfl, by kernel_rfl⟩
    · refine OJ.go 1 [(9, .bool y289)] ?_
      refine OJ.nil ?_
      refine SJ.cond (t := (.tmp 9)) (b := y289) Iff.rfl (fun hc570 => ?_) (fun hc570 => ?_)
      · refine SJ.sr 1 ?_
        refine OJ.go 1 [(2, .int .i64 1)] ?_
        refine OJ.nil ?_
        exact SJ.ret rfl (Res.run (ys := [.int .i64 1]) (.tmp (by kernel_rfl) .nil) rfl)
      · refine SJ.sr 7 ?_
        refine OJ.kld (d := 17) (y := .tmp 1) (cd := c_api_IP) (j := 0) (b := b1) (o := 0) a0 (pend2 := []) Ty28 rfl (At.whole _) rfl ?_
        refine OJ.call (d := 18) (g := 83) (ats := #[9, 28]) (args := [.const (.string str15), .tmp 17]) (owed := []) F83 (weirref4_of_ok str15 a0) (fun r430 => ?_)
        refine OW.nil ?_
        refine OJ.go 1 [(19, .bool r430)] ?_
        refine OJ.join (b := r430) [3, 4, 5] [6] [1, 22] (fun y432 => [(1, .pointer (some (pt b1 0))), (22, .bool y432)]) [] [] (t := 19) Iff.rfl (fun hp_ => ?_) (fun hp_ => ?_) (fun _ _ _ _ _ _ h_ => h_) (fun y432 => ?_)
        · refine OJ.go 3 [(22, .bool true), (21, undef), (20, undef)] ?_
          exact OJ.nil ⟨(Cov.mem Cov.nil), rfl, _, rfl, by kernel_rfl⟩
        · refine OJ.kld (d := 20) (y := .tmp 1) (cd := c_api_IP) (j := 0) (b := b1) (o := 0) a0 (pend2 := []) Ty28 rfl (At.whole _) rfl ?_
          refine OJ.call (d := 21) (g := 83) (ats := #[9, 28]) (args := [.const (.string str16), .tmp 20]) (owed := []) F83 (weirref4_of_ok str16 a0) (fun r431 => ?_)
          refine OW.nil ?_
          refine OJ.go 1 [(22, .bool r431)] ?_
          exact OJ.nil ⟨(Cov.mem Cov.nil), rfl, _, rfl, by kernel_rfl⟩
        · refine OJ.go 1 [(16, .bool y432)] ?_
          refine OJ.nil ?_
          refine SJ.cond (t := (.tmp 16)) (b := y432) Iff.rfl (fun hc569 => ?_) (fun hc569 => ?_)
          · refine SJ.sr 1 ?_
            refine OJ.go 1 [(2, .int .i64 2)] ?_
            refine OJ.nil ?_
            exact SJ.ret rfl (Res.run (ys := [.int .i64 2]) (.tmp (by kernel_rfl) .nil) rfl)
          · refine SJ.sr 7 ?_
            refine OJ.kld (d := 24) (y := .tmp 1) (cd := c_api_IP) (j := 0) (b := b1) (o := 0) a0 (pend2 := []) Ty28 rfl (At.whole _) rfl ?_
            refine OJ.call (d := 25) (g := 83) (ats := #[9, 28]) (args := [.const (.string str17), .tmp 24]) (owed := []) F83 (weirref4_of_ok str17 a0) (fun r501 => ?_)
            refine OW.nil ?_
            refine OJ.go 1 [(26, .bool r501)] ?_
            refine OJ.join (b := r501) [3, 4, 5] [6] [1, 29] (fun y503 => [(1, .pointer (some (pt b1 0))), (29, .bool y503)]) [] [] (t := 26) Iff.rfl (fun hp_ => ?_) (fun hp_ => ?_) (fun _ _ _ _ _ _ h_ => h_) (fun y503 => ?_)
            · refine OJ.go 3 [(29, .bool true), (28, undef), (27, undef)] ?_
              exact OJ.nil ⟨(Cov.mem Cov.nil), rfl, _, rfl, by kernel_rfl⟩
            · refine OJ.kld (d := 27) (y := .tmp 1) (cd := c_api_IP) (j := 0) (b := b1) (o := 0) a0 (pend2 := []) Ty28 rfl (At.whole _) rfl ?_
              refine OJ.call (d := 28) (g := 83) (ats := #[9, 28]) (args := [.const (.string str18), .tmp 27]) (owed := []) F83 (weirref4_of_ok str18 a0) (fun r502 => ?_)
              refine OW.nil ?_
              refine OJ.go 1 [(29, .bool r502)] ?_
              exact OJ.nil ⟨(Cov.mem Cov.nil), rfl, _, rfl, by kernel_rfl⟩
            · refine OJ.go 1 [(23, .bool y503)] ?_
              refine OJ.nil ?_
              refine SJ.cond (t := (.tmp 23)) (b := y503) Iff.rfl (fun hc568 => ?_) (fun hc568 => ?_)
              · refine SJ.sr 1 ?_
                refine OJ.go 1 [(2, .int .i64 3)] ?_
                refine OJ.nil ?_
                exact SJ.ret rfl (Res.run (ys := [.int .i64 3]) (.tmp (by kernel_rfl) .nil) rfl)
              · refine SJ.sr 7 ?_
                refine OJ.kld (d := 31) (y := .tmp 1) (cd := c_api_IP) (j := 0) (b := b1) (o := 0) a0 (pend2 := []) Ty28 rfl (At.whole _) rfl ?_
                refine OJ.call (d := 32) (g := 83) (ats := #[9, 28]) (args := [.const (.string str19), .tmp 31]) (owed := []) F83 (weirref4_of_ok str19 a0) (fun r536 => ?_)
                refine OW.nil ?_
                refine OJ.go 1 [(33, .bool r536)] ?_
                refine OJ.join (b := r536) [3, 4, 5] [6] [1, 36] (fun y538 => [(1, .pointer (some (pt b1 0))), (36, .bool y538)]) [] [] (t := 33) Iff.rfl (fun hp_ => ?_) (fun hp_ => ?_) (fun _ _ _ _ _ _ h_ => h_) (fun y538 => ?_)
                · refine OJ.go 3 [(36, .bool true), (35, undef), (34, undef)] ?_
                  exact OJ.nil ⟨(Cov.mem Cov.nil), rfl, _, rfl, by kernel_rfl⟩
                · refine OJ.kld (d := 34) (y := .tmp 1) (cd := c_api_IP) (j := 0) (b := b1) (o := 0) a0 (pend2 := []) Ty28 rfl (At.whole _) rfl ?_
                  refine OJ.call (d := 35) (g := 83) (ats := #[9, 28]) (args := [.const (.string str20), .tmp 34]) (owed := []) F83 (weirref4_of_ok str20 a0) (fun r537 => ?_)
                  refine OW.nil ?_
                  refine OJ.go 1 [(36, .bool r537)] ?_
                  exact OJ.nil ⟨(Cov.mem Cov.nil), rfl, _, rfl, by kernel_rfl⟩
                · refine OJ.go 1 [(30, .bool y538)] ?_
                  refine OJ.nil ?_
                  refine SJ.cond (t := (.tmp 30)) (b := y538) Iff.rfl (fun hc567 => ?_) (fun hc567 => ?_)
                  · refine SJ.sr 1 ?_
                    refine OJ.go 1 [(2, .int .i64 4)] ?_
                    refine OJ.nil ?_
                    exact SJ.ret rfl (Res.run (ys := [.int .i64 4]) (.tmp (by kernel_rfl) .nil) rfl)
                  · refine SJ.sr 3 ?_
                    refine OJ.kld (d := 38) (y := .tmp 1) (cd := c_api_IP) (j := 0) (b := b1) (o := 0) a0 (pend2 := []) Ty28 rfl (At.whole _) rfl ?_
                    refine OJ.call (d := 39) (g := 83) (ats := #[9, 28]) (args := [.const (.string str21), .tmp 38]) (owed := []) F83 (weirref4_of_ok str21 a0) (fun r553 => ?_)
                    refine OW.nil ?_
                    refine OJ.go 1 [(37, .bool r553)] ?_
                    refine OJ.nil ?_
                    refine SJ.cond (t := (.tmp 37)) (b := r553) Iff.rfl (fun hc566 => ?_) (fun hc566 => ?_)
                    · refine SJ.sr 1 ?_
                      refine OJ.go 1 [(2, .int .i64 5)] ?_
                      refine OJ.nil ?_
                      exact SJ.ret rfl (Res.run (ys := [.int .i64 5]) (.tmp (by kernel_rfl) .nil) rfl)
                    · refine SJ.sr 11 ?_
                      refine OJ.kld (d := 41) (y := .tmp 1) (cd := c_api_IP) (j := 0) (b := b1) (o := 0) a0 (pend2 := []) Ty28 rfl (At.whole _) rfl ?_
                      refine OJ.call (d := 42) (g := 83) (ats := #[9, 28]) (args := [.const (.string str22), .tmp 41]) (owed := []) F83 (weirref4_of_ok str22 a0) (fun r560 => ?_)
                      refine OW.nil ?_
                      refine OJ.go 1 [(43, .bool r560)] ?_
                      refine OJ.join (b := r560) [3, 4, 5] [6, 7, 8, 9, 10] [1, 46] (fun y562 => [(1, .pointer (some (pt b1 0))), (46, .bool y562)]) [] [] (t := 43) Iff.rfl (fun hp_ => ?_) (fun hp_ => ?_) (fun _ _ _ _ _ _ h_ => h_) (fun y562 => ?_)
                      · refine OJ.go 3 [(46, .bool true), (45, undef), (44, undef)] ?_
                        exact OJ.nil ⟨(Cov.mem Cov.nil), rfl, _, rfl, by kernel_rfl⟩
                      · refine OJ.kld (d := 44) (y := .tmp 1) (cd := c_api_IP) (j := 0) (b := b1) (o := 0) a0 (pend2 := []) Ty28 rfl (At.whole _) rfl ?_
                        refine OJ.call (d := 45) (g := 83) (ats := #[9, 28]) (args := [.const (.string str23), .tmp 44]) (owed := []) F83 (weirref4_of_ok str23 a0) (fun r561 => ?_)
                        refine OW.nil ?_
                        refine OJ.go 1 [(46, .bool r561)] ?_
                        exact OJ.nil ⟨(Cov.mem Cov.nil), rfl, _, rfl, by kernel_rfl⟩
                      · refine OJ.go 1 [(47, .bool y562)] ?_
                        refine OJ.join (b := y562) [7, 8, 9] [10] [50] (fun y564 => [(50, .bool y564)]) [] [] (t := 47) Iff.rfl (fun hp_ => ?_) (fun hp_ => ?_) (fun _ _ _ _ _ _ h_ => h_) (fun y564 => ?_)
                        · refine OJ.go 3 [(50, .bool true), (49, undef), (48, undef)] ?_
                          exact OJ.nil ⟨(Cov.mem Cov.nil), rfl, _, rfl, by kernel_rfl⟩
                        · refine OJ.kld (d := 48) (y := .tmp 1) (cd := c_api_IP) (j := 0) (b := b1) (o := 0) a0 (pend2 := []) Ty28 rfl (At.whole _) rfl ?_
                          refine OJ.call (d := 49) (g := 83) (ats := #[9, 28]) (args := [.const (.string str24), .tmp 48]) (owed := []) F83 (weirref4_of_ok str24 a0) (fun r563 => ?_)
                          refine OW.nil ?_
                          refine OJ.go 1 [(50, .bool r563)] ?_
                          exact OJ.nil ⟨(Cov.mem Cov.nil), rfl, _, rfl, by kernel_rfl⟩
                        · refine OJ.go 1 [(40, .bool y564)] ?_
                          refine OJ.nil ?_
                          refine SJ.cond (t := (.tmp 40)) (b := y564) Iff.rfl (fun hc565 => ?_) (fun hc565 => ?_)
                          · refine SJ.sr 1 ?_
                            refine OJ.go 1 [(2, .int .i64 6)] ?_
                            refine OJ.nil ?_
                            exact SJ.ret rfl (Res.run (ys := [.int .i64 6]) (.tmp (by kernel_rfl) .nil) rfl)
                          · refine SJ.skip ?_
                            refine SJ.inBlock ?_
                            refine SJ.sr 1 ?_
                            refine OJ.go 1 [(2, .int .i64 7)] ?_
                            refine OJ.nil ?_
                            exact SJ.ret rfl (Res.run (ys := [.int .i64 7]) (.tmp (by kernel_rfl) .nil) rfl)

/-! ### weir/addr.Less: function 54 -/
noncomputable def addr_Less.B : Code := (Tryz.f54.body).getD .skip
noncomputable def addr_Less.cx : Fx := ⟨Tryz.prog, 54, Tryz.f54⟩
noncomputable def addr_Less.out (r_ : Bool) : Value := .bool r_
noncomputable def addr_Less.F0 (r_ : Bool) : Reach := .ret (addr_Less.out r_)
noncomputable def addr_Less.F1 (a0 : api_IP) (a1 : api_IP) (b1 : Nat) (b2 : Nat) : (LS Int Bool) → Reach := loopF [.inLoop (c1 (c1 (c2 (c1 (c2 (c2 addr_Less.B)))))), .inBlock 0, .code (c2 (c2 (c2 addr_Less.B)))] (fun s_ : Int => [(2, .pointer (some (pt b1 0))), (3, .pointer (some (pt b2 0))), (16, .int .i64 s_)]) (fun s_ : Int => [(b2, c_api_IP.enc a1), (b1, c_api_IP.enc a0)]) addr_Less.F0
noncomputable def addr_Less.L1 (a0 : api_IP) (a1 : api_IP) (s3 : Int) : M (LS Int Bool) :=
  if s3 < 16 then
    draw >>= fun _ =>
    chk ((0 : Int) ≤ s3 ∧ s3 < (16 : Nat)) >>= fun _ =>
    chk ((0 : Int) ≤ s3 ∧ s3 < (16 : Nat)) >>= fun _ =>
    if (Vec.g a0.A s3 0) ≠ (Vec.g a1.A s3 0) then
      draw >>= fun _ =>
      chk ((0 : Int) ≤ s3 ∧ s3 < (16 : Nat)) >>= fun _ =>
      chk ((0 : Int) ≤ s3 ∧ s3 < (16 : Nat)) >>= fun _ =>
      pure (LS.done (decide ((Vec.g a0.A s3 0) < (Vec.g a1.A s3 0))))
    else
      pure (LS.next (IntKind.wrap .i64 (s3 + 1)))
  else
    pure (LS.done false)
theorem addr_Less.L1_ok (a0 : api_IP) (a1 : api_IP) (b1 : Nat) (b2 : Nat) (s3 : Int) :
    SJ addr_Less.cx [.code (c1 (c1 (c2 (c1 (c2 (c2 addr_Less.B)))))), .inLoop (c1 (c1 (c2 (c1 (c2 (c2 addr_Less.B)))))), .inBlock 0, .code (c2 (c2 (c2 addr_Less.B)))] [(2, .pointer (some (pt b1 0))), (3, .pointer (some (pt b2 0))), (16, .int .i64 s3)] [(b2, c_api_IP.enc a1), (b1, c_api_IP.enc a0)] (addr_Less.L1 a0 a1 s3) (addr_Less.F1 a0 a1 b1 b2) := by
  unfold addr_Less.L1
  refine SJ.sr 1 ?_
  refine OJ.go 1 [(17, .bool (decide (s3 < 16)))] ?_
  refine OJ.nil ?_
  refine SJ.seq ?_
  refine SJ.cond (t := (.tmp 17)) (b := decide (s3 < 16)) decide_eq_true_iff (fun hc31 => ?_) (fun hc31 => ?_)
  · refine SJ.skip ?_
    refine SJ.seq ?_
    refine SJ.block (id := 1) ?_
    refine SJ.sr 2 ?_
    refine OJ.go 2 [(5, .int .i64 s3), (18, .int .i64 s3)] ?_
    refine OJ.nil ?_
    refine SJ.seq ?_
    refine SJ.draw (id := 6) (kd := [0, 0, 0, 1, 0, 0, 0, 1, 0]) (bef := [0, 0, 3, 7, 0, 0, 48, 112, 255]) (ord := [0, 1, 2, 3, 4, 5, 6, 7, 8]) mixed ?_
    refine OJ.go 2 [(20, .pointer (some (pt b1 1))), (19, .int .i64 s3)] ?_
    refine OJ.idxK (d := 21) (T := 26) (y := .tmp 20) (j := .tmp 19) (E := 5) (sz := 1) (b := b1) (o := 1) (k := .i64) (fun hb18 hb19 => ?_)
    refine OJ.kld (d := 22) (y := .tmp 21) (cd := (cI .u8)) (j := 1) (b := b1) (o := (1 + s3.toNat * 1)) (Vec.g a0.A s3 0) (pend2 := [⟨3, 5, (pt b1 (1 + s3.toNat * 1)), (cI .u8).val (Vec.g a0.A s3 0)⟩]) Ty5 rfl (At.trans (At_api_IP_A a0) (At.arr (z := 0) hb18 hb19)) rfl ?_
    refine OJ.go 2 [(24, .pointer (some (pt b2 1))), (23, .int .i64 s3)] ?_
    refine OJ.idxK (d := 25) (T := 26) (y := .tmp 24) (j := .tmp 23) (E := 5) (sz := 1) (b := b2) (o := 1) (k := .i64) (fun hb20 hb21 => ?_)
    refine OJ.kld (d := 26) (y := .tmp 25) (cd := (cI .u8)) (j := 0) (b := b2) (o := (1 + s3.toNat * 1)) (Vec.g a1.A s3 0) (pend2 := [⟨7, 5, (pt b2 (1 + s3.toNat * 1)), (cI .u8).val (Vec.g a1.A s3 0)⟩, ⟨3, 5, (pt b1 (1 + s3.toNat * 1)), (cI .u8).val (Vec.g a0.A s3 0)⟩]) Ty5 rfl (At.trans (At_api_IP_A a1) (At.arr (z := 0) hb20 hb21)) rfl ?_
    refine OJ.go 1 [(27, .bool ((Vec.g a0.A s3 0) != (Vec.g a1.A s3 0)))] ?_
    refine OJ.nil ?_
    refine SJ.cond (t := (.tmp 27)) (b := ((Vec.g a0.A s3 0) != (Vec.g a1.A s3 0))) bne_iff_ne (fun hc30 => ?_) (fun hc30 => ?_)
    · refine SJ.seq ?_
      refine SJ.draw (id := 7) (kd := [0, 0, 0, 1, 0, 0, 0, 1, 0, 0]) (bef := [0, 0, 3, 7, 0, 0, 48, 112, 255, 511]) (ord := [0, 1, 2, 3, 4, 5, 6, 7, 8, 9]) mixed ?_
      refine OJ.go 2 [(29, .pointer (some (pt b1 1))), (28, .int .i64 s3)] ?_
      refine OJ.idxK (d := 30) (T := 26) (y := .tmp 29) (j := .tmp 28) (E := 5) (sz := 1) (b := b1) (o := 1) (k := .i64) (fun hb26 hb27 => ?_)
      refine OJ.kld (d := 31) (y := .tmp 30) (cd := (cI .u8)) (j := 1) (b := b1) (o := (1 + s3.toNat * 1)) (Vec.g a0.A s3 0) (pend2 := [⟨3, 5, (pt b1 (1 + s3.toNat * 1)), (cI .u8).val (Vec.g a0.A s3 0)⟩]) Ty5 rfl (At.trans (At_api_IP_A a0) (At.arr (z := 0) hb26 hb27)) rfl ?_
      refine OJ.go 2 [(33, .pointer (some (pt b2 1))), (32, .int .i64 s3)] ?_
      refine OJ.idxK (d := 34) (T := 26) (y := .tmp 33) (j := .tmp 32) (E := 5) (sz := 1) (b := b2) (o := 1) (k := .i64) (fun hb28 hb29 => ?_)
      refine OJ.kld (d := 35) (y := .tmp 34) (cd := (cI .u8)) (j := 0) (b := b2) (o := (1 + s3.toNat * 1)) (Vec.g a1.A s3 0) (pend2 := [⟨7, 5, (pt b2 (1 + s3.toNat * 1)), (cI .u8).val (Vec.g a1.A s3 0)⟩, ⟨3, 5, (pt b1 (1 + s3.toNat * 1)), (cI .u8).val (Vec.g a0.A s3 0)⟩]) Ty5 rfl (At.trans (At_api_IP_A a1) (At.arr (z := 0) hb28 hb29)) rfl ?_
      refine OJ.go 2 [(4, .bool (decide ((Vec.g a0.A s3 0) < (Vec.g a1.A s3 0)))), (36, .bool (decide ((Vec.g a0.A s3 0) < (Vec.g a1.A s3 0))))] ?_
      refine OJ.nil ?_
      exact SJ.ret rfl (Res.run (ys := [.bool (decide ((Vec.g a0.A s3 0) < (Vec.g a1.A s3 0)))]) (.tmp (by kernel_rfl) .nil) rfl)
    · refine SJ.skip ?_
      refine SJ.inBlock ?_
      refine SJ.rg 2 ?_
      refine OJ.go 2 [(16, .int .i64 (IntKind.wrap .i64 (s3 + 1))), (37, .int .i64 (IntKind.wrap .i64 (s3 + 1)))] ?_
      refine OJ.nil ?_
      exact SJ.at_ [2, 3, 16] rfl
  · refine SJ.exit (id := 0) (by rfl) ?_
    refine SJ.sr 1 ?_
    refine OJ.go 1 [(4, .bool false)] ?_
    refine OJ.nil ?_
    exact SJ.ret rfl (Res.run (ys := [.bool false]) (.tmp (by kernel_rfl) .nil) rfl)
noncomputable def addr_Less (a0 : api_IP) (a1 : api_IP) : M Bool :=
  slot 28 >>= fun b1 =>
  slot 28 >>= fun b2 =>
  if a0.V ≠ a1.V then
    pure (decide (a0.V < a1.V))
  else
    loopM (fun s_ : Int => addr_Less.L1 a0 a1 s_) 0
theorem addr_Less_ok (a0 : api_IP) (a1 : api_IP) : Ref Tryz.prog 54 [c_api_IP.val a0, c_api_IP.val a1] (addr_Less a0 a1) addr_Less.out := by
  refine Ref.of (cd := addr_Less.B) Tryz.func54 ?_
  show SJ addr_Less.cx [.code addr_Less.B] [(0, c_api_IP.val a0), (1, c_api_IP.val a1)] [] (addr_Less a0 a1) addr_Less.F0
  unfold addr_Less
  refine SJ.sr 3 ?_
  refine OJ.slotOf (d := 2) (op := (.box 28 (.tmp 0))) (cd := c_api_IP) (u := a0) (owed := []) (box_run (by kernel_rfl)) (fun b1 => ?_)
  refine OW.nil ?_
  refine OJ.slotOf (d := 3) (op := (.box 28 (.tmp 1))) (cd := c_api_IP) (u := a1) (owed := []) (box_run (by kernel_rfl)) (fun b2 => ?_)
  refine OW.nil ?_
  refine OJ.go 1 [(4, .bool false)] ?_
  refine OJ.nil ?_
  refine SJ.seq ?_
  refine SJ.sr 5 ?_
  refine OJ.go 1 [(6, .pointer (some (pt b1 0)))] ?_
  refine OJ.kld (d := 7) (y := .tmp 6) (cd := (cI .i64)) (j := 1) (b := b1) (o := 0) a0.V (pend2 := []) Ty3 rfl (At_api_IP_V a0) rfl ?_
  refine OJ.go 1 [(8, .pointer (some (pt b2 0)))] ?_
  refine OJ.kld (d := 9) (y := .tmp 8) (cd := (cI .i64)) (j := 0) (b := b2) (o := 0) a1.V (pend2 := []) Ty3 rfl (At_api_IP_V a1) rfl ?_
  refine OJ.go 1 [(10, .bool (a0.V != a1.V))] ?_
  refine OJ.nil ?_
  refine SJ.cond (t := (.tmp 10)) (b := (a0.V != a1.V)) bne_iff_ne (fun hc32 => ?_) (fun hc32 => ?_)
  · refine SJ.sr 6 ?_
    refine OJ.go 1 [(11, .pointer (some (pt b1 0)))] ?_
    refine OJ.kld (d := 12) (y := .tmp 11) (cd := (cI .i64)) (j := 1) (b := b1) (o := 0) a0.V (pend2 := []) Ty3 rfl (At_api_IP_V a0) rfl ?_
    refine OJ.go 1 [(13, .pointer (some (pt b2 0)))] ?_
    refine OJ.kld (d := 14) (y := .tmp 13) (cd := (cI .i64)) (j := 0) (b := b2) (o := 0) a1.V (pend2 := []) Ty3 rfl (At_api_IP_V a1) rfl ?_
    refine OJ.go 2 [(4, .bool (decide (a0.V < a1.V))), (15, .bool (decide (a0.V < a1.V)))] ?_
    refine OJ.nil ?_
    exact SJ.ret rfl (Res.run (ys := [.bool (decide (a0.V < a1.V))]) (.tmp (by kernel_rfl) .nil) rfl)
  · refine SJ.skip ?_
    refine SJ.seq ?_
    refine SJ.sr 1 ?_
    refine OJ.go 1 [(16, .int .i64 0)] ?_
    refine OJ.nil ?_
    refine SJ.block (id := 0) ?_
    exact SJ.loop (fun s_ : Int => [(2, .pointer (some (pt b1 0))), (3, .pointer (some (pt b2 0))), (16, .int .i64 s_)]) (fun s_ : Int => [(b2, c_api_IP.enc a1), (b1, c_api_IP.enc a0)]) [2, 3, 16] rfl (fun _ _ => rfl) (fun s_ => addr_Less.L1_ok a0 a1 b1 b2 s_)

/-! ### weir/weirref4.Less: function 55 -/
noncomputable def weirref4_Less.B : Code := (Tryz.f55.body).getD .skip
noncomputable def weirref4_Less.cx : Fx := ⟨Tryz.prog, 55, Tryz.f55⟩
noncomputable def weirref4_Less.out (r_ : Bool) : Value := .bool r_
noncomputable def weirref4_Less.F0 (r_ : Bool) : Reach := .ret (weirref4_Less.out r_)
noncomputable def weirref4_Less.F1 (a0 : api_IP) (a1 : api_IP) (b1 : Nat) (b2 : Nat) : (LS Int Bool) → Reach := loopF [.inLoop (c1 (c1 (c2 (c1 (c2 (c2 weirref4_Less.B)))))), .inBlock 0, .code (c2 (c2 (c2 weirref4_Less.B)))] (fun s_ : Int => [(2, .pointer (some (pt b1 0))), (3, .pointer (some (pt b2 0))), (5, .int .i64 s_)]) (fun s_ : Int => [(b2, c_api_IP.enc a1), (b1, c_api_IP.enc a0)]) weirref4_Less.F0
noncomputable def weirref4_Less.L1 (a0 : api_IP) (a1 : api_IP) (s3 : Int) : M (LS Int Bool) :=
  if s3 < 16 then
    draw >>= fun _ =>
    chk ((0 : Int) ≤ s3 ∧ s3 < (16 : Nat)) >>= fun _ =>
    chk ((0 : Int) ≤ s3 ∧ s3 < (16 : Nat)) >>= fun _ =>
    if (Vec.g a0.A s3 0) ≠ (Vec.g a1.A s3 0) then
      draw >>= fun _ =>
      chk ((0 : Int) ≤ s3 ∧ s3 < (16 : Nat)) >>= fun _ =>
      chk ((0 : Int) ≤ s3 ∧ s3 < (16 : Nat)) >>= fun _ =>
      pure (LS.done (decide ((Vec.g a0.A s3 0) < (Vec.g a1.A s3 0))))
    else
      pure (LS.next (IntKind.wrap .i64 (s3 + 1)))
  else
    pure (LS.done false)
theorem weirref4_Less.L1_ok (a0 : api_IP) (a1 : api_IP) (b1 : Nat) (b2 : Nat) (s3 : Int) :
    SJ weirref4_Less.cx [.code (c1 (c1 (c2 (c1 (c2 (c2 weirref4_Less.B)))))), .inLoop (c1 (c1 (c2 (c1 (c2 (c2 weirref4_Less.B)))))), .inBlock 0, .code (c2 (c2 (c2 weirref4_Less.B)))] [(2, .pointer (some (pt b1 0))), (3, .pointer (some (pt b2 0))), (5, .int .i64 s3)] [(b2, c_api_IP.enc a1), (b1, c_api_IP.enc a0)] (weirref4_Less.L1 a0 a1 s3) (weirref4_Less.F1 a0 a1 b1 b2) := by
  unfold weirref4_Less.L1
  refine SJ.seq ?_
  refine SJ.sr 2 ?_
  refine OJ.go 2 [(17, .bool (decide (s3 < 16))), (16, .int .i64 s3)] ?_
  refine OJ.nil ?_
  refine SJ.cond (t := (.tmp 17)) (b := decide (s3 < 16)) decide_eq_true_iff (fun hc31 => ?_) (fun hc31 => ?_)
  · refine SJ.skip ?_
    refine SJ.seq ?_
    refine SJ.block (id := 1) ?_
    refine SJ.seq ?_
    refine SJ.draw (id := 6) (kd := [0, 0, 0, 1, 0, 0, 0, 1, 0]) (bef := [0, 0, 3, 7, 0, 0, 48, 112, 255]) (ord := [0, 1, 2, 3, 4, 5, 6, 7, 8]) mixed ?_
    refine OJ.go 2 [(21, .pointer (some (pt b1 1))), (20, .int .i64 s3)] ?_
    refine OJ.idxK (d := 22) (T := 26) (y := .tmp 21) (j := .tmp 20) (E := 5) (sz := 1) (b := b1) (o := 1) (k := .i64) (fun hb18 hb19 => ?_)
    refine OJ.kld (d := 23) (y := .tmp 22) (cd := (cI .u8)) (j := 1) (b := b1) (o := (1 + s3.toNat * 1)) (Vec.g a0.A s3 0) (pend2 := [⟨3, 5, (pt b1 (1 + s3.toNat * 1)), (cI .u8).val (Vec.g a0.A s3 0)⟩]) Ty5 rfl (At.trans (At_api_IP_A a0) (At.arr (z := 0) hb18 hb19)) rfl ?_
    refine OJ.go 2 [(25, .pointer (some (pt b2 1))), (24, .int .i64 s3)] ?_
    refine OJ.idxK (d := 26) (T := 26) (y := .tmp 25) (j := .tmp 24) (E := 5) (sz := 1) (b := b2) (o := 1) (k := .i64) (fun hb20 hb21 => ?_)
    refine OJ.kld (d := 27) (y := .tmp 26) (cd := (cI .u8)) (j := 0) (b := b2) (o := (1 + s3.toNat * 1)) (Vec.g a1.A s3 0) (pend2 := [⟨7, 5, (pt b2 (1 + s3.toNat * 1)), (cI .u8).val (Vec.g a1.A s3 0)⟩, ⟨3, 5, (pt b1 (1 + s3.toNat * 1)), (cI .u8).val (Vec.g a0.A s3 0)⟩]) Ty5 rfl (At.trans (At_api_IP_A a1) (At.arr (z := 0) hb20 hb21)) rfl ?_
    refine OJ.go 1 [(28, .bool ((Vec.g a0.A s3 0) != (Vec.g a1.A s3 0)))] ?_
    refine OJ.nil ?_
    refine SJ.cond (t := (.tmp 28)) (b := ((Vec.g a0.A s3 0) != (Vec.g a1.A s3 0))) bne_iff_ne (fun hc30 => ?_) (fun hc30 => ?_)
    · refine SJ.seq ?_
      refine SJ.draw (id := 7) (kd := [0, 0, 0, 1, 0, 0, 0, 1, 0, 0]) (bef := [0, 0, 3, 7, 0, 0, 48, 112, 255, 511]) (ord := [0, 1, 2, 3, 4, 5, 6, 7, 8, 9]) mixed ?_
      refine OJ.go 2 [(30, .pointer (some (pt b1 1))), (29, .int .i64 s3)] ?_
      refine OJ.idxK (d := 31) (T := 26) (y := .tmp 30) (j := .tmp 29) (E := 5) (sz := 1) (b := b1) (o := 1) (k := .i64) (fun hb26 hb27 => ?_)
      refine OJ.kld (d := 32) (y := .tmp 31) (cd := (cI .u8)) (j := 1) (b := b1) (o := (1 + s3.toNat * 1)) (Vec.g a0.A s3 0) (pend2 := [⟨3, 5, (pt b1 (1 + s3.toNat * 1)), (cI .u8).val (Vec.g a0.A s3 0)⟩]) Ty5 rfl (At.trans (At_api_IP_A a0) (At.arr (z := 0) hb26 hb27)) rfl ?_
      refine OJ.go 2 [(34, .pointer (some (pt b2 1))), (33, .int .i64 s3)] ?_
      refine OJ.idxK (d := 35) (T := 26) (y := .tmp 34) (j := .tmp 33) (E := 5) (sz := 1) (b := b2) (o := 1) (k := .i64) (fun hb28 hb29 => ?_)
      refine OJ.kld (d := 36) (y := .tmp 35) (cd := (cI .u8)) (j := 0) (b := b2) (o := (1 + s3.toNat * 1)) (Vec.g a1.A s3 0) (pend2 := [⟨7, 5, (pt b2 (1 + s3.toNat * 1)), (cI .u8).val (Vec.g a1.A s3 0)⟩, ⟨3, 5, (pt b1 (1 + s3.toNat * 1)), (cI .u8).val (Vec.g a0.A s3 0)⟩]) Ty5 rfl (At.trans (At_api_IP_A a1) (At.arr (z := 0) hb28 hb29)) rfl ?_
      refine OJ.go 2 [(4, .bool (decide ((Vec.g a0.A s3 0) < (Vec.g a1.A s3 0)))), (37, .bool (decide ((Vec.g a0.A s3 0) < (Vec.g a1.A s3 0))))] ?_
      refine OJ.nil ?_
      exact SJ.ret rfl (Res.run (ys := [.bool (decide ((Vec.g a0.A s3 0) < (Vec.g a1.A s3 0)))]) (.tmp (by kernel_rfl) .nil) rfl)
    · refine SJ.skip ?_
      refine SJ.inBlock ?_
      refine SJ.rg 3 ?_
      refine OJ.go 3 [(5, .int .i64 (IntKind.wrap .i64 (s3 + 1))), (19, .int .i64 (IntKind.wrap .i64 (s3 + 1))), (18, .int .i64 s3)] ?_
      refine OJ.nil ?_
      exact SJ.at_ [2, 3, 5] rfl
  · refine SJ.exit (id := 0) (by rfl) ?_
    refine SJ.sr 1 ?_
    refine OJ.go 1 [(4, .bool false)] ?_
    refine OJ.nil ?_
    exact SJ.ret rfl (Res.run (ys := [.bool false]) (.tmp (by kernel_rfl) .nil) rfl)
noncomputable def weirref4_Less (a0 : api_IP) (a1 : api_IP) : M Bool :=
  slot 28 >>= fun b1 =>
  slot 28 >>= fun b2 =>
  if a0.V ≠ a1.V then
    pure (decide (a0.V < a1.V))
  else
    loopM (fun s_ : Int => weirref4_Less.L1 a0 a1 s_) 0
theorem weirref4_Less_ok (a0 : api_IP) (a1 : api_IP) : Ref Tryz.prog 55 [c_api_IP.val a0, c_api_IP.val a1] (weirref4_Less a0 a1) weirref4_Less.out := by
  refine Ref.of (cd := weirref4_Less.B) Tryz.func55 ?_
  show SJ weirref4_Less.cx [.code weirref4_Less.B] [(0, c_api_IP.val a0), (1, c_api_IP.val a1)] [] (weirref4_Less a0 a1) weirref4_Less.F0
  unfold weirref4_Less
  refine SJ.sr 3 ?_
  refine OJ.slotOf (d := 2) (op := (.box 28 (.tmp 0))) (cd := c_api_IP) (u := a0) (owed := []) (box_run (by kernel_rfl)) (fun b1 => ?_)
  refine OW.nil ?_
  refine OJ.slotOf (d := 3) (op := (.box 28 (.tmp 1))) (cd := c_api_IP) (u := a1) (owed := []) (box_run (by kernel_rfl)) (fun b2 => ?_)
  refine OW.nil ?_
  refine OJ.go 1 [(4, .bool false)] ?_
  refine OJ.nil ?_
  refine SJ.seq ?_
  refine SJ.sr 5 ?_
  refine OJ.go 1 [(6, .pointer (some (pt b1 0)))] ?_
  refine OJ.kld (d := 7) (y := .tmp 6) (cd := (cI .i64)) (j := 1) (b := b1) (o := 0) a0.V (pend2 := []) Ty3 rfl (At_api_IP_V a0) rfl ?_
  refine OJ.go 1 [(8, .pointer (some (pt b2 0)))] ?_
  refine OJ.kld (d := 9) (y := .tmp 8) (cd := (cI .i64)) (j := 0) (b := b2) (o := 0) a1.V (pend2 := []) Ty3 rfl (At_api_IP_V a1) rfl ?_
  refine OJ.go 1 [(10, .bool (a0.V != a1.V))] ?_
  refine OJ.nil ?_
  refine SJ.cond (t := (.tmp 10)) (b := (a0.V != a1.V)) bne_iff_ne (fun hc32 => ?_) (fun hc32 => ?_)
  · refine SJ.sr 6 ?_
    refine OJ.go 1 [(11, .pointer (some (pt b1 0)))] ?_
    refine OJ.kld (d := 12) (y := .tmp 11) (cd := (cI .i64)) (j := 1) (b := b1) (o := 0) a0.V (pend2 := []) Ty3 rfl (At_api_IP_V a0) rfl ?_
    refine OJ.go 1 [(13, .pointer (some (pt b2 0)))] ?_
    refine OJ.kld (d := 14) (y := .tmp 13) (cd := (cI .i64)) (j := 0) (b := b2) (o := 0) a1.V (pend2 := []) Ty3 rfl (At_api_IP_V a1) rfl ?_
    refine OJ.go 2 [(4, .bool (decide (a0.V < a1.V))), (15, .bool (decide (a0.V < a1.V)))] ?_
    refine OJ.nil ?_
    exact SJ.ret rfl (Res.run (ys := [.bool (decide (a0.V < a1.V))]) (.tmp (by kernel_rfl) .nil) rfl)
  · refine SJ.skip ?_
    refine SJ.seq ?_
    refine SJ.sr 1 ?_
    refine OJ.go 1 [(5, .int .i64 0)] ?_
    refine OJ.nil ?_
    refine SJ.block (id := 0) ?_
    exact SJ.loop (fun s_ : Int => [(2, .pointer (some (pt b1 0))), (3, .pointer (some (pt b2 0))), (5, .int .i64 s_)]) (fun s_ : Int => [(b2, c_api_IP.enc a1), (b1, c_api_IP.enc a0)]) [2, 3, 5] rfl (fun _ _ => rfl) (fun s_ => weirref4_Less.L1_ok a0 a1 b1 b2 s_)

/-! ### weir/weirlaw4.known: function 23 -/
noncomputable def weirlaw4_known.B : Code := (Tryz.f23.body).getD .skip
noncomputable def weirlaw4_known.cx : Fx := ⟨Tryz.prog, 23, Tryz.f23⟩
noncomputable def weirlaw4_known.out (r_ : Bool) : Value := .bool r_
noncomputable def weirlaw4_known.F0 (r_ : Bool) : Reach := .ret (weirlaw4_known.out r_)
noncomputable def weirlaw4_known (a0 : weirlaw4_Op) : M Bool :=
  slot 42 >>= fun b1 =>
  if a0.Kind = 7 then
    addr_Valid a0.A >>= fun r97 =>
    weirref4_Valid a0.A >>= fun r98 =>
    pure (r97 == r98)
  else
    if a0.Kind = 8 then
      addr_ValidPrefix a0.P >>= fun r145 =>
      weirref4_ValidPrefix a0.P >>= fun r146 =>
      weirlaw4_num r145 >>= fun r147 =>
      pure (r147 == r146)
    else
      if a0.Kind = 9 then
        addr_Mask a0.A a0.N >>= fun r169 =>
        slot 28 >>= fun b170 =>
        weirref4_Mask a0.A a0.N >>= fun r171 =>
        slot 28 >>= fun b172 =>
        (if r169.1 = r171.1 then
            weirlaw4_num r169.2 >>= fun r173 =>
            pure (r173 == r171.2)
          else
            pure false) >>= fun y174 =>
        pure y174
      else
        if a0.Kind = 10 then
          addr_Contains a0.P a0.A >>= fun r182 =>
          weirref4_Contains a0.P a0.A >>= fun r183 =>
          pure (r182 == r183)
        else
          if a0.Kind = 11 then
            addr_Class a0.A >>= fun r186 =>
            weirref4_Class a0.A >>= fun r187 =>
            pure (r186 == r187)
          else
            addr_Less a0.A a0.B >>= fun r188 =>
            weirref4_Less a0.A a0.B >>= fun r189 =>
            pure (r188 == r189)
theorem weirlaw4_known_ok (a0 : weirlaw4_Op) : Ref Tryz.prog 23 [c_weirlaw4_Op.val a0] (weirlaw4_known a0) weirlaw4_known.out := by
  refine Ref.of (cd := weirlaw4_known.B) Tryz.func23 ?_
  show SJ weirlaw4_known.cx [.code weirlaw4_known.B] [(0, c_weirlaw4_Op.val a0)] [] (weirlaw4_known a0) weirlaw4_known.F0
  unfold weirlaw4_known
  refine SJ.sr 2 ?_
  refine OJ.slotOf (d := 1) (op := (.box 42 (.tmp 0))) (cd := c_weirlaw4_Op) (u := a0) (owed := []) (box_run (by kernel_rfl)) (fun b1 => ?_)
  refine OW.nil ?_
  refine OJ.go 1 [(2, .bool false)] ?_
  refine OJ.nil ?_
  refine SJ.seq ?_
  refine SJ.sr 2 ?_
  refine OJ.go 1 [(17, .pointer (some (pt b1 0)))] ?_
  refine OJ.kld (d := 18) (y := .tmp 17) (cd := (cI .i64)) (j := 0) (b := b1) (o := 0) a0.Kind (pend2 := []) Ty3 rfl (At_weirlaw4_Op_Kind a0) rfl ?_
  refine OJ.nil ?_
  refine SJ.block (id := 0) ?_
  refine SJ.sr 2 ?_
  refine OJ.go 2 [(19, .bool (a0.Kind == 7)), (20, .bool (a0.Kind == 7))] ?_
  refine OJ.nil ?_
  refine SJ.cond (t := (.tmp 19)) (b := (a0.Kind == 7)) beq_iff_eq (fun hc194 => ?_) (fun hc194 => ?_)
  · refine SJ.sr 4 ?_
    refine OJ.go 1 [(21, .pointer (some (pt b1 2)))] ?_
    refine OJ.kld (d := 22) (y := .tmp 21) (cd := c_api_IP) (j := 0) (b := b1) (o := 2) a0.A (pend2 := []) Ty28 rfl (At_weirlaw4_Op_A a0) rfl ?_
    refine OJ.call (d := 23) (g := 16) (ats := #[28]) (args := [.tmp 22]) (owed := []) F16 (addr_Valid_ok a0.A) (fun r97 => ?_)
    refine OW.nil ?_
    refine OJ.go 1 [(3, .bool r97)] ?_
    refine OJ.nil ?_
    refine SJ.sr 4 ?_
    refine OJ.go 1 [(24, .pointer (some (pt b1 2)))] ?_
    refine OJ.kld (d := 25) (y := .tmp 24) (cd := c_api_IP) (j := 0) (b := b1) (o := 2) a0.A (pend2 := []) Ty28 rfl (At_weirlaw4_Op_A a0) rfl ?_
    refine OJ.call (d := 26) (g := 46) (ats := #[28]) (args := [.tmp 25]) (owed := []) F46 (weirref4_Valid_ok a0.A) (fun r98 => ?_)
    refine OW.nil ?_
    refine OJ.go 1 [(4, .bool r98)] ?_
    refine OJ.nil ?_
    refine SJ.sr 4 ?_
    refine OJ.go 4 [(2, .bool (r97 == r98)), (29, .bool (r97 == r98)), (28, .bool r98), (27, .bool r97)] ?_
    refine OJ.nil ?_
    exact SJ.ret rfl (Res.run (ys := [.bool (r97 == r98)]) (.tmp (by kernel_rfl) .nil) rfl)
  · refine SJ.sr 2 ?_
    refine OJ.go 2 [(30, .bool (a0.Kind == 8)), (31, .bool (a0.Kind == 8))] ?_
    refine OJ.nil ?_
    refine SJ.cond (t := (.tmp 30)) (b := (a0.Kind == 8)) beq_iff_eq (fun hc193 => ?_) (fun hc193 => ?_)
    · refine SJ.sr 4 ?_
      refine OJ.go 1 [(32, .pointer (some (pt b1 36)))] ?_
      refine OJ.kld (d := 33) (y := .tmp 32) (cd := c_api_Prefix) (j := 0) (b := b1) (o := 36) a0.P (pend2 := []) Ty38 rfl (At_weirlaw4_Op_P a0) rfl ?_
      refine OJ.call (d := 34) (g := 47) (ats := #[38]) (args := [.tmp 33]) (owed := []) F47 (addr_ValidPrefix_ok a0.P) (fun r145 => ?_)
      refine OW.nil ?_
      refine OJ.go 1 [(5, .int .i64 r145)] ?_
      refine OJ.nil ?_
      refine SJ.sr 4 ?_
      refine OJ.go 1 [(35, .pointer (some (pt b1 36)))] ?_
      refine OJ.kld (d := 36) (y := .tmp 35) (cd := c_api_Prefix) (j := 0) (b := b1) (o := 36) a0.P (pend2 := []) Ty38 rfl (At_weirlaw4_Op_P a0) rfl ?_
      refine OJ.call (d := 37) (g := 48) (ats := #[38]) (args := [.tmp 36]) (owed := []) F48 (weirref4_ValidPrefix_ok a0.P) (fun r146 => ?_)
      refine OW.nil ?_
      refine OJ.go 1 [(6, .int .i64 r146)] ?_
      refine OJ.nil ?_
      refine SJ.sr 5 ?_
      refine OJ.go 1 [(38, .int .i64 r145)] ?_
      refine OJ.call (d := 39) (g := 13) (ats := #[29]) (args := [.tmp 38]) (owed := []) F13 (weirlaw4_num_ok r145) (fun r147 => ?_)
      refine OW.nil ?_
      refine OJ.go 3 [(2, .bool (r147 == r146)), (41, .bool (r147 == r146)), (40, .int .i64 r146)] ?_
      refine OJ.nil ?_
      exact SJ.ret rfl (Res.run (ys := [.bool (r147 == r146)]) (.tmp (by kernel_rfl) .nil) rfl)
    · refine SJ.sr 2 ?_
      refine OJ.go 2 [(42, .bool (a0.Kind == 9)), (43, .bool (a0.Kind == 9))] ?_
      refine OJ.nil ?_
      refine SJ.cond (t := (.tmp 42)) (b := (a0.Kind == 9)) beq_iff_eq (fun hc192 => ?_) (fun hc192 => ?_)
      · refine SJ.sr 11 ?_
        refine OJ.go 1 [(45, .pointer (some (pt b1 2)))] ?_
        refine OJ.kld (d := 46) (y := .tmp 45) (cd := c_api_IP) (j := 0) (b := b1) (o := 2) a0.A (pend2 := []) Ty28 rfl (At_weirlaw4_Op_A a0) rfl ?_
        refine OJ.go 1 [(47, .pointer (some (pt b1 60)))] ?_
        refine OJ.kld (d := 48) (y := .tmp 47) (cd := (cI .i64)) (j := 0) (b := b1) (o := 60) a0.N (pend2 := []) Ty3 rfl (At_weirlaw4_Op_N a0) rfl ?_
        refine OJ.call (d := 49) (g := 49) (ats := #[28, 3]) (args := [.tmp 46, .tmp 48]) (owed := []) F49 (addr_Mask_ok a0.A a0.N) (fun r169 => ?_)
        refine OW.nil ?_
        refine OJ.go 3 [(51, .int .i64 r169.2), (50, c_api_IP.val r169.1), (44, .tuple #[c_api_IP.val r169.1, .int .i64 r169.2])] ?_
        refine OJ.slotOf (d := 7) (op := (.alloc 28)) (cd := c_api_IP) (u := z_api_IP) (owed := []) (alloc_run Ty28) (fun b170 => ?_)
        refine OW.nil ?_
        refine OJ.kst (y := .tmp 7) (z := .tmp 50) (cd := c_api_IP) (u := r169.1) (j := 0) (b := b170) (o := 0) (c_api_IP.enc r169.1) (owed := []) Ty28 rfl (Upd.whole ((Cod.len _ _).trans (Cod.len _ _).symm)) rfl ?_
        refine OW.nil ?_
        refine OJ.go 1 [(8, .int .i64 r169.2)] ?_
        refine OJ.nil ?_
        refine SJ.sr 11 ?_
        refine OJ.go 1 [(53, .pointer (some (pt b1 2)))] ?_
        refine OJ.kld (d := 54) (y := .tmp 53) (cd := c_api_IP) (j := 1) (b := b1) (o := 2) a0.A (pend2 := []) Ty28 rfl (At_weirlaw4_Op_A a0) rfl ?_
        refine OJ.go 1 [(55, .pointer (some (pt b1 60)))] ?_
        refine OJ.kld (d := 56) (y := .tmp 55) (cd := (cI .i64)) (j := 1) (b := b1) (o := 60) a0.N (pend2 := []) Ty3 rfl (At_weirlaw4_Op_N a0) rfl ?_
        refine OJ.call (d := 57) (g := 50) (ats := #[28, 3]) (args := [.tmp 54, .tmp 56]) (owed := []) F50 (weirref4_Mask_ok a0.A a0.N) (fun r171 => ?_)
        refine OW.nil ?_
        refine OJ.go 3 [(59, .int .i64 r171.2), (58, c_api_IP.val r171.1), (52, .tuple #[c_api_IP.val r171.1, .int .i64 r171.2])] ?_
        refine OJ.slotOf (d := 9) (op := (.alloc 28)) (cd := c_api_IP) (u := z_api_IP) (owed := []) (alloc_run Ty28) (fun b172 => ?_)
        refine OW.nil ?_
        refine OJ.kst (y := .tmp 9) (z := .tmp 58) (cd := c_api_IP) (u := r171.1) (j := 0) (b := b172) (o := 0) (c_api_IP.enc r171.1) (owed := []) Ty28 rfl (Upd.whole ((Cod.len _ _).trans (Cod.len _ _).symm)) rfl ?_
        refine OW.nil ?_
        refine OJ.go 1 [(10, .int .i64 r171.2)] ?_
        refine OJ.nil ?_
        refine SJ.sr 10 ?_
        refine OJ.kld (d := 60) (y := .tmp 7) (cd := c_api_IP) (j := 1) (b := b170) (o := 0) r169.1 (pend2 := []) Ty28 rfl (At.whole _) rfl ?_
        refine OJ.kld (d := 61) (y := .tmp 9) (cd := c_api_IP) (j := 0) (b := b172) (o := 0) r171.1 (pend2 := []) Ty28 rfl (At.whole _) rfl ?_
        refine OJ.eql (d := 62) (T := 28) (yT := 28) (y := .tmp 60) (z := .tmp 61) (cd := c_api_IP) (p := r169.1) (q := r171.1) rfl Eq28 ?_
        refine OJ.go 1 [(63, .bool (eqv r169.1 r171.1))] ?_
        refine OJ.join (b := (eqv r169.1 r171.1)) [4, 5, 6, 7, 8] [9] [68] (fun y174 => [(68, .bool y174)]) [] [] (t := 63) eqv_iff (fun hp_ => ?_) (fun hp_ => ?_) (fun _ _ _ _ _ _ h_ => h_) (fun y174 => ?_)
        · refine OJ.go 1 [(64, .int .i64 r169.2)] ?_
          refine OJ.call (d := 65) (g := 13) (ats := #[29]) (args := [.tmp 64]) (owed := []) F13 (weirlaw4_num_ok r169.2) (fun r173 => ?_)
          refine OW.nil ?_
          refine OJ.go 3 [(68, .bool (r173 == r171.2)), (67, .bool (r173 == r171.2)), (66, .int .i64 r171.2)] ?_
          exact OJ.nil ⟨(Cov.mem Cov.nil), rfl, _, rfl, by kernel_rfl⟩
        · refine OJ.go 5 [(68, .bool false), (67, undef), (66, undef), (65, undef), (64, undef)] ?_
          exact OJ.nil ⟨(Cov.mem Cov.nil), rfl, _, rfl, by kernel_rfl⟩
        · refine OJ.go 1 [(2, .bool y174)] ?_
          refine OJ.nil ?_
          exact SJ.ret rfl (Res.run (ys := [.bool y174]) (.tmp (by kernel_rfl) .nil) rfl)
      · refine SJ.sr 2 ?_
        refine OJ.go 2 [(69, .bool (a0.Kind == 10)), (70, .bool (a0.Kind == 10))] ?_
        refine OJ.nil ?_
        refine SJ.cond (t := (.tmp 69)) (b := (a0.Kind == 10)) beq_iff_eq (fun hc191 => ?_) (fun hc191 => ?_)
        · refine SJ.sr 6 ?_
          refine OJ.go 1 [(71, .pointer (some (pt b1 36)))] ?_
          refine OJ.kld (d := 72) (y := .tmp 71) (cd := c_api_Prefix) (j := 0) (b := b1) (o := 36) a0.P (pend2 := []) Ty38 rfl (At_weirlaw4_Op_P a0) rfl ?_
          refine OJ.go 1 [(73, .pointer (some (pt b1 2)))] ?_
          refine OJ.kld (d := 74) (y := .tmp 73) (cd := c_api_IP) (j := 0) (b := b1) (o := 2) a0.A (pend2 := []) Ty28 rfl (At_weirlaw4_Op_A a0) rfl ?_
          refine OJ.call (d := 75) (g := 51) (ats := #[38, 28]) (args := [.tmp 72, .tmp 74]) (owed := []) F51 (addr_Contains_ok a0.P a0.A) (fun r182 => ?_)
          refine OW.nil ?_
          refine OJ.go 1 [(11, .bool r182)] ?_
          refine OJ.nil ?_
          refine SJ.sr 6 ?_
          refine OJ.go 1 [(76, .pointer (some (pt b1 36)))] ?_
          refine OJ.kld (d := 77) (y := .tmp 76) (cd := c_api_Prefix) (j := 0) (b := b1) (o := 36) a0.P (pend2 := []) Ty38 rfl (At_weirlaw4_Op_P a0) rfl ?_
          refine OJ.go 1 [(78, .pointer (some (pt b1 2)))] ?_
          refine OJ.kld (d := 79) (y := .tmp 78) (cd := c_api_IP) (j := 0) (b := b1) (o := 2) a0.A (pend2 := []) Ty28 rfl (At_weirlaw4_Op_A a0) rfl ?_
          refine OJ.call (d := 80) (g := 52) (ats := #[38, 28]) (args := [.tmp 77, .tmp 79]) (owed := []) F52 (weirref4_Contains_ok a0.P a0.A) (fun r183 => ?_)
          refine OW.nil ?_
          refine OJ.go 1 [(12, .bool r183)] ?_
          refine OJ.nil ?_
          refine SJ.sr 4 ?_
          refine OJ.go 4 [(2, .bool (r182 == r183)), (83, .bool (r182 == r183)), (82, .bool r183), (81, .bool r182)] ?_
          refine OJ.nil ?_
          exact SJ.ret rfl (Res.run (ys := [.bool (r182 == r183)]) (.tmp (by kernel_rfl) .nil) rfl)
        · refine SJ.sr 2 ?_
          refine OJ.go 2 [(84, .bool (a0.Kind == 11)), (85, .bool (a0.Kind == 11))] ?_
          refine OJ.nil ?_
          refine SJ.cond (t := (.tmp 84)) (b := (a0.Kind == 11)) beq_iff_eq (fun hc190 => ?_) (fun hc190 => ?_)
          · refine SJ.sr 4 ?_
            refine OJ.go 1 [(86, .pointer (some (pt b1 2)))] ?_
            refine OJ.kld (d := 87) (y := .tmp 86) (cd := c_api_IP) (j := 0) (b := b1) (o := 2) a0.A (pend2 := []) Ty28 rfl (At_weirlaw4_Op_A a0) rfl ?_
            refine OJ.call (d := 88) (g := 12) (ats := #[28]) (args := [.tmp 87]) (owed := []) F12 (addr_Class_ok a0.A) (fun r186 => ?_)
            refine OW.nil ?_
            refine OJ.go 1 [(13, .int .i64 r186)] ?_
            refine OJ.nil ?_
            refine SJ.sr 4 ?_
            refine OJ.go 1 [(89, .pointer (some (pt b1 2)))] ?_
            refine OJ.kld (d := 90) (y := .tmp 89) (cd := c_api_IP) (j := 0) (b := b1) (o := 2) a0.A (pend2 := []) Ty28 rfl (At_weirlaw4_Op_A a0) rfl ?_
            refine OJ.call (d := 91) (g := 53) (ats := #[28]) (args := [.tmp 90]) (owed := []) F53 (weirref4_Class_ok a0.A) (fun r187 => ?_)
            refine OW.nil ?_
            refine OJ.go 1 [(14, .int .i64 r187)] ?_
            refine OJ.nil ?_
            refine SJ.sr 4 ?_
            refine OJ.go 4 [(2, .bool (r186 == r187)), (94, .bool (r186 == r187)), (93, .int .i64 r187), (92, .int .i64 r186)] ?_
            refine OJ.nil ?_
            exact SJ.ret rfl (Res.run (ys := [.bool (r186 == r187)]) (.tmp (by kernel_rfl) .nil) rfl)
          · refine SJ.skip ?_
            refine SJ.inBlock ?_
            refine SJ.sr 6 ?_
            refine OJ.go 1 [(95, .pointer (some (pt b1 2)))] ?_
            refine OJ.kld (d := 96) (y := .tmp 95) (cd := c_api_IP) (j := 0) (b := b1) (o := 2) a0.A (pend2 := []) Ty28 rfl (At_weirlaw4_Op_A a0) rfl ?_
            refine OJ.go 1 [(97, .pointer (some (pt b1 19)))] ?_
            refine OJ.kld (d := 98) (y := .tmp 97) (cd := c_api_IP) (j := 0) (b := b1) (o := 19) a0.B (pend2 := []) Ty28 rfl (At_weirlaw4_Op_B a0) rfl ?_
            refine OJ.call (d := 99) (g := 54) (ats := #[28, 28]) (args := [.tmp 96, .tmp 98]) (owed := []) F54 (addr_Less_ok a0.A a0.B) (fun r188 => ?_)
            refine OW.nil ?_
            refine OJ.go 1 [(15, .bool r188)] ?_
            refine OJ.nil ?_
            refine SJ.sr 6 ?_
            refine OJ.go 1 [(100, .pointer (some (pt b1 2)))] ?_
            refine OJ.kld (d := 101) (y := .tmp 100) (cd := c_api_IP) (j := 0) (b := b1) (o := 2) a0.A (pend2 := []) Ty28 rfl (At_weirlaw4_Op_A a0) rfl ?_
            refine OJ.go 1 [(102, .pointer (some (pt b1 19)))] ?_
            refine OJ.kld (d := 103) (y := .tmp 102) (cd := c_api_IP) (j := 0) (b := b1) (o := 19) a0.B (pend2 := []) Ty28 rfl (At_weirlaw4_Op_B a0) rfl ?_
            refine OJ.call (d := 104) (g := 55) (ats := #[28, 28]) (args := [.tmp 101, .tmp 103]) (owed := []) F55 (weirref4_Less_ok a0.A a0.B) (fun r189 => ?_)
            refine OW.nil ?_
            refine OJ.go 1 [(16, .bool r189)] ?_
            refine OJ.nil ?_
            refine SJ.sr 4 ?_
            refine OJ.go 4 [(2, .bool (r188 == r189)), (107, .bool (r188 == r189)), (106, .bool r189), (105, .bool r188)] ?_
            refine OJ.nil ?_
            exact SJ.ret rfl (Res.run (ys := [.bool (r188 == r189)]) (.tmp (by kernel_rfl) .nil) rfl)

/-! ### weir/addr.GroupMac: function 24 -/
noncomputable def addr_GroupMac.B : Code := (Tryz.f24.body).getD .skip
noncomputable def addr_GroupMac.cx : Fx := ⟨Tryz.prog, 24, Tryz.f24⟩
noncomputable def addr_GroupMac.out (r_ : ((Vec Int 6) × Int)) : Value := .tuple #[((cI .u8).arr 6).val r_.1, .int .i64 r_.2]
noncomputable def addr_GroupMac.F0 (r_ : ((Vec Int 6) × Int)) : Reach := .ret (addr_GroupMac.out r_)
noncomputable def addr_GroupMac (a0 : api_IP) : M ((Vec Int 6) × Int) :=
  slot 28 >>= fun b1 =>
  slot 40 >>= fun b2 =>
  slot 26 >>= fun b3 =>
  addr_Class a0 >>= fun r4 =>
  if r4 ≠ 3 then
    pure ((⟨[0, 0, 0, 0, 0, 0], rfl⟩ : (Vec Int 6)), 40)
  else
    if a0.V = 4 then
      pure ((⟨[1, 0, 94, band .u8 (Vec.g a0.A 1 0) 127, (Vec.g a0.A 2 0), (Vec.g a0.A 3 0)], rfl⟩ : (Vec Int 6)), 0)
    else
      pure ((⟨[51, 51, (Vec.g a0.A 12 0), (Vec.g a0.A 13 0), (Vec.g a0.A 14 0), (Vec.g a0.A 15 0)], rfl⟩ : (Vec Int 6)), 0)
theorem addr_GroupMac_ok (a0 : api_IP) : Ref Tryz.prog 24 [c_api_IP.val a0] (addr_GroupMac a0) addr_GroupMac.out := by
  refine Ref.of (cd := addr_GroupMac.B) Tryz.func24 ?_
  show SJ addr_GroupMac.cx [.code addr_GroupMac.B] [(0, c_api_IP.val a0)] [] (addr_GroupMac a0) addr_GroupMac.F0
  unfold addr_GroupMac
  refine SJ.sr 3 ?_
  refine OJ.slotOf (d := 1) (op := (.box 28 (.tmp 0))) (cd := c_api_IP) (u := a0) (owed := []) (box_run (by kernel_rfl)) (fun b1 => ?_)
  refine OW.nil ?_
  refine OJ.slotOf (d := 2) (op := (.alloc 40)) (cd := ((cI .u8).arr 6)) (u := (Vec.rep 6 0)) (owed := []) (alloc_run Ty40) (fun b2 => ?_)
  refine OW.nil ?_
  refine OJ.go 1 [(3, .int .i64 0)] ?_
  refine OJ.nil ?_
  refine SJ.sr 4 ?_
  refine OJ.go 1 [(5, .pointer (some (pt b1 1)))] ?_
  refine OJ.kld (d := 6) (y := .tmp 5) (cd := ((cI .u8).arr 16)) (j := 1) (b := b1) (o := 1) a0.A (pend2 := []) Ty26 rfl (At_api_IP_A a0) rfl ?_
  refine OJ.slotOf (d := 4) (op := (.alloc 26)) (cd := ((cI .u8).arr 16)) (u := (Vec.rep 16 0)) (owed := []) (alloc_run Ty26) (fun b3 => ?_)
  refine OW.nil ?_
  refine OJ.kst (y := .tmp 4) (z := .tmp 6) (cd := ((cI .u8).arr 16)) (u := a0.A) (j := 0) (b := b3) (o := 0) (((cI .u8).arr 16).enc a0.A) (owed := []) Ty26 rfl (Upd.whole ((Cod.len _ _).trans (Cod.len _ _).symm)) rfl ?_
  refine OW.nil ?_
  refine OJ.nil ?_
  refine SJ.seq ?_
  refine SJ.block (id := 0) ?_
  refine SJ.sr 4 ?_
  refine OJ.kld (d := 8) (y := .tmp 1) (cd := c_api_IP) (j := 2) (b := b1) (o := 0) a0 (pend2 := []) Ty28 rfl (At.whole _) rfl ?_
  refine OJ.call (d := 9) (g := 12) (ats := #[28]) (args := [.tmp 8]) (owed := []) F12 (addr_Class_ok a0) (fun r4 => ?_)
  refine OW.nil ?_
  refine OJ.go 2 [(7, .bool (r4 != 3)), (10, .bool (r4 != 3))] ?_
  refine OJ.nil ?_
  refine SJ.cond (t := (.tmp 7)) (b := (r4 != 3)) bne_iff_ne (fun hc7 => ?_) (fun hc7 => ?_)
  · refine SJ.sr 3 ?_
    refine OJ.build (d := 11) (T := 40) (parts := []) (ps := []) (cd := ((cI .u8).arr 6)) (z0 := (Vec.rep 6 0)) (⟨[0, 0, 0, 0, 0, 0], rfl⟩ : (Vec Int 6)) Ty40 rfl Filled.nil ?_
    refine OJ.kst (y := .tmp 2) (z := .tmp 11) (cd := ((cI .u8).arr 6)) (u := (⟨[0, 0, 0, 0, 0, 0], rfl⟩ : (Vec Int 6))) (j := 1) (b := b2) (o := 0) (((cI .u8).arr 6).enc (⟨[0, 0, 0, 0, 0, 0], rfl⟩ : (Vec Int 6))) (owed := []) Ty40 rfl (Upd.whole ((Cod.len _ _).trans (Cod.len _ _).symm)) rfl ?_
    refine OW.nil ?_
    refine OJ.go 1 [(3, .int .i64 40)] ?_
    refine OJ.nil ?_
    exact SJ.ret rfl (Res.run (ys := [((cI .u8).arr 6).val (⟨[0, 0, 0, 0, 0, 0], rfl⟩ : (Vec Int 6)), .int .i64 40]) (.cell (j := 1) (b := b2) (cd := ((cI .u8).arr 6)) (q := (⟨[0, 0, 0, 0, 0, 0], rfl⟩ : (Vec Int 6))) (by kernel_rfl) rfl Ty40 (At.whole _) (.tmp (by kernel_rfl) .nil)) rfl)
  · refine SJ.sr 4 ?_
    refine OJ.go 1 [(13, .pointer (some (pt b1 0)))] ?_
    refine OJ.kld (d := 14) (y := .tmp 13) (cd := (cI .i64)) (j := 2) (b := b1) (o := 0) a0.V (pend2 := []) Ty3 rfl (At_api_IP_V a0) rfl ?_
    refine OJ.go 2 [(12, .bool (a0.V == 4)), (15, .bool (a0.V == 4))] ?_
    refine OJ.nil ?_
    refine SJ.cond (t := (.tmp 12)) (b := (a0.V == 4)) beq_iff_eq (fun hc6 => ?_) (fun hc6 => ?_)
    · refine SJ.sr 10 ?_
      refine OJ.go 1 [(16, .pointer (some (pt b3 1)))] ?_
      refine OJ.kld (d := 17) (y := .tmp 16) (cd := (cI .u8)) (j := 0) (b := b3) (o := 1) (Vec.g a0.A 1 0) (pend2 := []) Ty5 rfl (At.zero (At.arr (z := 0) (by decide) (by decide))) rfl ?_
      refine OJ.go 2 [(19, .pointer (some (pt b3 2))), (18, .int .u8 (band .u8 (Vec.g a0.A 1 0) 127))] ?_
      refine OJ.kld (d := 20) (y := .tmp 19) (cd := (cI .u8)) (j := 0) (b := b3) (o := 2) (Vec.g a0.A 2 0) (pend2 := []) Ty5 rfl (At.zero (At.arr (z := 0) (by decide) (by decide))) rfl ?_
      refine OJ.go 1 [(21, .pointer (some (pt b3 3)))] ?_
      refine OJ.kld (d := 22) (y := .tmp 21) (cd := (cI .u8)) (j := 0) (b := b3) (o := 3) (Vec.g a0.A 3 0) (pend2 := []) Ty5 rfl (At.zero (At.arr (z := 0) (by decide) (by decide))) rfl ?_
      refine OJ.build (d := 23) (T := 40) (parts := [(0, .const (.int .u8 1)), (1, .const (.int .u8 0)), (2, .const (.int .u8 94)), (3, .tmp 18), (4, .tmp 20), (5, .tmp 22)]) (ps := [(0, (cI .u8).val 1), (1, (cI .u8).val 0), (2, (cI .u8).val 94), (3, (cI .u8).val (band .u8 (Vec.g a0.A 1 0) 127)), (4, (cI .u8).val (Vec.g a0.A 2 0)), (5, (cI .u8).val (Vec.g a0.A 3 0))]) (cd := ((cI .u8).arr 6)) (z0 := (Vec.rep 6 0)) (⟨[1, 0, 94, band .u8 (Vec.g a0.A 1 0) 127, (Vec.g a0.A 2 0), (Vec.g a0.A 3 0)], rfl⟩ : (Vec Int 6)) Ty40 rfl (Filled.cons (cd := (cI .u8)) (q := 1) (o := 0) (by kernel_rfl) (Upd.arr (i := 0) (by decide) (by decide)) (Filled.cons (cd := (cI .u8)) (q := 0) (o := 1) (by kernel_rfl) (Upd.arr (i := 1) (by decide) (by decide)) (Filled.cons (cd := (cI .u8)) (q := 94) (o := 2) (by kernel_rfl) (Upd.arr (i := 2) (by decide) (by decide)) (Filled.cons (cd := (cI .u8)) (q := (band .u8 (Vec.g a0.A 1 0) 127)) (o := 3) (by kernel_rfl) (Upd.arr (i := 3) (by decide) (by decide)) (Filled.cons (cd := (cI .u8)) (q := (Vec.g a0.A 2 0)) (o := 4) (by kernel_rfl) (Upd.arr (i := 4) (by decide) (by decide)) (Filled.cons (cd := (cI .u8)) (q := (Vec.g a0.A 3 0)) (o := 5) (by kernel_rfl) (Upd.arr (i := 5) (by decide) (by decide)) Filled.nil)))))) ?_
      refine OJ.kst (y := .tmp 2) (z := .tmp 23) (cd := ((cI .u8).arr 6)) (u := (⟨[1, 0, 94, band .u8 (Vec.g a0.A 1 0) 127, (Vec.g a0.A 2 0), (Vec.g a0.A 3 0)], rfl⟩ : (Vec Int 6))) (j := 1) (b := b2) (o := 0) (((cI .u8).arr 6).enc (⟨[1, 0, 94, band .u8 (Vec.g a0.A 1 0) 127, (Vec.g a0.A 2 0), (Vec.g a0.A 3 0)], rfl⟩ : (Vec Int 6))) (owed := []) Ty40 rfl (Upd.whole ((Cod.len _ _).trans (Cod.len _ _).symm)) rfl ?_
      refine OW.nil ?_
      refine OJ.go 1 [(3, .int .i64 0)] ?_
      refine OJ.nil ?_
      exact SJ.ret rfl (Res.run (ys := [((cI .u8).arr 6).val (⟨[1, 0, 94, band .u8 (Vec.g a0.A 1 0) 127, (Vec.g a0.A 2 0), (Vec.g a0.A 3 0)], rfl⟩ : (Vec Int 6)), .int .i64 0]) (.cell (j := 1) (b := b2) (cd := ((cI .u8).arr 6)) (q := (⟨[1, 0, 94, band .u8 (Vec.g a0.A 1 0) 127, (Vec.g a0.A 2 0), (Vec.g a0.A 3 0)], rfl⟩ : (Vec Int 6))) (by kernel_rfl) rfl Ty40 (At.whole _) (.tmp (by kernel_rfl) .nil)) rfl)
    · refine SJ.skip ?_
      refine SJ.inBlock ?_
      refine SJ.sr 11 ?_
      refine OJ.go 1 [(24, .pointer (some (pt b3 12)))] ?_
      refine OJ.kld (d := 25) (y := .tmp 24) (cd := (cI .u8)) (j := 0) (b := b3) (o := 12) (Vec.g a0.A 12 0) (pend2 := []) Ty5 rfl (At.zero (At.arr (z := 0) (by decide) (by decide))) rfl ?_
      refine OJ.go 1 [(26, .pointer (some (pt b3 13)))] ?_
      refine OJ.kld (d := 27) (y := .tmp 26) (cd := (cI .u8)) (j := 0) (b := b3) (o := 13) (Vec.g a0.A 13 0) (pend2 := []) Ty5 rfl (At.zero (At.arr (z := 0) (by decide) (by decide))) rfl ?_
      refine OJ.go 1 [(28, .pointer (some (pt b3 14)))] ?_
      refine OJ.kld (d := 29) (y := .tmp 28) (cd := (cI .u8)) (j := 0) (b := b3) (o := 14) (Vec.g a0.A 14 0) (pend2 := []) Ty5 rfl (At.zero (At.arr (z := 0) (by decide) (by decide))) rfl ?_
      refine OJ.go 1 [(30, .pointer (some (pt b3 15)))] ?_
      refine OJ.kld (d := 31) (y := .tmp 30) (cd := (cI .u8)) (j := 0) (b := b3) (o := 15) (Vec.g a0.A 15 0) (pend2 := []) Ty5 rfl (At.zero (At.arr (z := 0) (by decide) (by decide))) rfl ?_
      refine OJ.build (d := 32) (T := 40) (parts := [(0, .const (.int .u8 51)), (1, .const (.int .u8 51)), (2, .tmp 25), (3, .tmp 27), (4, .tmp 29), (5, .tmp 31)]) (ps := [(0, (cI .u8).val 51), (1, (cI .u8).val 51), (2, (cI .u8).val (Vec.g a0.A 12 0)), (3, (cI .u8).val (Vec.g a0.A 13 0)), (4, (cI .u8).val (Vec.g a0.A 14 0)), (5, (cI .u8).val (Vec.g a0.A 15 0))]) (cd := ((cI .u8).arr 6)) (z0 := (Vec.rep 6 0)) (⟨[51, 51, (Vec.g a0.A 12 0), (Vec.g a0.A 13 0), (Vec.g a0.A 14 0), (Vec.g a0.A 15 0)], rfl⟩ : (Vec Int 6)) Ty40 rfl (Filled.cons (cd := (cI .u8)) (q := 51) (o := 0) (by kernel_rfl) (Upd.arr (i := 0) (by decide) (by decide)) (Filled.cons (cd := (cI .u8)) (q := 51) (o := 1) (by kernel_rfl) (Upd.arr (i := 1) (by decide) (by decide)) (Filled.cons (cd := (cI .u8)) (q := (Vec.g a0.A 12 0)) (o := 2) (by kernel_rfl) (Upd.arr (i := 2) (by decide) (by decide)) (Filled.cons (cd := (cI .u8)) (q := (Vec.g a0.A 13 0)) (o := 3) (by kernel_rfl) (Upd.arr (i := 3) (by decide) (by decide)) (Filled.cons (cd := (cI .u8)) (q := (Vec.g a0.A 14 0)) (o := 4) (by kernel_rfl) (Upd.arr (i := 4) (by decide) (by decide)) (Filled.cons (cd := (cI .u8)) (q := (Vec.g a0.A 15 0)) (o := 5) (by kernel_rfl) (Upd.arr (i := 5) (by decide) (by decide)) Filled.nil)))))) ?_
      refine OJ.kst (y := .tmp 2) (z := .tmp 32) (cd := ((cI .u8).arr 6)) (u := (⟨[51, 51, (Vec.g a0.A 12 0), (Vec.g a0.A 13 0), (Vec.g a0.A 14 0), (Vec.g a0.A 15 0)], rfl⟩ : (Vec Int 6))) (j := 1) (b := b2) (o := 0) (((cI .u8).arr 6).enc (⟨[51, 51, (Vec.g a0.A 12 0), (Vec.g a0.A 13 0), (Vec.g a0.A 14 0), (Vec.g a0.A 15 0)], rfl⟩ : (Vec Int 6))) (owed := []) Ty40 rfl (Upd.whole ((Cod.len _ _).trans (Cod.len _ _).symm)) rfl ?_
      refine OW.nil ?_
      refine OJ.go 1 [(3, .int .i64 0)] ?_
      refine OJ.nil ?_
      exact SJ.ret rfl (Res.run (ys := [((cI .u8).arr 6).val (⟨[51, 51, (Vec.g a0.A 12 0), (Vec.g a0.A 13 0), (Vec.g a0.A 14 0), (Vec.g a0.A 15 0)], rfl⟩ : (Vec Int 6)), .int .i64 0]) (.cell (j := 1) (b := b2) (cd := ((cI .u8).arr 6)) (q := (⟨[51, 51, (Vec.g a0.A 12 0), (Vec.g a0.A 13 0), (Vec.g a0.A 14 0), (Vec.g a0.A 15 0)], rfl⟩ : (Vec Int 6))) (by kernel_rfl) rfl Ty40 (At.whole _) (.tmp (by kernel_rfl) .nil)) rfl)

/-! ### weir/weirref4.GroupMac: function 25 -/
noncomputable def weirref4_GroupMac.B : Code := (Tryz.f25.body).getD .skip
noncomputable def weirref4_GroupMac.cx : Fx := ⟨Tryz.prog, 25, Tryz.f25⟩
noncomputable def weirref4_GroupMac.out (r_ : ((Vec Int 6) × Int)) : Value := .tuple #[((cI .u8).arr 6).val r_.1, .int .i64 r_.2]
noncomputable def weirref4_GroupMac.F0 (r_ : ((Vec Int 6) × Int)) : Reach := .ret (weirref4_GroupMac.out r_)
noncomputable def weirref4_GroupMac (a0 : api_IP) : M ((Vec Int 6) × Int) :=
  slot 28 >>= fun b1 =>
  slot 40 >>= fun b2 =>
  weirref4_Class a0 >>= fun r3 =>
  if r3 ≠ 3 then
    pure ((⟨[0, 0, 0, 0, 0, 0], rfl⟩ : (Vec Int 6)), 40)
  else
    if a0.V = 4 then
      pure ((⟨[1, 0, 94, Int.tmod (Vec.g a0.A 1 0) 128, (Vec.g a0.A 2 0), (Vec.g a0.A 3 0)], rfl⟩ : (Vec Int 6)), 0)
    else
      pure ((⟨[51, 51, (Vec.g a0.A 12 0), (Vec.g a0.A 13 0), (Vec.g a0.A 14 0), (Vec.g a0.A 15 0)], rfl⟩ : (Vec Int 6)), 0)
theorem weirref4_GroupMac_ok (a0 : api_IP) : Ref Tryz.prog 25 [c_api_IP.val a0] (weirref4_GroupMac a0) weirref4_GroupMac.out := by
  refine Ref.of (cd := weirref4_GroupMac.B) Tryz.func25 ?_
  show SJ weirref4_GroupMac.cx [.code weirref4_GroupMac.B] [(0, c_api_IP.val a0)] [] (weirref4_GroupMac a0) weirref4_GroupMac.F0
  unfold weirref4_GroupMac
  refine SJ.sr 3 ?_
  refine OJ.slotOf (d := 1) (op := (.box 28 (.tmp 0))) (cd := c_api_IP) (u := a0) (owed := []) (box_run (by kernel_rfl)) (fun b1 => ?_)
  refine OW.nil ?_
  refine OJ.slotOf (d := 2) (op := (.alloc 40)) (cd := ((cI .u8).arr 6)) (u := (Vec.rep 6 0)) (owed := []) (alloc_run Ty40) (fun b2 => ?_)
  refine OW.nil ?_
  refine OJ.go 1 [(3, .int .i64 0)] ?_
  refine OJ.nil ?_
  refine SJ.sr 3 ?_
  refine OJ.kld (d := 5) (y := .tmp 1) (cd := c_api_IP) (j := 1) (b := b1) (o := 0) a0 (pend2 := []) Ty28 rfl (At.whole _) rfl ?_
  refine OJ.call (d := 6) (g := 53) (ats := #[28]) (args := [.tmp 5]) (owed := []) F53 (weirref4_Class_ok a0) (fun r3 => ?_)
  refine OW.nil ?_
  refine OJ.go 1 [(4, .int .i64 r3)] ?_
  refine OJ.nil ?_
  refine SJ.seq ?_
  refine SJ.sr 2 ?_
  refine OJ.go 2 [(8, .bool (r3 != 3)), (7, .int .i64 r3)] ?_
  refine OJ.nil ?_
  refine SJ.cond (t := (.tmp 8)) (b := (r3 != 3)) bne_iff_ne (fun hc5 => ?_) (fun hc5 => ?_)
  · refine SJ.sr 3 ?_
    refine OJ.build (d := 9) (T := 40) (parts := []) (ps := []) (cd := ((cI .u8).arr 6)) (z0 := (Vec.rep 6 0)) (⟨[0, 0, 0, 0, 0, 0], rfl⟩ : (Vec Int 6)) Ty40 rfl Filled.nil ?_
    refine OJ.kst (y := .tmp 2) (z := .tmp 9) (cd := ((cI .u8).arr 6)) (u := (⟨[0, 0, 0, 0, 0, 0], rfl⟩ : (Vec Int 6))) (j := 0) (b := b2) (o := 0) (((cI .u8).arr 6).enc (⟨[0, 0, 0, 0, 0, 0], rfl⟩ : (Vec Int 6))) (owed := []) Ty40 rfl (Upd.whole ((Cod.len _ _).trans (Cod.len _ _).symm)) rfl ?_
    refine OW.nil ?_
    refine OJ.go 1 [(3, .int .i64 40)] ?_
    refine OJ.nil ?_
    exact SJ.ret rfl (Res.run (ys := [((cI .u8).arr 6).val (⟨[0, 0, 0, 0, 0, 0], rfl⟩ : (Vec Int 6)), .int .i64 40]) (.cell (j := 0) (b := b2) (cd := ((cI .u8).arr 6)) (q := (⟨[0, 0, 0, 0, 0, 0], rfl⟩ : (Vec Int 6))) (by kernel_rfl) rfl Ty40 (At.whole _) (.tmp (by kernel_rfl) .nil)) rfl)
  · refine SJ.skip ?_
    refine SJ.seq ?_
    refine SJ.sr 3 ?_
    refine OJ.go 1 [(10, .pointer (some (pt b1 0)))] ?_
    refine OJ.kld (d := 11) (y := .tmp 10) (cd := (cI .i64)) (j := 1) (b := b1) (o := 0) a0.V (pend2 := []) Ty3 rfl (At_api_IP_V a0) rfl ?_
    refine OJ.go 1 [(12, .bool (a0.V == 4))] ?_
    refine OJ.nil ?_
    refine SJ.cond (t := (.tmp 12)) (b := (a0.V == 4)) beq_iff_eq (fun hc4 => ?_) (fun hc4 => ?_)
    · refine SJ.sr 13 ?_
      refine OJ.go 2 [(14, .pointer (some (pt b1 2))), (13, .pointer (some (pt b1 1)))] ?_
      refine OJ.kld (d := 15) (y := .tmp 14) (cd := (cI .u8)) (j := 1) (b := b1) (o := 2) (Vec.g a0.A 1 0) (pend2 := []) Ty5 rfl (At.trans (At_api_IP_A a0) (At.arr (z := 0) (by decide) (by decide))) rfl ?_
      refine OJ.go 3 [(18, .pointer (some (pt b1 3))), (17, .pointer (some (pt b1 1))), (16, .int .u8 (Int.tmod (Vec.g a0.A 1 0) 128))] ?_
      refine OJ.kld (d := 19) (y := .tmp 18) (cd := (cI .u8)) (j := 1) (b := b1) (o := 3) (Vec.g a0.A 2 0) (pend2 := []) Ty5 rfl (At.trans (At_api_IP_A a0) (At.arr (z := 0) (by decide) (by decide))) rfl ?_
      refine OJ.go 2 [(21, .pointer (some (pt b1 4))), (20, .pointer (some (pt b1 1)))] ?_
      refine OJ.kld (d := 22) (y := .tmp 21) (cd := (cI .u8)) (j := 1) (b := b1) (o := 4) (Vec.g a0.A 3 0) (pend2 := []) Ty5 rfl (At.trans (At_api_IP_A a0) (At.arr (z := 0) (by decide) (by decide))) rfl ?_
      refine OJ.build (d := 23) (T := 40) (parts := [(0, .const (.int .u8 1)), (1, .const (.int .u8 0)), (2, .const (.int .u8 94)), (3, .tmp 16), (4, .tmp 19), (5, .tmp 22)]) (ps := [(0, (cI .u8).val 1), (1, (cI .u8).val 0), (2, (cI .u8).val 94), (3, (cI .u8).val (Int.tmod (Vec.g a0.A 1 0) 128)), (4, (cI .u8).val (Vec.g a0.A 2 0)), (5, (cI .u8).val (Vec.g a0.A 3 0))]) (cd := ((cI .u8).arr 6)) (z0 := (Vec.rep 6 0)) (⟨[1, 0, 94, Int.tmod (Vec.g a0.A 1 0) 128, (Vec.g a0.A 2 0), (Vec.g a0.A 3 0)], rfl⟩ : (Vec Int 6)) Ty40 rfl (Filled.cons (cd := (cI .u8)) (q := 1) (o := 0) (by kernel_rfl) (Upd.arr (i := 0) (by decide) (by decide)) (Filled.cons (cd := (cI .u8)) (q := 0) (o := 1) (by kernel_rfl) (Upd.arr (i := 1) (by decide) (by decide)) (Filled.cons (cd := (cI .u8)) (q := 94) (o := 2) (by kernel_rfl) (Upd.arr (i := 2) (by decide) (by decide)) (Filled.cons (cd := (cI .u8)) (q := (Int.tmod (Vec.g a0.A 1 0) 128)) (o := 3) (by kernel_rfl) (Upd.arr (i := 3) (by decide) (by decide)) (Filled.cons (cd := (cI .u8)) (q := (Vec.g a0.A 2 0)) (o := 4) (by kernel_rfl) (Upd.arr (i := 4) (by decide) (by decide)) (Filled.cons (cd := (cI .u8)) (q := (Vec.g a0.A 3 0)) (o := 5) (by kernel_rfl) (Upd.arr (i := 5) (by decide) (by decide)) Filled.nil)))))) ?_
      refine OJ.kst (y := .tmp 2) (z := .tmp 23) (cd := ((cI .u8).arr 6)) (u := (⟨[1, 0, 94, Int.tmod (Vec.g a0.A 1 0) 128, (Vec.g a0.A 2 0), (Vec.g a0.A 3 0)], rfl⟩ : (Vec Int 6))) (j := 0) (b := b2) (o := 0) (((cI .u8).arr 6).enc (⟨[1, 0, 94, Int.tmod (Vec.g a0.A 1 0) 128, (Vec.g a0.A 2 0), (Vec.g a0.A 3 0)], rfl⟩ : (Vec Int 6))) (owed := []) Ty40 rfl (Upd.whole ((Cod.len _ _).trans (Cod.len _ _).symm)) rfl ?_
      refine OW.nil ?_
      refine OJ.go 1 [(3, .int .i64 0)] ?_
      refine OJ.nil ?_
      exact SJ.ret rfl (Res.run (ys := [((cI .u8).arr 6).val (⟨[1, 0, 94, Int.tmod (Vec.g a0.A 1 0) 128, (Vec.g a0.A 2 0), (Vec.g a0.A 3 0)], rfl⟩ : (Vec Int 6)), .int .i64 0]) (.cell (j := 0) (b := b2) (cd := ((cI .u8).arr 6)) (q := (⟨[1, 0, 94, Int.tmod (Vec.g a0.A 1 0) 128, (Vec.g a0.A 2 0), (Vec.g a0.A 3 0)], rfl⟩ : (Vec Int 6))) (by kernel_rfl) rfl Ty40 (At.whole _) (.tmp (by kernel_rfl) .nil)) rfl)
    · refine SJ.skip ?_
      refine SJ.sr 15 ?_
      refine OJ.go 2 [(25, .pointer (some (pt b1 13))), (24, .pointer (some (pt b1 1)))] ?_
      refine OJ.kld (d := 26) (y := .tmp 25) (cd := (cI .u8)) (j := 1) (b := b1) (o := 13) (Vec.g a0.A 12 0) (pend2 := []) Ty5 rfl (At.trans (At_api_IP_A a0) (At.arr (z := 0) (by decide) (by decide))) rfl ?_
      refine OJ.go 2 [(28, .pointer (some (pt b1 14))), (27, .pointer (some (pt b1 1)))] ?_
      refine OJ.kld (d := 29) (y := .tmp 28) (cd := (cI .u8)) (j := 1) (b := b1) (o := 14) (Vec.g a0.A 13 0) (pend2 := []) Ty5 rfl (At.trans (At_api_IP_A a0) (At.arr (z := 0) (by decide) (by decide))) rfl ?_
      refine OJ.go 2 [(31, .pointer (some (pt b1 15))), (30, .pointer (some (pt b1 1)))] ?_
      refine OJ.kld (d := 32) (y := .tmp 31) (cd := (cI .u8)) (j := 1) (b := b1) (o := 15) (Vec.g a0.A 14 0) (pend2 := []) Ty5 rfl (At.trans (At_api_IP_A a0) (At.arr (z := 0) (by decide) (by decide))) rfl ?_
      refine OJ.go 2 [(34, .pointer (some (pt b1 16))), (33, .pointer (some (pt b1 1)))] ?_
      refine OJ.kld (d := 35) (y := .tmp 34) (cd := (cI .u8)) (j := 1) (b := b1) (o := 16) (Vec.g a0.A 15 0) (pend2 := []) Ty5 rfl (At.trans (At_api_IP_A a0) (At.arr (z := 0) (by decide) (by decide))) rfl ?_
      refine OJ.build (d := 36) (T := 40) (parts := [(0, .const (.int .u8 51)), (1, .const (.int .u8 51)), (2, .tmp 26), (3, .tmp 29), (4, .tmp 32), (5, .tmp 35)]) (ps := [(0, (cI .u8).val 51), (1, (cI .u8).val 51), (2, (cI .u8).val (Vec.g a0.A 12 0)), (3, (cI .u8).val (Vec.g a0.A 13 0)), (4, (cI .u8).val (Vec.g a0.A 14 0)), (5, (cI .u8).val (Vec.g a0.A 15 0))]) (cd := ((cI .u8).arr 6)) (z0 := (Vec.rep 6 0)) (⟨[51, 51, (Vec.g a0.A 12 0), (Vec.g a0.A 13 0), (Vec.g a0.A 14 0), (Vec.g a0.A 15 0)], rfl⟩ : (Vec Int 6)) Ty40 rfl (Filled.cons (cd := (cI .u8)) (q := 51) (o := 0) (by kernel_rfl) (Upd.arr (i := 0) (by decide) (by decide)) (Filled.cons (cd := (cI .u8)) (q := 51) (o := 1) (by kernel_rfl) (Upd.arr (i := 1) (by decide) (by decide)) (Filled.cons (cd := (cI .u8)) (q := (Vec.g a0.A 12 0)) (o := 2) (by kernel_rfl) (Upd.arr (i := 2) (by decide) (by decide)) (Filled.cons (cd := (cI .u8)) (q := (Vec.g a0.A 13 0)) (o := 3) (by kernel_rfl) (Upd.arr (i := 3) (by decide) (by decide)) (Filled.cons (cd := (cI .u8)) (q := (Vec.g a0.A 14 0)) (o := 4) (by kernel_rfl) (Upd.arr (i := 4) (by decide) (by decide)) (Filled.cons (cd := (cI .u8)) (q := (Vec.g a0.A 15 0)) (o := 5) (by kernel_rfl) (Upd.arr (i := 5) (by decide) (by decide)) Filled.nil)))))) ?_
      refine OJ.kst (y := .tmp 2) (z := .tmp 36) (cd := ((cI .u8).arr 6)) (u := (⟨[51, 51, (Vec.g a0.A 12 0), (Vec.g a0.A 13 0), (Vec.g a0.A 14 0), (Vec.g a0.A 15 0)], rfl⟩ : (Vec Int 6))) (j := 0) (b := b2) (o := 0) (((cI .u8).arr 6).enc (⟨[51, 51, (Vec.g a0.A 12 0), (Vec.g a0.A 13 0), (Vec.g a0.A 14 0), (Vec.g a0.A 15 0)], rfl⟩ : (Vec Int 6))) (owed := []) Ty40 rfl (Upd.whole ((Cod.len _ _).trans (Cod.len _ _).symm)) rfl ?_
      refine OW.nil ?_
      refine OJ.go 1 [(3, .int .i64 0)] ?_
      refine OJ.nil ?_
      exact SJ.ret rfl (Res.run (ys := [((cI .u8).arr 6).val (⟨[51, 51, (Vec.g a0.A 12 0), (Vec.g a0.A 13 0), (Vec.g a0.A 14 0), (Vec.g a0.A 15 0)], rfl⟩ : (Vec Int 6)), .int .i64 0]) (.cell (j := 0) (b := b2) (cd := ((cI .u8).arr 6)) (q := (⟨[51, 51, (Vec.g a0.A 12 0), (Vec.g a0.A 13 0), (Vec.g a0.A 14 0), (Vec.g a0.A 15 0)], rfl⟩ : (Vec Int 6))) (by kernel_rfl) rfl Ty40 (At.whole _) (.tmp (by kernel_rfl) .nil)) rfl)
end Go.Proofs.YtddmmgcfanpmmaaGreatDoor.Lx
