/- Programs of the M-world for Go functions, each with the proof that the Go text does what it says. Printed by lxgen.py. -/
import Derived.Test.YtddmmgcfanpmmaaDoorLxT
import Derived.Test.YtddmmgcfanpmmaaDoorLxP0
import Derived.Test.YtddmmgcfanpmmaaDoorLxP1
import Derived.Test.YtddmmgcfanpmmaaDoorLxP2
set_option linter.unusedVariables false
set_option linter.unusedSimpArgs false
namespace Go.Proofs.YtddmmgcfanpmmaaDoor.Lx
open Go Go.Proofs
/-! ### weir/weirlaw4.AddrNets: function 4 -/
noncomputable def weirlaw4_AddrNets.B : Code := (Tryd.f4.body).getD .skip
noncomputable def weirlaw4_AddrNets.cx : Fx := ⟨Tryd.prog, 4, Tryd.f4⟩
noncomputable def weirlaw4_AddrNets.out (r_ : Bool) : Value := .bool r_
noncomputable def weirlaw4_AddrNets.F0 (r_ : Bool) : Reach := .ret (weirlaw4_AddrNets.out r_)
noncomputable def weirlaw4_AddrNets (a0 : api_IP) (a1 : api_IP) (a2 : Int) (a3 : Int) : M Bool :=
  slot 27 >>= fun b1 =>
  slot 27 >>= fun b2 =>
  addr_Mask a0 a2 >>= fun r3 =>
  slot 27 >>= fun b4 =>
  weirlaw4_num r3.2 >>= fun r5 =>
  if r5 ≠ 0 then
    weirlaw4_started >>= fun r8 =>
    (if r8 = true then
        pure (eqv r3.1 z_api_IP)
      else
        pure false) >>= fun y9 =>
    pure y9
  else
    slot 37 >>= fun b10 =>
    addr_ValidPrefix (⟨r3.1, a2⟩ : api_Prefix) >>= fun r11 =>
    weirlaw4_num r11 >>= fun r12 =>
    (if r12 ≠ 0 then
        pure true
      else
        addr_Contains (⟨r3.1, a2⟩ : api_Prefix) a0 >>= fun r13 =>
        pure (!r13)) >>= fun y14 =>
    (if y14 = true then
        pure true
      else
        addr_Contains (⟨r3.1, a2⟩ : api_Prefix) r3.1 >>= fun r15 =>
        pure (!r15)) >>= fun y16 =>
    if y16 = true then
      pure false
    else
      addr_Mask a1 a2 >>= fun r17 =>
      slot 27 >>= fun b18 =>
      weirlaw4_num r17.2 >>= fun r19 =>
      (if r19 = 0 then
          pure (a1.V == a0.V)
        else
          pure false) >>= fun y20 =>
      (if y20 = true then
          pure (eqv r17.1 r3.1)
        else
          pure false) >>= fun y21 =>
      addr_Contains (⟨r3.1, a2⟩ : api_Prefix) a1 >>= fun r22 =>
      if ¬ (r22 = y21) then
        pure false
      else
        addr_Mask r3.1 a3 >>= fun r23 =>
        slot 27 >>= fun b24 =>
        weirlaw4_num r23.2 >>= fun r25 =>
        if r25 ≠ 0 then
          weirlaw4_started >>= fun r27 =>
          pure r27
        else
          addr_Mask a0 (if a3 < a2 then a3 else a2) >>= fun r28 =>
          slot 27 >>= fun b29 =>
          slot 37 >>= fun b30 =>
          weirlaw4_started >>= fun r31 =>
          (if r31 = true then
              weirlaw4_num r28.2 >>= fun r32 =>
              pure (r32 == 0)
            else
              pure false) >>= fun y33 =>
          (if y33 = true then
              pure (eqv r23.1 r28.1)
            else
              pure false) >>= fun y34 =>
          (if y34 = true then
              addr_Contains (⟨r28.1, (if a3 < a2 then a3 else a2)⟩ : api_Prefix) a0 >>= fun r35 =>
              pure r35
            else
              pure false) >>= fun y36 =>
          (if y36 = true then
              (if ¬ (y21 = true) then
                  pure true
                else
                  addr_Contains (⟨r28.1, (if a3 < a2 then a3 else a2)⟩ : api_Prefix) a1 >>= fun r37 =>
                  pure r37) >>= fun y38 =>
              pure y38
            else
              pure false) >>= fun y39 =>
          pure y39
theorem weirlaw4_AddrNets_ok (a0 : api_IP) (a1 : api_IP) (a2 : Int) (a3 : Int) : Ref Tryd.prog 4 [c_api_IP.val a0, c_api_IP.val a1, .int .i64 a2, .int .i64 a3] (weirlaw4_AddrNets a0 a1 a2 a3) weirlaw4_AddrNets.out := by
  refine Ref.of (cd := weirlaw4_AddrNets.B) Tryd.func4 ?_
  show SJ weirlaw4_AddrNets.cx [.code weirlaw4_AddrNets.B] [(0, c_api_IP.val a0), (1, c_api_IP.val a1), (2, .int .i64 a2), (3, .int .i64 a3)] [] (weirlaw4_AddrNets a0 a1 a2 a3) weirlaw4_AddrNets.F0
  unfold weirlaw4_AddrNets
  refine SJ.sr 3 ?_
  refine OJ.slotOf (d := 4) (op := (.box 27 (.tmp 0))) (cd := c_api_IP) (u := a0) (owed := []) (box_run (by kernel_rfl)) (fun b1 => ?_)
  refine OW.nil ?_
  refine OJ.slotOf (d := 5) (op := (.box 27 (.tmp 1))) (cd := c_api_IP) (u := a1) (owed := []) (box_run (by kernel_rfl)) (fun b2 => ?_)
  refine OW.nil ?_
  refine OJ.go 1 [(8, .bool false)] ?_
  refine OJ.nil ?_
  refine SJ.sr 9 ?_
  refine OJ.kld (d := 21) (y := .tmp 4) (cd := c_api_IP) (j := 1) (b := b1) (o := 0) a0 (pend2 := []) Ty27 rfl (At.whole _) rfl ?_
  refine OJ.go 1 [(22, .int .i64 a2)] ?_
  refine OJ.call (d := 23) (g := 13) (ats := #[27, 3]) (args := [.tmp 21, .tmp 22]) (owed := []) F13 (addr_Mask_ok a0 a2) (fun r3 => ?_)
  refine OW.nil ?_
  refine OJ.go 3 [(25, .int .i64 r3.2), (24, c_api_IP.val r3.1), (20, .tuple #[c_api_IP.val r3.1, .int .i64 r3.2])] ?_
  refine OJ.slotOf (d := 9) (op := (.alloc 27)) (cd := c_api_IP) (u := z_api_IP) (owed := []) (alloc_run Ty27) (fun b4 => ?_)
  refine OW.nil ?_
  refine OJ.kst (y := .tmp 9) (z := .tmp 24) (cd := c_api_IP) (u := r3.1) (j := 0) (b := b4) (o := 0) (c_api_IP.enc r3.1) (owed := []) Ty27 rfl (Upd.whole ((Cod.len _ _).trans (Cod.len _ _).symm)) rfl ?_
  refine OW.nil ?_
  refine OJ.go 1 [(10, .int .i64 r3.2)] ?_
  refine OJ.nil ?_
  refine SJ.seq ?_
  refine SJ.sr 3 ?_
  refine OJ.go 1 [(26, .int .i64 r3.2)] ?_
  refine OJ.call (d := 27) (g := 12) (ats := #[28]) (args := [.tmp 26]) (owed := []) F12 (weirlaw4_num_ok r3.2) (fun r5 => ?_)
  refine OW.nil ?_
  refine OJ.go 1 [(28, .bool (r5 != 0))] ?_
  refine OJ.nil ?_
  refine SJ.cond (t := (.tmp 28)) (b := (r5 != 0)) bne_iff_ne (fun hc43 => ?_) (fun hc43 => ?_)
  · refine SJ.sr 7 ?_
    refine OJ.call (d := 29) (g := 11) (ats := #[]) (args := []) (owed := []) F11 (weirlaw4_started_ok ) (fun r8 => ?_)
    refine OW.nil ?_
    refine OJ.go 1 [(30, .bool r8)] ?_
    refine OJ.join (b := r8) [2, 3, 4, 5] [6] [34] (fun y9 => [(34, .bool y9)]) [] [] (t := 30) Iff.rfl (fun hp_ => ?_) (fun hp_ => ?_) (fun _ _ _ _ _ _ h_ => h_) (fun y9 => ?_)
    · refine OJ.kld (d := 31) (y := .tmp 9) (cd := c_api_IP) (j := 0) (b := b4) (o := 0) r3.1 (pend2 := []) Ty27 rfl (At.whole _) rfl ?_
      refine OJ.build (d := 32) (T := 27) (parts := []) (ps := []) (cd := c_api_IP) (z0 := z_api_IP) z_api_IP Ty27 rfl Filled.nil ?_
      refine OJ.eql (d := 33) (T := 27) (yT := 27) (y := .tmp 31) (z := .tmp 32) (cd := c_api_IP) (p := r3.1) (q := z_api_IP) rfl Eq27 ?_
      refine OJ.go 1 [(34, .bool (eqv r3.1 z_api_IP))] ?_
      exact OJ.nil ⟨(Cov.mem Cov.nil), rfl, _, rfl, by kernel_rfl⟩
    · refine OJ.go 4 [(34, .bool false), (33, undef), (32, undef), (31, undef)] ?_
      exact OJ.nil ⟨(Cov.mem Cov.nil), rfl, _, rfl, by kernel_rfl⟩
    · refine OJ.go 1 [(8, .bool y9)] ?_
      refine OJ.nil ?_
      exact SJ.ret rfl (Res.run (ys := [.bool y9]) (.tmp (by kernel_rfl) .nil) rfl)
  · refine SJ.skip ?_
    refine SJ.sr 5 ?_
    refine OJ.kld (d := 35) (y := .tmp 9) (cd := c_api_IP) (j := 0) (b := b4) (o := 0) r3.1 (pend2 := []) Ty27 rfl (At.whole _) rfl ?_
    refine OJ.go 1 [(36, .int .i64 a2)] ?_
    refine OJ.build (d := 37) (T := 37) (parts := [(0, .tmp 35), (1, .tmp 36)]) (ps := [(0, c_api_IP.val r3.1), (1, (cI .i64).val a2)]) (cd := c_api_Prefix) (z0 := z_api_Prefix) (⟨r3.1, a2⟩ : api_Prefix) Ty37 rfl (Filled.cons (cd := c_api_IP) (q := r3.1) (o := 0) (by kernel_rfl) (Up_api_Prefix_IP z_api_Prefix r3.1) (Filled.cons (cd := (cI .i64)) (q := a2) (o := 17) (by kernel_rfl) (Up_api_Prefix_Len (⟨r3.1, z_api_Prefix.Len⟩ : api_Prefix) a2) Filled.nil)) ?_
    refine OJ.slotOf (d := 11) (op := (.alloc 37)) (cd := c_api_Prefix) (u := z_api_Prefix) (owed := []) (alloc_run Ty37) (fun b10 => ?_)
    refine OW.nil ?_
    refine OJ.kst (y := .tmp 11) (z := .tmp 37) (cd := c_api_Prefix) (u := (⟨r3.1, a2⟩ : api_Prefix)) (j := 0) (b := b10) (o := 0) (c_api_Prefix.enc (⟨r3.1, a2⟩ : api_Prefix)) (owed := []) Ty37 rfl (Upd.whole ((Cod.len _ _).trans (Cod.len _ _).symm)) rfl ?_
    refine OW.nil ?_
    refine OJ.nil ?_
    refine SJ.seq ?_
    refine SJ.sr 16 ?_
    refine OJ.kld (d := 38) (y := .tmp 11) (cd := c_api_Prefix) (j := 0) (b := b10) (o := 0) (⟨r3.1, a2⟩ : api_Prefix) (pend2 := []) Ty37 rfl (At.whole _) rfl ?_
    refine OJ.call (d := 39) (g := 14) (ats := #[37]) (args := [.tmp 38]) (owed := []) F14 (addr_ValidPrefix_ok (⟨r3.1, a2⟩ : api_Prefix)) (fun r11 => ?_)
    refine OW.nil ?_
    refine OJ.call (d := 40) (g := 12) (ats := #[28]) (args := [.tmp 39]) (owed := []) F12 (weirlaw4_num_ok r11) (fun r12 => ?_)
    refine OW.nil ?_
    refine OJ.go 2 [(42, .bool (r12 != 0)), (41, .bool (r12 != 0))] ?_
    refine OJ.join (b := (r12 != 0)) [5, 6, 7, 8, 9] [10, 11, 12, 13, 14, 15] [2, 3, 4, 5, 9, 11, 47] (fun y14 => [(2, .int .i64 a2), (3, .int .i64 a3), (4, .pointer (some (pt b1 0))), (5, .pointer (some (pt b2 0))), (9, .pointer (some (pt b4 0))), (11, .pointer (some (pt b10 0))), (47, .bool y14)]) [] [] (t := 42) bne_iff_ne (fun hp_ => ?_) (fun hp_ => ?_) (fun _ _ _ _ _ _ h_ => h_) (fun y14 => ?_)
    · refine OJ.go 5 [(47, .bool true), (46, undef), (45, undef), (44, undef), (43, undef)] ?_
      exact OJ.nil ⟨(Cov.mem Cov.nil), rfl, _, rfl, by kernel_rfl⟩
    · refine OJ.kld (d := 43) (y := .tmp 11) (cd := c_api_Prefix) (j := 0) (b := b10) (o := 0) (⟨r3.1, a2⟩ : api_Prefix) (pend2 := []) Ty37 rfl (At.whole _) rfl ?_
      refine OJ.kld (d := 44) (y := .tmp 4) (cd := c_api_IP) (j := 3) (b := b1) (o := 0) a0 (pend2 := []) Ty27 rfl (At.whole _) rfl ?_
      refine OJ.call (d := 45) (g := 15) (ats := #[37, 27]) (args := [.tmp 43, .tmp 44]) (owed := []) F15 (addr_Contains_ok (⟨r3.1, a2⟩ : api_Prefix) a0) (fun r13 => ?_)
      refine OW.nil ?_
      refine OJ.go 2 [(47, .bool (!r13)), (46, .bool (!r13))] ?_
      exact OJ.nil ⟨(Cov.mem Cov.nil), rfl, _, rfl, by kernel_rfl⟩
    · refine OJ.go 1 [(48, .bool y14)] ?_
      refine OJ.join (b := y14) [11, 12, 13, 14, 15] [] [2, 3, 4, 5, 9, 11, 53] (fun y16 => [(2, .int .i64 a2), (3, .int .i64 a3), (4, .pointer (some (pt b1 0))), (5, .pointer (some (pt b2 0))), (9, .pointer (some (pt b4 0))), (11, .pointer (some (pt b10 0))), (53, .bool y16)]) [] [] (t := 48) Iff.rfl (fun hp_ => ?_) (fun hp_ => ?_) (fun _ _ _ _ _ _ h_ => h_) (fun y16 => ?_)
      · refine OJ.go 5 [(53, .bool true), (52, undef), (51, undef), (50, undef), (49, undef)] ?_
        exact OJ.nil ⟨(Cov.mem Cov.nil), rfl, _, rfl, by kernel_rfl⟩
      · refine OJ.kld (d := 49) (y := .tmp 11) (cd := c_api_Prefix) (j := 0) (b := b10) (o := 0) (⟨r3.1, a2⟩ : api_Prefix) (pend2 := []) Ty37 rfl (At.whole _) rfl ?_
        refine OJ.kld (d := 50) (y := .tmp 9) (cd := c_api_IP) (j := 1) (b := b4) (o := 0) r3.1 (pend2 := []) Ty27 rfl (At.whole _) rfl ?_
        refine OJ.call (d := 51) (g := 15) (ats := #[37, 27]) (args := [.tmp 49, .tmp 50]) (owed := []) F15 (addr_Contains_ok (⟨r3.1, a2⟩ : api_Prefix) r3.1) (fun r15 => ?_)
        refine OW.nil ?_
        refine OJ.go 2 [(53, .bool (!r15)), (52, .bool (!r15))] ?_
        exact OJ.nil ⟨(Cov.mem Cov.nil), rfl, _, rfl, by kernel_rfl⟩
      · refine OJ.nil ?_
        refine SJ.cond (t := (.tmp 53)) (b := y16) Iff.rfl (fun hc42 => ?_) (fun hc42 => ?_)
        · refine SJ.sr 1 ?_
          refine OJ.go 1 [(8, .bool false)] ?_
          refine OJ.nil ?_
          exact SJ.ret rfl (Res.run (ys := [.bool false]) (.tmp (by kernel_rfl) .nil) rfl)
        · refine SJ.skip ?_
          refine SJ.sr 9 ?_
          refine OJ.kld (d := 55) (y := .tmp 5) (cd := c_api_IP) (j := 2) (b := b2) (o := 0) a1 (pend2 := []) Ty27 rfl (At.whole _) rfl ?_
          refine OJ.go 1 [(56, .int .i64 a2)] ?_
          refine OJ.call (d := 57) (g := 13) (ats := #[27, 3]) (args := [.tmp 55, .tmp 56]) (owed := []) F13 (addr_Mask_ok a1 a2) (fun r17 => ?_)
          refine OW.nil ?_
          refine OJ.go 3 [(59, .int .i64 r17.2), (58, c_api_IP.val r17.1), (54, .tuple #[c_api_IP.val r17.1, .int .i64 r17.2])] ?_
          refine OJ.slotOf (d := 12) (op := (.alloc 27)) (cd := c_api_IP) (u := z_api_IP) (owed := []) (alloc_run Ty27) (fun b18 => ?_)
          refine OW.nil ?_
          refine OJ.kst (y := .tmp 12) (z := .tmp 58) (cd := c_api_IP) (u := r17.1) (j := 0) (b := b18) (o := 0) (c_api_IP.enc r17.1) (owed := []) Ty27 rfl (Upd.whole ((Cod.len _ _).trans (Cod.len _ _).symm)) rfl ?_
          refine OW.nil ?_
          refine OJ.go 1 [(13, .int .i64 r17.2)] ?_
          refine OJ.nil ?_
          refine SJ.sr 16 ?_
          refine OJ.go 1 [(60, .int .i64 r17.2)] ?_
          refine OJ.call (d := 61) (g := 12) (ats := #[28]) (args := [.tmp 60]) (owed := []) F12 (weirlaw4_num_ok r17.2) (fun r19 => ?_)
          refine OW.nil ?_
          refine OJ.go 2 [(63, .bool (r19 == 0)), (62, .bool (r19 == 0))] ?_
          refine OJ.join (b := (r19 == 0)) [4, 5, 6, 7, 8, 9] [10, 11, 12, 13, 14, 15] [2, 3, 4, 5, 9, 11, 12, 69] (fun y20 => [(2, .int .i64 a2), (3, .int .i64 a3), (4, .pointer (some (pt b1 0))), (5, .pointer (some (pt b2 0))), (9, .pointer (some (pt b4 0))), (11, .pointer (some (pt b10 0))), (12, .pointer (some (pt b18 0))), (69, .bool y20)]) [] [] (t := 63) beq_iff_eq (fun hp_ => ?_) (fun hp_ => ?_) (fun _ _ _ _ _ _ h_ => h_) (fun y20 => ?_)
          · refine OJ.go 1 [(64, .pointer (some (pt b2 0)))] ?_
            refine OJ.kld (d := 65) (y := .tmp 64) (cd := (cI .i64)) (j := 3) (b := b2) (o := 0) a1.V (pend2 := []) Ty3 rfl (At_api_IP_V a1) rfl ?_
            refine OJ.go 1 [(66, .pointer (some (pt b1 0)))] ?_
            refine OJ.kld (d := 67) (y := .tmp 66) (cd := (cI .i64)) (j := 4) (b := b1) (o := 0) a0.V (pend2 := []) Ty3 rfl (At_api_IP_V a0) rfl ?_
            refine OJ.go 2 [(69, .bool (a1.V == a0.V)), (68, .bool (a1.V == a0.V))] ?_
            exact OJ.nil ⟨(Cov.mem Cov.nil), rfl, _, rfl, by kernel_rfl⟩
          · refine OJ.go 6 [(69, .bool false), (68, undef), (67, undef), (66, undef), (65, undef), (64, undef)] ?_
            exact OJ.nil ⟨(Cov.mem Cov.nil), rfl, _, rfl, by kernel_rfl⟩
          · refine OJ.go 1 [(70, .bool y20)] ?_
            refine OJ.join (b := y20) [11, 12, 13, 14] [15] [2, 3, 4, 5, 9, 11, 74] (fun y21 => [(2, .int .i64 a2), (3, .int .i64 a3), (4, .pointer (some (pt b1 0))), (5, .pointer (some (pt b2 0))), (9, .pointer (some (pt b4 0))), (11, .pointer (some (pt b10 0))), (74, .bool y21)]) [] [] (t := 70) Iff.rfl (fun hp_ => ?_) (fun hp_ => ?_) (fun _ _ _ _ _ _ h_ => h_) (fun y21 => ?_)
            · refine OJ.kld (d := 71) (y := .tmp 12) (cd := c_api_IP) (j := 0) (b := b18) (o := 0) r17.1 (pend2 := []) Ty27 rfl (At.whole _) rfl ?_
              refine OJ.kld (d := 72) (y := .tmp 9) (cd := c_api_IP) (j := 2) (b := b4) (o := 0) r3.1 (pend2 := []) Ty27 rfl (At.whole _) rfl ?_
              refine OJ.eql (d := 73) (T := 27) (yT := 27) (y := .tmp 71) (z := .tmp 72) (cd := c_api_IP) (p := r17.1) (q := r3.1) rfl Eq27 ?_
              refine OJ.go 1 [(74, .bool (eqv r17.1 r3.1))] ?_
              exact OJ.nil ⟨(Cov.mem Cov.nil), rfl, _, rfl, by kernel_rfl⟩
            · refine OJ.go 4 [(74, .bool false), (73, undef), (72, undef), (71, undef)] ?_
              exact OJ.nil ⟨(Cov.mem Cov.nil), rfl, _, rfl, by kernel_rfl⟩
            · refine OJ.go 1 [(14, .bool y21)] ?_
              refine OJ.nil ?_
              refine SJ.seq ?_
              refine SJ.sr 5 ?_
              refine OJ.kld (d := 75) (y := .tmp 11) (cd := c_api_Prefix) (j := 1) (b := b10) (o := 0) (⟨r3.1, a2⟩ : api_Prefix) (pend2 := []) Ty37 rfl (At.whole _) rfl ?_
              refine OJ.kld (d := 76) (y := .tmp 5) (cd := c_api_IP) (j := 3) (b := b2) (o := 0) a1 (pend2 := []) Ty27 rfl (At.whole _) rfl ?_
              refine OJ.call (d := 77) (g := 15) (ats := #[37, 27]) (args := [.tmp 75, .tmp 76]) (owed := []) F15 (addr_Contains_ok (⟨r3.1, a2⟩ : api_Prefix) a1) (fun r22 => ?_)
              refine OW.nil ?_
              refine OJ.go 2 [(79, .bool (!(r22 == y21))), (78, .bool y21)] ?_
              refine OJ.nil ?_
              refine SJ.cond (t := (.tmp 79)) (b := (!(r22 == y21))) (bnot_iff beq_iff_eq) (fun hc41 => ?_) (fun hc41 => ?_)
              · refine SJ.sr 1 ?_
                refine OJ.go 1 [(8, .bool false)] ?_
                refine OJ.nil ?_
                exact SJ.ret rfl (Res.run (ys := [.bool false]) (.tmp (by kernel_rfl) .nil) rfl)
              · refine SJ.skip ?_
                refine SJ.sr 9 ?_
                refine OJ.kld (d := 81) (y := .tmp 9) (cd := c_api_IP) (j := 2) (b := b4) (o := 0) r3.1 (pend2 := []) Ty27 rfl (At.whole _) rfl ?_
                refine OJ.go 1 [(82, .int .i64 a3)] ?_
                refine OJ.call (d := 83) (g := 13) (ats := #[27, 3]) (args := [.tmp 81, .tmp 82]) (owed := []) F13 (addr_Mask_ok r3.1 a3) (fun r23 => ?_)
                refine OW.nil ?_
                refine OJ.go 3 [(85, .int .i64 r23.2), (84, c_api_IP.val r23.1), (80, .tuple #[c_api_IP.val r23.1, .int .i64 r23.2])] ?_
                refine OJ.slotOf (d := 15) (op := (.alloc 27)) (cd := c_api_IP) (u := z_api_IP) (owed := []) (alloc_run Ty27) (fun b24 => ?_)
                refine OW.nil ?_
                refine OJ.kst (y := .tmp 15) (z := .tmp 84) (cd := c_api_IP) (u := r23.1) (j := 0) (b := b24) (o := 0) (c_api_IP.enc r23.1) (owed := []) Ty27 rfl (Upd.whole ((Cod.len _ _).trans (Cod.len _ _).symm)) rfl ?_
                refine OW.nil ?_
                refine OJ.go 1 [(16, .int .i64 r23.2)] ?_
                refine OJ.nil ?_
                refine SJ.seq ?_
                refine SJ.sr 3 ?_
                refine OJ.go 1 [(86, .int .i64 r23.2)] ?_
                refine OJ.call (d := 87) (g := 12) (ats := #[28]) (args := [.tmp 86]) (owed := []) F12 (weirlaw4_num_ok r23.2) (fun r25 => ?_)
                refine OW.nil ?_
                refine OJ.go 1 [(88, .bool (r25 != 0))] ?_
                refine OJ.nil ?_
                refine SJ.cond (t := (.tmp 88)) (b := (r25 != 0)) bne_iff_ne (fun hc40 => ?_) (fun hc40 => ?_)
                · refine SJ.sr 2 ?_
                  refine OJ.call (d := 89) (g := 11) (ats := #[]) (args := []) (owed := []) F11 (weirlaw4_started_ok ) (fun r27 => ?_)
                  refine OW.nil ?_
                  refine OJ.go 1 [(8, .bool r27)] ?_
                  refine OJ.nil ?_
                  exact SJ.ret rfl (Res.run (ys := [.bool r27]) (.tmp (by kernel_rfl) .nil) rfl)
                · refine SJ.skip ?_
                  refine SJ.sr 11 ?_
                  refine OJ.kld (d := 91) (y := .tmp 4) (cd := c_api_IP) (j := 5) (b := b1) (o := 0) a0 (pend2 := []) Ty27 rfl (At.whole _) rfl ?_
                  refine OJ.go 2 [(93, .int .i64 a3), (92, .int .i64 a2)] ?_
                  refine OJ.min (d := 94) (t := 3) (u := 3) (so := .tmp 92) (xo := .tmp 93) (k := .i64) (p := a2) (q := a3) ?_
                  refine OJ.call (d := 95) (g := 13) (ats := #[27, 3]) (args := [.tmp 91, .tmp 94]) (owed := []) F13 (addr_Mask_ok a0 (if a3 < a2 then a3 else a2)) (fun r28 => ?_)
                  refine OW.nil ?_
                  refine OJ.go 3 [(97, .int .i64 r28.2), (96, c_api_IP.val r28.1), (90, .tuple #[c_api_IP.val r28.1, .int .i64 r28.2])] ?_
                  refine OJ.slotOf (d := 17) (op := (.alloc 27)) (cd := c_api_IP) (u := z_api_IP) (owed := []) (alloc_run Ty27) (fun b29 => ?_)
                  refine OW.nil ?_
                  refine OJ.kst (y := .tmp 17) (z := .tmp 96) (cd := c_api_IP) (u := r28.1) (j := 0) (b := b29) (o := 0) (c_api_IP.enc r28.1) (owed := []) Ty27 rfl (Upd.whole ((Cod.len _ _).trans (Cod.len _ _).symm)) rfl ?_
                  refine OW.nil ?_
                  refine OJ.go 1 [(18, .int .i64 r28.2)] ?_
                  refine OJ.nil ?_
                  refine SJ.sr 7 ?_
                  refine OJ.kld (d := 98) (y := .tmp 17) (cd := c_api_IP) (j := 0) (b := b29) (o := 0) r28.1 (pend2 := []) Ty27 rfl (At.whole _) rfl ?_
                  refine OJ.go 2 [(100, .int .i64 a3), (99, .int .i64 a2)] ?_
                  refine OJ.min (d := 101) (t := 3) (u := 3) (so := .tmp 99) (xo := .tmp 100) (k := .i64) (p := a2) (q := a3) ?_
                  refine OJ.build (d := 102) (T := 37) (parts := [(0, .tmp 98), (1, .tmp 101)]) (ps := [(0, c_api_IP.val r28.1), (1, (cI .i64).val (if a3 < a2 then a3 else a2))]) (cd := c_api_Prefix) (z0 := z_api_Prefix) (⟨r28.1, (if a3 < a2 then a3 else a2)⟩ : api_Prefix) Ty37 rfl (Filled.cons (cd := c_api_IP) (q := r28.1) (o := 0) (by kernel_rfl) (Up_api_Prefix_IP z_api_Prefix r28.1) (Filled.cons (cd := (cI .i64)) (q := (if a3 < a2 then a3 else a2)) (o := 17) (by kernel_rfl) (Up_api_Prefix_Len (⟨r28.1, z_api_Prefix.Len⟩ : api_Prefix) (if a3 < a2 then a3 else a2)) Filled.nil)) ?_
                  refine OJ.slotOf (d := 19) (op := (.alloc 37)) (cd := c_api_Prefix) (u := z_api_Prefix) (owed := []) (alloc_run Ty37) (fun b30 => ?_)
                  refine OW.nil ?_
                  refine OJ.kst (y := .tmp 19) (z := .tmp 102) (cd := c_api_Prefix) (u := (⟨r28.1, (if a3 < a2 then a3 else a2)⟩ : api_Prefix)) (j := 0) (b := b30) (o := 0) (c_api_Prefix.enc (⟨r28.1, (if a3 < a2 then a3 else a2)⟩ : api_Prefix)) (owed := []) Ty37 rfl (Upd.whole ((Cod.len _ _).trans (Cod.len _ _).symm)) rfl ?_
                  refine OW.nil ?_
                  refine OJ.nil ?_
                  refine SJ.sr 26 ?_
                  refine OJ.call (d := 103) (g := 11) (ats := #[]) (args := []) (owed := []) F11 (weirlaw4_started_ok ) (fun r31 => ?_)
                  refine OW.nil ?_
                  refine OJ.go 1 [(104, .bool r31)] ?_
                  refine OJ.join (b := r31) [2, 3, 4, 5] [6, 7, 8, 9, 10, 11, 12, 13, 14, 15, 16, 17, 18, 19, 20, 21, 22, 23, 24, 25] [4, 5, 14, 15, 17, 19, 108] (fun y33 => [(4, .pointer (some (pt b1 0))), (5, .pointer (some (pt b2 0))), (14, .bool y21), (15, .pointer (some (pt b24 0))), (17, .pointer (some (pt b29 0))), (19, .pointer (some (pt b30 0))), (108, .bool y33)]) [] [] (t := 104) Iff.rfl (fun hp_ => ?_) (fun hp_ => ?_) (fun _ _ _ _ _ _ h_ => h_) (fun y33 => ?_)
                  · refine OJ.go 1 [(105, .int .i64 r28.2)] ?_
                    refine OJ.call (d := 106) (g := 12) (ats := #[28]) (args := [.tmp 105]) (owed := []) F12 (weirlaw4_num_ok r28.2) (fun r32 => ?_)
                    refine OW.nil ?_
                    refine OJ.go 2 [(108, .bool (r32 == 0)), (107, .bool (r32 == 0))] ?_
                    exact OJ.nil ⟨(Cov.mem Cov.nil), rfl, _, rfl, by kernel_rfl⟩
                  · refine OJ.go 4 [(108, .bool false), (107, undef), (106, undef), (105, undef)] ?_
                    exact OJ.nil ⟨(Cov.mem Cov.nil), rfl, _, rfl, by kernel_rfl⟩
                  · refine OJ.go 1 [(109, .bool y33)] ?_
                    refine OJ.join (b := y33) [7, 8, 9, 10] [11, 12, 13, 14, 15, 16, 17, 18, 19, 20, 21, 22, 23, 24, 25] [4, 5, 14, 19, 113] (fun y34 => [(4, .pointer (some (pt b1 0))), (5, .pointer (some (pt b2 0))), (14, .bool y21), (19, .pointer (some (pt b30 0))), (113, .bool y34)]) [] [] (t := 109) Iff.rfl (fun hp_ => ?_) (fun hp_ => ?_) (fun _ _ _ _ _ _ h_ => h_) (fun y34 => ?_)
                    · refine OJ.kld (d := 110) (y := .tmp 15) (cd := c_api_IP) (j := 2) (b := b24) (o := 0) r23.1 (pend2 := []) Ty27 rfl (At.whole _) rfl ?_
                      refine OJ.kld (d := 111) (y := .tmp 17) (cd := c_api_IP) (j := 1) (b := b29) (o := 0) r28.1 (pend2 := []) Ty27 rfl (At.whole _) rfl ?_
                      refine OJ.eql (d := 112) (T := 27) (yT := 27) (y := .tmp 110) (z := .tmp 111) (cd := c_api_IP) (p := r23.1) (q := r28.1) rfl Eq27 ?_
                      refine OJ.go 1 [(113, .bool (eqv r23.1 r28.1))] ?_
                      exact OJ.nil ⟨(Cov.mem Cov.nil), rfl, _, rfl, by kernel_rfl⟩
                    · refine OJ.go 4 [(113, .bool false), (112, undef), (111, undef), (110, undef)] ?_
                      exact OJ.nil ⟨(Cov.mem Cov.nil), rfl, _, rfl, by kernel_rfl⟩
                    · refine OJ.go 1 [(114, .bool y34)] ?_
                      refine OJ.join (b := y34) [12, 13, 14, 15] [16, 17, 18, 19, 20, 21, 22, 23, 24, 25] [5, 14, 19, 118] (fun y36 => [(5, .pointer (some (pt b2 0))), (14, .bool y21), (19, .pointer (some (pt b30 0))), (118, .bool y36)]) [] [] (t := 114) Iff.rfl (fun hp_ => ?_) (fun hp_ => ?_) (fun _ _ _ _ _ _ h_ => h_) (fun y36 => ?_)
                      · refine OJ.kld (d := 115) (y := .tmp 19) (cd := c_api_Prefix) (j := 0) (b := b30) (o := 0) (⟨r28.1, (if a3 < a2 then a3 else a2)⟩ : api_Prefix) (pend2 := []) Ty37 rfl (At.whole _) rfl ?_
                        refine OJ.kld (d := 116) (y := .tmp 4) (cd := c_api_IP) (j := 7) (b := b1) (o := 0) a0 (pend2 := []) Ty27 rfl (At.whole _) rfl ?_
                        refine OJ.call (d := 117) (g := 15) (ats := #[37, 27]) (args := [.tmp 115, .tmp 116]) (owed := []) F15 (addr_Contains_ok (⟨r28.1, (if a3 < a2 then a3 else a2)⟩ : api_Prefix) a0) (fun r35 => ?_)
                        refine OW.nil ?_
                        refine OJ.go 1 [(118, .bool r35)] ?_
                        exact OJ.nil ⟨(Cov.mem Cov.nil), rfl, _, rfl, by kernel_rfl⟩
                      · refine OJ.go 4 [(118, .bool false), (117, undef), (116, undef), (115, undef)] ?_
                        exact OJ.nil ⟨(Cov.mem Cov.nil), rfl, _, rfl, by kernel_rfl⟩
                      · refine OJ.go 1 [(119, .bool y36)] ?_
                        refine OJ.join (b := y36) [17, 18, 19, 20, 21, 22, 23, 24] [25] [127] (fun y39 => [(127, .bool y39)]) [] [] (t := 119) Iff.rfl (fun hp_ => ?_) (fun hp_ => ?_) (fun _ _ _ _ _ _ h_ => h_) (fun y39 => ?_)
                        · refine OJ.go 3 [(122, .bool (!y21)), (121, .bool (!y21)), (120, .bool y21)] ?_
                          refine OJ.join (b := (!y21)) [20, 21, 22, 23] [24] [119, 126] (fun y38 => [(119, .bool true), (126, .bool y38)]) [] [] (t := 122) (bnot_iff Iff.rfl) (fun hp_ => ?_) (fun hp_ => ?_) (fun _ _ _ _ _ hq_ h_ => ⟨fun e_ he_ => (hq_ e_ he_).elim (fun h => h_.1 e_ h) (fun h => nomatch h), h_.2⟩) (fun y38 => ?_)
                          · refine OJ.go 4 [(126, .bool true), (125, undef), (124, undef), (123, undef)] ?_
                            exact OJ.nil ⟨(Cov.mem Cov.nil), rfl, _, rfl, by kernel_rfl⟩
                          · refine OJ.kld (d := 123) (y := .tmp 19) (cd := c_api_Prefix) (j := 0) (b := b30) (o := 0) (⟨r28.1, (if a3 < a2 then a3 else a2)⟩ : api_Prefix) (pend2 := []) Ty37 rfl (At.whole _) rfl ?_
                            refine OJ.kld (d := 124) (y := .tmp 5) (cd := c_api_IP) (j := 6) (b := b2) (o := 0) a1 (pend2 := []) Ty27 rfl (At.whole _) rfl ?_
                            refine OJ.call (d := 125) (g := 15) (ats := #[37, 27]) (args := [.tmp 123, .tmp 124]) (owed := []) F15 (addr_Contains_ok (⟨r28.1, (if a3 < a2 then a3 else a2)⟩ : api_Prefix) a1) (fun r37 => ?_)
                            refine OW.nil ?_
                            refine OJ.go 1 [(126, .bool r37)] ?_
                            exact OJ.nil ⟨(Cov.mem Cov.nil), rfl, _, rfl, by kernel_rfl⟩
                          · refine OJ.go 1 [(127, .bool y38)] ?_
                            exact OJ.nil ⟨(Cov.mem Cov.nil), rfl, _, rfl, by kernel_rfl⟩
                        · refine OJ.go 8 [(127, .bool false), (126, undef), (125, undef), (124, undef), (123, undef), (122, undef), (121, undef), (120, undef)] ?_
                          exact OJ.nil ⟨(Cov.mem Cov.nil), rfl, _, rfl, by kernel_rfl⟩
                        · refine OJ.go 1 [(8, .bool y39)] ?_
                          refine OJ.nil ?_
                          exact SJ.ret rfl (Res.run (ys := [.bool y39]) (.tmp (by kernel_rfl) .nil) rfl)

/-! ### weir/addr.PrintPrefix: function 17 -/
noncomputable def addr_PrintPrefix.B : Code := (Tryd.f17.body).getD .skip
noncomputable def addr_PrintPrefix.cx : Fx := ⟨Tryd.prog, 17, Tryd.f17⟩
noncomputable def addr_PrintPrefix.out (r_ : (ByteArray × Int)) : Value := .tuple #[.string r_.1, .int .i64 r_.2]
noncomputable def addr_PrintPrefix.F0 (r_ : (ByteArray × Int)) : Reach := .ret (addr_PrintPrefix.out r_)
noncomputable def addr_PrintPrefix (a0 : api_Prefix) : M (ByteArray × Int) :=
  slot 37 >>= fun b1 =>
  addr_ValidPrefix a0 >>= fun r2 =>
  if r2 ≠ 0 then
    pure (ByteArray.empty, r2)
  else
    addr_PrintIP a0.IP >>= fun r3 =>
    chk (((r3.1.size + str11.size : Nat) : Int) ≤ 9223372036854775807) >>= fun _ =>
    strconv_Itoa_ a0.Len >>= fun r4 =>
    chk ((((r3.1 ++ str11).size + r4.size : Nat) : Int) ≤ 9223372036854775807) >>= fun _ =>
    pure (((r3.1 ++ str11) ++ r4), 0)
theorem addr_PrintPrefix_ok (a0 : api_Prefix) : Ref Tryd.prog 17 [c_api_Prefix.val a0] (addr_PrintPrefix a0) addr_PrintPrefix.out := by
  refine Ref.of (cd := addr_PrintPrefix.B) Tryd.func17 ?_
  show SJ addr_PrintPrefix.cx [.code addr_PrintPrefix.B] [(0, c_api_Prefix.val a0)] [] (addr_PrintPrefix a0) addr_PrintPrefix.F0
  unfold addr_PrintPrefix
  refine SJ.sr 3 ?_
  refine OJ.slotOf (d := 1) (op := (.box 37 (.tmp 0))) (cd := c_api_Prefix) (u := a0) (owed := []) (box_run (by kernel_rfl)) (fun b1 => ?_)
  refine OW.nil ?_
  refine OJ.go 2 [(3, .int .i64 0), (2, .string ByteArray.empty)] ?_
  refine OJ.nil ?_
  refine SJ.seq ?_
  refine SJ.sr 3 ?_
  refine OJ.kld (d := 7) (y := .tmp 1) (cd := c_api_Prefix) (j := 0) (b := b1) (o := 0) a0 (pend2 := []) Ty37 rfl (At.whole _) rfl ?_
  refine OJ.call (d := 8) (g := 14) (ats := #[37]) (args := [.tmp 7]) (owed := []) F14 (addr_ValidPrefix_ok a0) (fun r2 => ?_)
  refine OW.nil ?_
  refine OJ.go 1 [(4, .int .i64 r2)] ?_
  refine OJ.nil ?_
  refine SJ.sr 2 ?_
  refine OJ.go 2 [(10, .bool (r2 != 0)), (9, .int .i64 r2)] ?_
  refine OJ.nil ?_
  refine SJ.cond (t := (.tmp 10)) (b := (r2 != 0)) bne_iff_ne (fun hc5 => ?_) (fun hc5 => ?_)
  · refine SJ.sr 3 ?_
    refine OJ.go 3 [(3, .int .i64 r2), (2, .string ByteArray.empty), (11, .int .i64 r2)] ?_
    refine OJ.nil ?_
    exact SJ.ret rfl (Res.run (ys := [.string ByteArray.empty, .int .i64 r2]) (.tmp (by kernel_rfl) (.tmp (by kernel_rfl) .nil)) rfl)
  · refine SJ.skip ?_
    refine SJ.sr 8 ?_
    refine OJ.go 1 [(13, .pointer (some (pt b1 0)))] ?_
    refine OJ.kld (d := 14) (y := .tmp 13) (cd := c_api_IP) (j := 0) (b := b1) (o := 0) a0.IP (pend2 := []) Ty27 rfl (At_api_Prefix_IP a0) rfl ?_
    refine OJ.call (d := 15) (g := 16) (ats := #[27]) (args := [.tmp 14]) (owed := []) F16 (addr_PrintIP_ok a0.IP) (fun r3 => ?_)
    refine OW.nil ?_
    refine OJ.go 5 [(6, .int .i64 r3.2), (5, .string r3.1), (17, .int .i64 r3.2), (16, .string r3.1), (12, .tuple #[.string r3.1, .int .i64 r3.2])] ?_
    refine OJ.nil ?_
    refine SJ.sr 8 ?_
    refine OJ.go 1 [(18, .string r3.1)] ?_
    refine OJ.cat (d := 19) (T := 9) (yT := 9) (y := .tmp 18) (z := .const (.string str11)) (p := r3.1) (q := str11) ?_
    refine OJ.go 1 [(20, .pointer (some (pt b1 17)))] ?_
    refine OJ.kld (d := 21) (y := .tmp 20) (cd := (cI .i64)) (j := 0) (b := b1) (o := 17) a0.Len (pend2 := []) Ty3 rfl (At_api_Prefix_Len a0) rfl ?_
    refine OJ.call (d := 22) (g := 31) (ats := #[3]) (args := [.tmp 21]) (owed := []) F31 (strconv_Itoa__ok a0.Len) (fun r4 => ?_)
    refine OW.nil ?_
    refine OJ.cat (d := 23) (T := 9) (yT := 9) (y := .tmp 19) (z := .tmp 22) (p := (r3.1 ++ str11)) (q := r4) ?_
    refine OJ.go 2 [(3, .int .i64 0), (2, .string ((r3.1 ++ str11) ++ r4))] ?_
    refine OJ.nil ?_
    exact SJ.ret rfl (Res.run (ys := [.string ((r3.1 ++ str11) ++ r4), .int .i64 0]) (.tmp (by kernel_rfl) (.tmp (by kernel_rfl) .nil)) rfl)

/-! ### internal/stringslite.Cut: function 45 -/
noncomputable def stringslite_Cut.B : Code := (Tryd.f45.body).getD .skip
noncomputable def stringslite_Cut.cx : Fx := ⟨Tryd.prog, 45, Tryd.f45⟩
noncomputable def stringslite_Cut.out (r_ : (ByteArray × ByteArray × Bool)) : Value := .tuple #[.string r_.1, .string r_.2.1, .bool r_.2.2]
noncomputable def stringslite_Cut.F0 (r_ : (ByteArray × ByteArray × Bool)) : Reach := .ret (stringslite_Cut.out r_)
noncomputable def stringslite_Cut (a0 : ByteArray) (a1 : ByteArray) : M (ByteArray × ByteArray × Bool) :=
  stringslite_Index a0 a1 >>= fun r1 =>
  if r1 ≥ 0 then
    draw >>= fun _ =>
    chk (0 ≤ (0 : Int) ∧ (0 : Int) ≤ r1 ∧ r1 ≤ (a0.size : Int)) >>= fun _ =>
    chk (0 ≤ ((IntKind.wrap .i64 (r1 + (a1.size : Int))) : Int) ∧ ((IntKind.wrap .i64 (r1 + (a1.size : Int))) : Int) ≤ (a0.size : Int) ∧ (a0.size : Int) ≤ (a0.size : Int)) >>= fun _ =>
    pure ((ByteArray.extract a0 (Int.toNat 0) (Int.toNat r1)), (ByteArray.extract a0 (Int.toNat (IntKind.wrap .i64 (r1 + (a1.size : Int)))) (Int.toNat (a0.size : Int))), true)
  else
    pure (a0, ByteArray.empty, false)
theorem stringslite_Cut_ok (a0 : ByteArray) (a1 : ByteArray) : Ref Tryd.prog 45 [.string a0, .string a1] (stringslite_Cut a0 a1) stringslite_Cut.out := by
  refine Ref.of (cd := stringslite_Cut.B) Tryd.func45 ?_
  show SJ stringslite_Cut.cx [.code stringslite_Cut.B] [(0, .string a0), (1, .string a1)] [] (stringslite_Cut a0 a1) stringslite_Cut.F0
  unfold stringslite_Cut
  refine SJ.sr 3 ?_
  refine OJ.go 3 [(6, .bool false), (5, .string ByteArray.empty), (4, .string ByteArray.empty)] ?_
  refine OJ.nil ?_
  refine SJ.seq ?_
  refine SJ.sr 4 ?_
  refine OJ.go 2 [(9, .string a1), (8, .string a0)] ?_
  refine OJ.call (d := 10) (g := 55) (ats := #[9, 9]) (args := [.tmp 8, .tmp 9]) (owed := []) F55 (stringslite_Index_ok a0 a1) (fun r1 => ?_)
  refine OW.nil ?_
  refine OJ.go 1 [(7, .int .i64 r1)] ?_
  refine OJ.nil ?_
  refine SJ.sr 2 ?_
  refine OJ.go 2 [(12, .bool (decide (r1 ≥ 0))), (11, .int .i64 r1)] ?_
  refine OJ.nil ?_
  refine SJ.cond (t := (.tmp 12)) (b := decide (r1 ≥ 0)) decide_eq_true_iff (fun hc2 => ?_) (fun hc2 => ?_)
  · refine SJ.seq ?_
    refine SJ.draw (id := 3) (kd := [0, 0, 0, 0, 0, 0, 0, 0, 0, 0, 0, 0]) (bef := [0, 0, 3, 0, 0, 0, 32, 112, 248, 7, 1023, 2047]) (ord := [0, 1, 2, 3, 4, 5, 6, 7, 8, 9, 10, 11]) mixed ?_
    refine OJ.go 2 [(14, .int .i64 r1), (13, .string a0)] ?_
    refine OJ.cutT (d := 15) (t := 9) (y := .tmp 13) (lo := none) (hi := (some (.tmp 14))) (lo' := none) (hi' := some (.i64, r1)) ?_
    refine OJ.go 5 [(20, .int .i64 (IntKind.wrap .i64 (r1 + (a1.size : Int)))), (19, .int .i64 (a1.size : Int)), (18, .string a1), (17, .int .i64 r1), (16, .string a0)] ?_
    refine OJ.cutT (d := 21) (t := 9) (y := .tmp 16) (lo := (some (.tmp 20))) (hi := none) (lo' := some (.i64, IntKind.wrap .i64 (r1 + (a1.size : Int)))) (hi' := none) ?_
    refine OJ.go 3 [(6, .bool true), (5, .string (ByteArray.extract a0 (Int.toNat (IntKind.wrap .i64 (r1 + (a1.size : Int)))) (Int.toNat (a0.size : Int)))), (4, .string (ByteArray.extract a0 (Int.toNat 0) (Int.toNat r1)))] ?_
    refine OJ.nil ?_
    exact SJ.ret rfl (Res.run (ys := [.string (ByteArray.extract a0 (Int.toNat 0) (Int.toNat r1)), .string (ByteArray.extract a0 (Int.toNat (IntKind.wrap .i64 (r1 + (a1.size : Int)))) (Int.toNat (a0.size : Int))), .bool true]) (.tmp (by kernel_rfl) (.tmp (by kernel_rfl) (.tmp (by kernel_rfl) .nil))) rfl)
  · refine SJ.skip ?_
    refine SJ.sr 4 ?_
    refine OJ.go 4 [(6, .bool false), (5, .string ByteArray.empty), (4, .string a0), (22, .string a0)] ?_
    refine OJ.nil ?_
    exact SJ.ret rfl (Res.run (ys := [.string a0, .string ByteArray.empty, .bool false]) (.tmp (by kernel_rfl) (.tmp (by kernel_rfl) (.tmp (by kernel_rfl) .nil))) rfl)

/-! ### strings.Cut: function 34 -/
noncomputable def strings_Cut.B : Code := (Tryd.f34.body).getD .skip
noncomputable def strings_Cut.cx : Fx := ⟨Tryd.prog, 34, Tryd.f34⟩
noncomputable def strings_Cut.out (r_ : (ByteArray × ByteArray × Bool)) : Value := .tuple #[.string r_.1, .string r_.2.1, .bool r_.2.2]
noncomputable def strings_Cut.F0 (r_ : (ByteArray × ByteArray × Bool)) : Reach := .ret (strings_Cut.out r_)
noncomputable def strings_Cut (a0 : ByteArray) (a1 : ByteArray) : M (ByteArray × ByteArray × Bool) :=
  stringslite_Cut a0 a1 >>= fun r1 =>
  pure (r1.1, r1.2.1, r1.2.2)
theorem strings_Cut_ok (a0 : ByteArray) (a1 : ByteArray) : Ref Tryd.prog 34 [.string a0, .string a1] (strings_Cut a0 a1) strings_Cut.out := by
  refine Ref.of (cd := strings_Cut.B) Tryd.func34 ?_
  show SJ strings_Cut.cx [.code strings_Cut.B] [(0, .string a0), (1, .string a1)] [] (strings_Cut a0 a1) strings_Cut.F0
  unfold strings_Cut
  refine SJ.sr 3 ?_
  refine OJ.go 3 [(6, .bool false), (5, .string ByteArray.empty), (4, .string ByteArray.empty)] ?_
  refine OJ.nil ?_
  refine SJ.sr 9 ?_
  refine OJ.go 2 [(8, .string a1), (7, .string a0)] ?_
  refine OJ.call (d := 9) (g := 45) (ats := #[9, 9]) (args := [.tmp 7, .tmp 8]) (owed := []) F45 (stringslite_Cut_ok a0 a1) (fun r1 => ?_)
  refine OW.nil ?_
  refine OJ.go 6 [(6, .bool r1.2.2), (5, .string r1.2.1), (4, .string r1.1), (12, .bool r1.2.2), (11, .string r1.2.1), (10, .string r1.1)] ?_
  refine OJ.nil ?_
  exact SJ.ret rfl (Res.run (ys := [.string r1.1, .string r1.2.1, .bool r1.2.2]) (.tmp (by kernel_rfl) (.tmp (by kernel_rfl) (.tmp (by kernel_rfl) .nil))) rfl)

/-! ### weir/addr.ParsePrefix: function 20 -/
noncomputable def addr_ParsePrefix.B : Code := (Tryd.f20.body).getD .skip
noncomputable def addr_ParsePrefix.cx : Fx := ⟨Tryd.prog, 20, Tryd.f20⟩
noncomputable def addr_ParsePrefix.out (r_ : (api_Prefix × Int × Int)) : Value := .tuple #[c_api_Prefix.val r_.1, .int .i64 r_.2.1, .int .i64 r_.2.2]
noncomputable def addr_ParsePrefix.F0 (r_ : (api_Prefix × Int × Int)) : Reach := .ret (addr_ParsePrefix.out r_)
noncomputable def addr_ParsePrefix.K1 (r3 : (api_IP × (Option Addr))) (j8 : Int) (j17 : (Option Addr)) : M (api_Prefix × Int × Int) :=
  if ¬ (j17 = none) then
    draw >>= fun _ =>
    nilck j17 >>= fun p22 =>
    ld (cI .i64) p22 >>= fun x23 =>
    nilck j17 >>= fun p24 =>
    ld (cI .i64) (Addr.add p24 1) >>= fun x25 =>
    same (cI .i64) (Addr.add p24 1) x25 >>= fun _ =>
    same (cI .i64) p22 x23 >>= fun _ =>
    pure (z_api_Prefix, x23, x25)
  else
    pure ((⟨r3.1, j8⟩ : api_Prefix), 0, 0)
theorem addr_ParsePrefix.K1_ok (b1 : Nat) (r3 : (api_IP × (Option Addr))) (j8 : Int) (b13 : Nat) (j17 : (Option Addr)) :
    SJ addr_ParsePrefix.cx [.code (c2 (c2 (c2 (c2 (c2 (c2 (c2 (c2 (c2 (c2 addr_ParsePrefix.B))))))))))] [(2, .pointer (some (pt b1 0))), (9, .pointer j17), (12, .pointer (some (pt b13 0)))] [(b13, c_api_Prefix.enc (⟨r3.1, j8⟩ : api_Prefix)), (b1, c_api_Prefix.enc z_api_Prefix)] (addr_ParsePrefix.K1 r3 j8 j17) addr_ParsePrefix.F0 := by
  unfold addr_ParsePrefix.K1
  refine SJ.seq ?_
  refine SJ.sr 2 ?_
  refine OJ.go 2 [(70, .bool (!(Option.isNone j17))), (69, .pointer j17)] ?_
  refine OJ.nil ?_
  refine SJ.cond (t := (.tmp 70)) (b := (!(Option.isNone j17))) (bnot_iff Option.isNone_iff_eq_none) (fun hc26 => ?_) (fun hc26 => ?_)
  · refine SJ.seq ?_
    refine SJ.draw (id := 16) (kd := [0, 0, 0, 0, 1, 0, 0, 0, 1, 2, 0, 0]) (bef := [0, 0, 2, 6, 14, 0, 32, 96, 224, 1, 543, 2047]) (ord := [0, 1, 2, 3, 4, 5, 6, 7, 8, 9, 10, 11]) mixed ?_
    refine OJ.build (d := 71) (T := 37) (parts := []) (ps := []) (cd := c_api_Prefix) (z0 := z_api_Prefix) z_api_Prefix Ty37 rfl Filled.nil ?_
    refine OJ.go 1 [(72, .pointer j17)] ?_
    refine OJ.nilck (d := 73) (y := .tmp 72) (fun p22 => ?_)
    refine OJ.go 1 [(74, .pointer (some p22))] ?_
    refine OJ.ld (d := 75) (y := .tmp 74) (pend2 := fun x23 => [⟨4, 28, p22, (cI .i64).val x23⟩]) Ty28 (fun _ => rfl) (fun x23 => ?_)
    refine OJ.go 1 [(76, .pointer j17)] ?_
    refine OJ.nilck (d := 77) (y := .tmp 76) (fun p24 => ?_)
    refine OJ.go 1 [(78, .pointer (some (Addr.add p24 1)))] ?_
    refine OJ.ld (d := 79) (y := .tmp 78) (pend2 := fun x25 => [⟨8, 3, (Addr.add p24 1), (cI .i64).val x25⟩, ⟨4, 28, p22, (cI .i64).val x23⟩]) Ty3 (fun _ => rfl) (fun x25 => ?_)
    refine OJ.kst (y := .tmp 2) (z := .tmp 71) (cd := c_api_Prefix) (u := z_api_Prefix) (j := 1) (b := b1) (o := 0) (c_api_Prefix.enc z_api_Prefix) (owed := [⟨8, 3, (Addr.add p24 1), (cI .i64).val x25⟩, ⟨4, 28, p22, (cI .i64).val x23⟩]) Ty37 rfl (Upd.whole ((Cod.len _ _).trans (Cod.len _ _).symm)) rfl ?_
    refine OW.same Ty3 ?_
    refine OW.same Ty28 ?_
    refine OW.nil ?_
    refine OJ.go 2 [(4, .int .i64 x25), (3, .int .i64 x23)] ?_
    refine OJ.nil ?_
    exact SJ.ret rfl (Res.run (ys := [c_api_Prefix.val z_api_Prefix, .int .i64 x23, .int .i64 x25]) (.cell (j := 1) (b := b1) (cd := c_api_Prefix) (q := z_api_Prefix) (by kernel_rfl) rfl Ty37 (At.whole _) (.tmp (by kernel_rfl) (.tmp (by kernel_rfl) .nil))) rfl)
  · refine SJ.skip ?_
    refine SJ.sr 4 ?_
    refine OJ.kld (d := 80) (y := .tmp 12) (cd := c_api_Prefix) (j := 0) (b := b13) (o := 0) (⟨r3.1, j8⟩ : api_Prefix) (pend2 := []) Ty37 rfl (At.whole _) rfl ?_
    refine OJ.kst (y := .tmp 2) (z := .tmp 80) (cd := c_api_Prefix) (u := (⟨r3.1, j8⟩ : api_Prefix)) (j := 1) (b := b1) (o := 0) (c_api_Prefix.enc (⟨r3.1, j8⟩ : api_Prefix)) (owed := []) Ty37 rfl (Upd.whole ((Cod.len _ _).trans (Cod.len _ _).symm)) rfl ?_
    refine OW.nil ?_
    refine OJ.go 2 [(4, .int .i64 0), (3, .int .i64 0)] ?_
    refine OJ.nil ?_
    exact SJ.ret rfl (Res.run (ys := [c_api_Prefix.val (⟨r3.1, j8⟩ : api_Prefix), .int .i64 0, .int .i64 0]) (.cell (j := 1) (b := b1) (cd := c_api_Prefix) (q := (⟨r3.1, j8⟩ : api_Prefix)) (by kernel_rfl) rfl Ty37 (At.whole _) (.tmp (by kernel_rfl) (.tmp (by kernel_rfl) .nil))) rfl)
noncomputable def addr_ParsePrefix.K2 (r3 : (api_IP × (Option Addr))) (j8 : Int) (j12 : (Option Addr)) : M (api_Prefix × Int × Int) :=
  slot 37 >>= fun b13 =>
  (if j12 = none then
      addr_ValidPrefix (⟨r3.1, j8⟩ : api_Prefix) >>= fun r14 =>
      pure (r14 != 0)
    else
      pure false) >>= fun y15 =>
  if y15 = true then
    newv 61 c_addr_fault (⟨46, 0⟩ : addr_fault) >>= fun b27 =>
    addr_ParsePrefix.K1 r3 j8 (some (pt b27 0))
  else
    addr_ParsePrefix.K1 r3 j8 j12
theorem addr_ParsePrefix.K2_ok (b1 : Nat) (r3 : (api_IP × (Option Addr))) (b4 : Nat) (j8 : Int) (j12 : (Option Addr)) :
    SJ addr_ParsePrefix.cx [.code (c2 (c2 (c2 (c2 (c2 (c2 (c2 (c2 addr_ParsePrefix.B))))))))] [(2, .pointer (some (pt b1 0))), (8, .pointer (some (pt b4 0))), (9, .pointer j12), (10, .int .i64 j8)] [(b4, c_api_IP.enc r3.1), (b1, c_api_Prefix.enc z_api_Prefix)] (addr_ParsePrefix.K2 r3 j8 j12) addr_ParsePrefix.F0 := by
  unfold addr_ParsePrefix.K2
  refine SJ.sr 5 ?_
  refine OJ.kld (d := 57) (y := .tmp 8) (cd := c_api_IP) (j := 0) (b := b4) (o := 0) r3.1 (pend2 := []) Ty27 rfl (At.whole _) rfl ?_
  refine OJ.go 1 [(58, .int .i64 j8)] ?_
  refine OJ.build (d := 59) (T := 37) (parts := [(0, .tmp 57), (1, .tmp 58)]) (ps := [(0, c_api_IP.val r3.1), (1, (cI .i64).val j8)]) (cd := c_api_Prefix) (z0 := z_api_Prefix) (⟨r3.1, j8⟩ : api_Prefix) Ty37 rfl (Filled.cons (cd := c_api_IP) (q := r3.1) (o := 0) (by kernel_rfl) (Up_api_Prefix_IP z_api_Prefix r3.1) (Filled.cons (cd := (cI .i64)) (q := j8) (o := 17) (by kernel_rfl) (Up_api_Prefix_Len (⟨r3.1, z_api_Prefix.Len⟩ : api_Prefix) j8) Filled.nil)) ?_
  refine OJ.slotOf (d := 12) (op := (.alloc 37)) (cd := c_api_Prefix) (u := z_api_Prefix) (owed := []) (alloc_run Ty37) (fun b13 => ?_)
  refine OW.nil ?_
  refine OJ.kst (y := .tmp 12) (z := .tmp 59) (cd := c_api_Prefix) (u := (⟨r3.1, j8⟩ : api_Prefix)) (j := 0) (b := b13) (o := 0) (c_api_Prefix.enc (⟨r3.1, j8⟩ : api_Prefix)) (owed := []) Ty37 rfl (Upd.whole ((Cod.len _ _).trans (Cod.len _ _).symm)) rfl ?_
  refine OW.nil ?_
  refine OJ.nil ?_
  refine SJ.seq ?_
  refine SJ.sr 7 ?_
  refine OJ.go 3 [(62, .bool (Option.isNone j12)), (61, .bool (Option.isNone j12)), (60, .pointer j12)] ?_
  refine OJ.join (b := (Option.isNone j12)) [3, 4, 5, 6] [] [2, 9, 12, 66] (fun y15 => [(2, .pointer (some (pt b1 0))), (9, .pointer j12), (12, .pointer (some (pt b13 0))), (66, .bool y15)]) [] [] (t := 62) Option.isNone_iff_eq_none (fun hp_ => ?_) (fun hp_ => ?_) (fun _ _ _ _ _ _ h_ => h_) (fun y15 => ?_)
  · refine OJ.kld (d := 63) (y := .tmp 12) (cd := c_api_Prefix) (j := 0) (b := b13) (o := 0) (⟨r3.1, j8⟩ : api_Prefix) (pend2 := []) Ty37 rfl (At.whole _) rfl ?_
    refine OJ.call (d := 64) (g := 14) (ats := #[37]) (args := [.tmp 63]) (owed := []) F14 (addr_ValidPrefix_ok (⟨r3.1, j8⟩ : api_Prefix)) (fun r14 => ?_)
    refine OW.nil ?_
    refine OJ.go 2 [(66, .bool (r14 != 0)), (65, .bool (r14 != 0))] ?_
    exact OJ.nil ⟨(Cov.mem Cov.nil), rfl, _, rfl, by kernel_rfl⟩
  · refine OJ.go 4 [(66, .bool false), (65, undef), (64, undef), (63, undef)] ?_
    exact OJ.nil ⟨(Cov.mem Cov.nil), rfl, _, rfl, by kernel_rfl⟩
  · refine OJ.nil ?_
    refine SJ.cond (t := (.tmp 66)) (b := y15) Iff.rfl (fun hc28 => ?_) (fun hc28 => ?_)
    · refine SJ.rg 3 ?_
      refine OJ.build (d := 67) (T := 61) (parts := [(0, .const (.int .i64 46)), (1, .const (.int .i64 0))]) (ps := [(0, (cI .i64).val 46), (1, (cI .i64).val 0)]) (cd := c_addr_fault) (z0 := z_addr_fault) (⟨46, 0⟩ : addr_fault) Ty61 rfl (Filled.cons (cd := (cI .i64)) (q := 46) (o := 0) (by kernel_rfl) (Up_addr_fault_why z_addr_fault 46) (Filled.cons (cd := (cI .i64)) (q := 0) (o := 1) (by kernel_rfl) (Up_addr_fault_at_ (⟨46, z_addr_fault.at_⟩ : addr_fault) 0) Filled.nil)) ?_
      refine OJ.newOf (d := 68) (op := (.box 61 (.tmp 67))) (cd := c_addr_fault) (u := (⟨46, 0⟩ : addr_fault)) (owed := []) (box_run (by kernel_rfl)) (fun b27 => ?_)
      refine OW.nil ?_
      refine OJ.go 1 [(9, .pointer (some (pt b27 0)))] ?_
      refine OJ.nil ?_
      refine SJ.forget (List.Sublist.cons_cons _ (List.Sublist.cons _ (List.Sublist.cons_cons _ List.Sublist.slnil))) ?_
      refine SJ.less [2, 9, 12] (m' := [(2, .pointer (some (pt b1 0))), (9, .pointer (some (pt b27 0))), (12, .pointer (some (pt b13 0)))]) ?_
      exact addr_ParsePrefix.K1_ok b1 r3 j8 b13 (some (pt b27 0))
    · refine SJ.skip ?_
      refine SJ.forget (List.Sublist.cons_cons _ (List.Sublist.cons _ (List.Sublist.cons_cons _ List.Sublist.slnil))) ?_
      refine SJ.less [2, 9, 12] (m' := [(2, .pointer (some (pt b1 0))), (9, .pointer j12), (12, .pointer (some (pt b13 0)))]) ?_
      exact addr_ParsePrefix.K1_ok b1 r3 j8 b13 j12
noncomputable def addr_ParsePrefix.K3 (a0 : ByteArray) (r3 : (api_IP × (Option Addr))) (j7 : (Option Addr)) (j8 : Int) (j9 : Int) : M (api_Prefix × Int × Int) :=
  (if j7 = none then
      pure (decide (j9 < (a0.size : Int)))
    else
      pure false) >>= fun y10 =>
  if y10 = true then
    newv 61 c_addr_fault (⟨41, j9⟩ : addr_fault) >>= fun b29 =>
    addr_ParsePrefix.K2 r3 j8 (some (pt b29 0))
  else
    addr_ParsePrefix.K2 r3 j8 j7
theorem addr_ParsePrefix.K3_ok (a0 : ByteArray) (b1 : Nat) (r3 : (api_IP × (Option Addr))) (b4 : Nat) (j7 : (Option Addr)) (j8 : Int) (j9 : Int) :
    SJ addr_ParsePrefix.cx [.code (c2 (c2 (c2 (c2 (c2 (c2 (c2 addr_ParsePrefix.B)))))))] [(0, .string a0), (2, .pointer (some (pt b1 0))), (8, .pointer (some (pt b4 0))), (9, .pointer j7), (10, .int .i64 j8), (11, .int .i64 j9)] [(b4, c_api_IP.enc r3.1), (b1, c_api_Prefix.enc z_api_Prefix)] (addr_ParsePrefix.K3 a0 r3 j7 j8 j9) addr_ParsePrefix.F0 := by
  unfold addr_ParsePrefix.K3
  refine SJ.seq ?_
  refine SJ.sr 8 ?_
  refine OJ.go 3 [(48, .bool (Option.isNone j7)), (47, .bool (Option.isNone j7)), (46, .pointer j7)] ?_
  refine OJ.join (b := (Option.isNone j7)) [3, 4, 5, 6, 7] [] [2, 8, 9, 10, 11, 53] (fun y10 => [(2, .pointer (some (pt b1 0))), (8, .pointer (some (pt b4 0))), (9, .pointer j7), (10, .int .i64 j8), (11, .int .i64 j9), (53, .bool y10)]) [] [] (t := 48) Option.isNone_iff_eq_none (fun hp_ => ?_) (fun hp_ => ?_) (fun _ _ _ _ _ _ h_ => h_) (fun y10 => ?_)
  · refine OJ.go 5 [(53, .bool (decide (j9 < (a0.size : Int)))), (52, .bool (decide (j9 < (a0.size : Int)))), (51, .int .i64 (a0.size : Int)), (50, .string a0), (49, .int .i64 j9)] ?_
    exact OJ.nil ⟨(Cov.mem Cov.nil), rfl, _, rfl, by kernel_rfl⟩
  · refine OJ.go 5 [(53, .bool false), (52, undef), (51, undef), (50, undef), (49, undef)] ?_
    exact OJ.nil ⟨(Cov.mem Cov.nil), rfl, _, rfl, by kernel_rfl⟩
  · refine OJ.nil ?_
    refine SJ.cond (t := (.tmp 53)) (b := y10) Iff.rfl (fun hc30 => ?_) (fun hc30 => ?_)
    · refine SJ.rg 4 ?_
      refine OJ.go 1 [(54, .int .i64 j9)] ?_
      refine OJ.build (d := 55) (T := 61) (parts := [(0, .const (.int .i64 41)), (1, .tmp 54)]) (ps := [(0, (cI .i64).val 41), (1, (cI .i64).val j9)]) (cd := c_addr_fault) (z0 := z_addr_fault) (⟨41, j9⟩ : addr_fault) Ty61 rfl (Filled.cons (cd := (cI .i64)) (q := 41) (o := 0) (by kernel_rfl) (Up_addr_fault_why z_addr_fault 41) (Filled.cons (cd := (cI .i64)) (q := j9) (o := 1) (by kernel_rfl) (Up_addr_fault_at_ (⟨41, z_addr_fault.at_⟩ : addr_fault) j9) Filled.nil)) ?_
      refine OJ.newOf (d := 56) (op := (.box 61 (.tmp 55))) (cd := c_addr_fault) (u := (⟨41, j9⟩ : addr_fault)) (owed := []) (box_run (by kernel_rfl)) (fun b29 => ?_)
      refine OW.nil ?_
      refine OJ.go 1 [(9, .pointer (some (pt b29 0)))] ?_
      refine OJ.nil ?_
      refine SJ.less [2, 8, 9, 10] (m' := [(2, .pointer (some (pt b1 0))), (8, .pointer (some (pt b4 0))), (9, .pointer (some (pt b29 0))), (10, .int .i64 j8)]) ?_
      exact addr_ParsePrefix.K2_ok b1 r3 b4 j8 (some (pt b29 0))
    · refine SJ.skip ?_
      refine SJ.less [2, 8, 9, 10] (m' := [(2, .pointer (some (pt b1 0))), (8, .pointer (some (pt b4 0))), (9, .pointer j7), (10, .int .i64 j8)]) ?_
      exact addr_ParsePrefix.K2_ok b1 r3 b4 j8 j7
noncomputable def addr_ParsePrefix (a0 : ByteArray) : M (api_Prefix × Int × Int) :=
  slot 37 >>= fun b1 =>
  if (a0.size : Int) > 49 then
    pure (z_api_Prefix, 2, 49)
  else
    strings_Cut a0 str11 >>= fun r2 =>
    if ¬ (r2.2.2 = true) then
      pure (z_api_Prefix, 42, (a0.size : Int))
    else
      addr_parse r2.1 >>= fun r3 =>
      slot 27 >>= fun b4 =>
      if r3.2 = none then
        addr_size r3.1 >>= fun r31 =>
        addr_number a0 (IntKind.wrap .i64 ((r2.1.size : Int) + 1)) r31 45 >>= fun r32 =>
        addr_ParsePrefix.K3 a0 r3 r32.2.2 r32.1 r32.2.1
      else
        addr_ParsePrefix.K3 a0 r3 r3.2 0 0
theorem addr_ParsePrefix_ok (a0 : ByteArray) : Ref Tryd.prog 20 [.string a0] (addr_ParsePrefix a0) addr_ParsePrefix.out := by
  refine Ref.of (cd := addr_ParsePrefix.B) Tryd.func20 ?_
  show SJ addr_ParsePrefix.cx [.code addr_ParsePrefix.B] [(0, .string a0)] [] (addr_ParsePrefix a0) addr_ParsePrefix.F0
  unfold addr_ParsePrefix
  refine SJ.sr 3 ?_
  refine OJ.slotOf (d := 2) (op := (.alloc 37)) (cd := c_api_Prefix) (u := z_api_Prefix) (owed := []) (alloc_run Ty37) (fun b1 => ?_)
  refine OW.nil ?_
  refine OJ.go 2 [(4, .int .i64 0), (3, .int .i64 0)] ?_
  refine OJ.nil ?_
  refine SJ.seq ?_
  refine SJ.sr 3 ?_
  refine OJ.go 3 [(15, .bool (decide ((a0.size : Int) > 49))), (14, .int .i64 (a0.size : Int)), (13, .string a0)] ?_
  refine OJ.nil ?_
  refine SJ.cond (t := (.tmp 15)) (b := decide ((a0.size : Int) > 49)) decide_eq_true_iff (fun hc35 => ?_) (fun hc35 => ?_)
  · refine SJ.sr 4 ?_
    refine OJ.build (d := 16) (T := 37) (parts := []) (ps := []) (cd := c_api_Prefix) (z0 := z_api_Prefix) z_api_Prefix Ty37 rfl Filled.nil ?_
    refine OJ.kst (y := .tmp 2) (z := .tmp 16) (cd := c_api_Prefix) (u := z_api_Prefix) (j := 0) (b := b1) (o := 0) (c_api_Prefix.enc z_api_Prefix) (owed := []) Ty37 rfl (Upd.whole ((Cod.len _ _).trans (Cod.len _ _).symm)) rfl ?_
    refine OW.nil ?_
    refine OJ.go 2 [(4, .int .i64 49), (3, .int .i64 2)] ?_
    refine OJ.nil ?_
    exact SJ.ret rfl (Res.run (ys := [c_api_Prefix.val z_api_Prefix, .int .i64 2, .int .i64 49]) (.cell (j := 0) (b := b1) (cd := c_api_Prefix) (q := z_api_Prefix) (by kernel_rfl) rfl Ty37 (At.whole _) (.tmp (by kernel_rfl) (.tmp (by kernel_rfl) .nil))) rfl)
  · refine SJ.skip ?_
    refine SJ.sr 9 ?_
    refine OJ.go 1 [(18, .string a0)] ?_
    refine OJ.call (d := 19) (g := 34) (ats := #[9, 9]) (args := [.tmp 18, .const (.string str11)]) (owed := []) F34 (strings_Cut_ok a0 str11) (fun r2 => ?_)
    refine OW.nil ?_
    refine OJ.go 7 [(7, .bool r2.2.2), (6, .string r2.2.1), (5, .string r2.1), (22, .bool r2.2.2), (21, .string r2.2.1), (20, .string r2.1), (17, .tuple #[.string r2.1, .string r2.2.1, .bool r2.2.2])] ?_
    refine OJ.nil ?_
    refine SJ.seq ?_
    refine SJ.sr 2 ?_
    refine OJ.go 2 [(24, .bool (!r2.2.2)), (23, .bool r2.2.2)] ?_
    refine OJ.nil ?_
    refine SJ.cond (t := (.tmp 24)) (b := (!r2.2.2)) (bnot_iff Iff.rfl) (fun hc34 => ?_) (fun hc34 => ?_)
    · refine SJ.sr 6 ?_
      refine OJ.build (d := 25) (T := 37) (parts := []) (ps := []) (cd := c_api_Prefix) (z0 := z_api_Prefix) z_api_Prefix Ty37 rfl Filled.nil ?_
      refine OJ.go 2 [(27, .int .i64 (a0.size : Int)), (26, .string a0)] ?_
      refine OJ.kst (y := .tmp 2) (z := .tmp 25) (cd := c_api_Prefix) (u := z_api_Prefix) (j := 0) (b := b1) (o := 0) (c_api_Prefix.enc z_api_Prefix) (owed := []) Ty37 rfl (Upd.whole ((Cod.len _ _).trans (Cod.len _ _).symm)) rfl ?_
      refine OW.nil ?_
      refine OJ.go 2 [(4, .int .i64 (a0.size : Int)), (3, .int .i64 42)] ?_
      refine OJ.nil ?_
      exact SJ.ret rfl (Res.run (ys := [c_api_Prefix.val z_api_Prefix, .int .i64 42, .int .i64 (a0.size : Int)]) (.cell (j := 0) (b := b1) (cd := c_api_Prefix) (q := z_api_Prefix) (by kernel_rfl) rfl Ty37 (At.whole _) (.tmp (by kernel_rfl) (.tmp (by kernel_rfl) .nil))) rfl)
    · refine SJ.skip ?_
      refine SJ.sr 8 ?_
      refine OJ.go 1 [(29, .string r2.1)] ?_
      refine OJ.call (d := 30) (g := 23) (ats := #[9]) (args := [.tmp 29]) (owed := []) F23 (addr_parse_ok r2.1) (fun r3 => ?_)
      refine OW.nil ?_
      refine OJ.go 3 [(32, .pointer r3.2), (31, c_api_IP.val r3.1), (28, .tuple #[c_api_IP.val r3.1, .pointer r3.2])] ?_
      refine OJ.slotOf (d := 8) (op := (.alloc 27)) (cd := c_api_IP) (u := z_api_IP) (owed := []) (alloc_run Ty27) (fun b4 => ?_)
      refine OW.nil ?_
      refine OJ.kst (y := .tmp 8) (z := .tmp 31) (cd := c_api_IP) (u := r3.1) (j := 0) (b := b4) (o := 0) (c_api_IP.enc r3.1) (owed := []) Ty27 rfl (Upd.whole ((Cod.len _ _).trans (Cod.len _ _).symm)) rfl ?_
      refine OW.nil ?_
      refine OJ.go 1 [(9, .pointer r3.2)] ?_
      refine OJ.nil ?_
      refine SJ.sr 2 ?_
      refine OJ.go 2 [(11, .int .i64 0), (10, .int .i64 0)] ?_
      refine OJ.nil ?_
      refine SJ.seq ?_
      refine SJ.sr 2 ?_
      refine OJ.go 2 [(34, .bool (Option.isNone r3.2)), (33, .pointer r3.2)] ?_
      refine OJ.nil ?_
      refine SJ.cond (t := (.tmp 34)) (b := (Option.isNone r3.2)) Option.isNone_iff_eq_none (fun hc33 => ?_) (fun hc33 => ?_)
      · refine SJ.rg 14 ?_
        refine OJ.go 4 [(39, .int .i64 (IntKind.wrap .i64 ((r2.1.size : Int) + 1))), (38, .int .i64 (r2.1.size : Int)), (37, .string r2.1), (36, .string a0)] ?_
        refine OJ.kld (d := 40) (y := .tmp 8) (cd := c_api_IP) (j := 0) (b := b4) (o := 0) r3.1 (pend2 := []) Ty27 rfl (At.whole _) rfl ?_
        refine OJ.call (d := 41) (g := 26) (ats := #[27]) (args := [.tmp 40]) (owed := []) F26 (addr_size_ok r3.1) (fun r31 => ?_)
        refine OW.nil ?_
        refine OJ.call (d := 42) (g := 35) (ats := #[9, 3, 3, 28]) (args := [.tmp 36, .tmp 39, .tmp 41, .const (.int .i64 45)]) (owed := []) F35 (addr_number_ok a0 (IntKind.wrap .i64 ((r2.1.size : Int) + 1)) r31 45) (fun r32 => ?_)
        refine OW.nil ?_
        refine OJ.go 7 [(9, .pointer r32.2.2), (11, .int .i64 r32.2.1), (10, .int .i64 r32.1), (45, .pointer r32.2.2), (44, .int .i64 r32.2.1), (43, .int .i64 r32.1), (35, .tuple #[.int .i64 r32.1, .int .i64 r32.2.1, .pointer r32.2.2])] ?_
        refine OJ.nil ?_
        refine SJ.less [0, 2, 8, 9, 10, 11] (m' := [(0, .string a0), (2, .pointer (some (pt b1 0))), (8, .pointer (some (pt b4 0))), (9, .pointer r32.2.2), (10, .int .i64 r32.1), (11, .int .i64 r32.2.1)]) ?_
        exact addr_ParsePrefix.K3_ok a0 b1 r3 b4 r32.2.2 r32.1 r32.2.1
      · refine SJ.skip ?_
        refine SJ.less [0, 2, 8, 9, 10, 11] (m' := [(0, .string a0), (2, .pointer (some (pt b1 0))), (8, .pointer (some (pt b4 0))), (9, .pointer r3.2), (10, .int .i64 0), (11, .int .i64 0)]) ?_
        exact addr_ParsePrefix.K3_ok a0 b1 r3 b4 r3.2 0 0

/-! ### (*strings.Builder).WriteByte: function 32 -/
noncomputable def strings_Builder_WriteByte.B : Code := (Tryd.f32.body).getD .skip
noncomputable def strings_Builder_WriteByte.cx : Fx := ⟨Tryd.prog, 32, Tryd.f32⟩
noncomputable def strings_Builder_WriteByte.out (r_ : Any) : Value := r_.v
noncomputable def strings_Builder_WriteByte.F0 (r_ : Any) : Reach := .ret (strings_Builder_WriteByte.out r_)
noncomputable def strings_Builder_WriteByte (a0 : (Option Addr)) (a1 : Int) : M Any :=
  strings_Builder_copyCheck a0 >>= fun r1 =>
  nilck a0 >>= fun p2 =>
  ld cL (Addr.add p2 1) >>= fun x3 =>
  slot 5 >>= fun b4 =>
  appl (cI .u8) 5 1 0 x3 [a1] >>= fun r5 =>
  nilck a0 >>= fun p6 =>
  st cL (Addr.add p6 1) r5 >>= fun _ =>
  pure (⟨.nilIface, rfl⟩ : Any)
theorem strings_Builder_WriteByte_ok (a0 : (Option Addr)) (a1 : Int) : Ref Tryd.prog 32 [.pointer a0, .int .u8 a1] (strings_Builder_WriteByte a0 a1) strings_Builder_WriteByte.out := by
  refine Ref.of (cd := strings_Builder_WriteByte.B) Tryd.func32 ?_
  show SJ strings_Builder_WriteByte.cx [.code strings_Builder_WriteByte.B] [(0, .pointer a0), (1, .int .u8 a1)] [] (strings_Builder_WriteByte a0 a1) strings_Builder_WriteByte.F0
  unfold strings_Builder_WriteByte
  refine SJ.sr 1 ?_
  refine OJ.go 1 [(4, (⟨.nilIface, rfl⟩ : Any).v)] ?_
  refine OJ.nil ?_
  refine SJ.sr 2 ?_
  refine OJ.go 1 [(5, .pointer a0)] ?_
  refine OJ.call (d := 6) (g := 44) (ats := #[73]) (args := [.tmp 5]) (owed := []) F44 (strings_Builder_copyCheck_ok a0) (fun r1 => ?_)
  refine OW.nil ?_
  refine OJ.nil ?_
  refine SJ.sr 11 ?_
  refine OJ.go 2 [(8, .pointer a0), (7, .pointer a0)] ?_
  refine OJ.nilck (d := 9) (y := .tmp 8) (fun p2 => ?_)
  refine OJ.go 1 [(10, .pointer (some (Addr.add p2 1)))] ?_
  refine OJ.ld (d := 11) (y := .tmp 10) (pend2 := fun x3 => []) Ty55 (fun _ => rfl) (fun x3 => ?_)
  refine OJ.go 1 [(12, .int .u8 a1)] ?_
  refine OJ.rowSlot (d := 13) (t := 55) (parts := [(0, .tmp 12)]) (ps := [(0, (cI .u8).val a1)]) (cd := (cI .u8)) (⟨[a1], rfl⟩ : Vec Int 1) (owed := []) Ty5 (Filled.cons (cd := (cI .u8)) (q := a1) (o := 0) rfl (Upd.arr (i := 0) (by decide) (by decide)) Filled.nil) (fun b4 => ?_)
  refine OW.nil ?_
  refine OJ.appl (d := 14) (t := 55) (u := 55) (so := .tmp 11) (xo := .tmp 13) (j := 0) (b := b4) (l := ((cI .u8).arr 1).enc (⟨[a1], rfl⟩ : Vec Int 1)) (n := 1) (k := 1) [a1] (owed := []) Ty5 (by rfl) (Cod.arr_enc _ _ _) (by rfl) (fun r5 => ?_)
  refine OW.nil ?_
  refine OJ.nilck (d := 15) (y := .tmp 7) (fun p6 => ?_)
  refine OJ.go 1 [(16, .pointer (some (Addr.add p6 1)))] ?_
  refine OJ.st (y := .tmp 16) (z := .tmp 14) (owed := []) Ty55 ?_
  refine OW.nil ?_
  refine OJ.nil ?_
  refine SJ.sr 1 ?_
  refine OJ.go 1 [(4, (⟨.nilIface, rfl⟩ : Any).v)] ?_
  refine OJ.nil ?_
  exact SJ.ret rfl (Res.run (ys := [(⟨.nilIface, rfl⟩ : Any).v]) (.tmp (by kernel_rfl) .nil) rfl)

/-! ### weir/addr.PrintMac: function 18 -/
noncomputable def addr_PrintMac.B : Code := (Tryd.f18.body).getD .skip
noncomputable def addr_PrintMac.cx : Fx := ⟨Tryd.prog, 18, Tryd.f18⟩
noncomputable def addr_PrintMac.out (r_ : ByteArray) : Value := .string r_
noncomputable def addr_PrintMac.F0 (r_ : ByteArray) : Reach := .ret (addr_PrintMac.out r_)
noncomputable def addr_PrintMac.F1 (a0 : (Vec Int 6)) (b2 : Nat) : (LS Int ByteArray) → Reach := loopF [.inLoop (c1 (c1 (c2 (c1 (c2 (c2 addr_PrintMac.B)))))), .inBlock 0, .code (c2 (c2 (c2 addr_PrintMac.B)))] (fun s_ : Int => [(3, .pointer (some (pt b2 0))), (6, ((cI .u8).arr 6).val a0), (7, .int .i64 s_)]) (fun s_ : Int => []) addr_PrintMac.F0
noncomputable def addr_PrintMac.K1 (a0 : (Vec Int 6)) (b2 : Nat) (s3 : Int) : M (LS Int ByteArray) :=
  chk ((0 : Int) ≤ (Int.fdiv (Vec.g a0 s3 0) (2 ^ 4)) ∧ (Int.fdiv (Vec.g a0 s3 0) (2 ^ 4)) < (str12.size : Int)) >>= fun _ =>
  strings_Builder_WriteByte (some (pt b2 0)) (sb str12 (Int.fdiv (Vec.g a0 s3 0) (2 ^ 4))) >>= fun r22 =>
  chk ((0 : Int) ≤ (band .u8 (Vec.g a0 s3 0) 15) ∧ (band .u8 (Vec.g a0 s3 0) 15) < (str12.size : Int)) >>= fun _ =>
  strings_Builder_WriteByte (some (pt b2 0)) (sb str12 (band .u8 (Vec.g a0 s3 0) 15)) >>= fun r25 =>
  pure (LS.next (IntKind.wrap .i64 (s3 + 1)))
theorem addr_PrintMac.K1_ok (a0 : (Vec Int 6)) (b2 : Nat) (s3 : Int) :
    SJ addr_PrintMac.cx [.code (c2 (c2 (c1 (c1 (c2 (c2 (c1 (c1 (c2 (c1 (c2 (c2 addr_PrintMac.B)))))))))))), .inBlock 1, .code (c2 (c2 (c2 (c1 (c1 (c2 (c1 (c2 (c2 addr_PrintMac.B))))))))), .inLoop (c1 (c1 (c2 (c1 (c2 (c2 addr_PrintMac.B)))))), .inBlock 0, .code (c2 (c2 (c2 addr_PrintMac.B)))] [(3, .pointer (some (pt b2 0))), (6, ((cI .u8).arr 6).val a0), (7, .int .i64 s3), (5, .int .u8 (Vec.g a0 s3 0))] [] (addr_PrintMac.K1 a0 b2 s3) (addr_PrintMac.F1 a0 b2) := by
  unfold addr_PrintMac.K1
  refine SJ.sr 4 ?_
  refine OJ.go 2 [(15, .int .u8 (Int.fdiv (Vec.g a0 s3 0) (2 ^ 4))), (14, .int .u8 (Vec.g a0 s3 0))] ?_
  refine OJ.idxT (d := 16) (T := 9) (y := .const (.string str12)) (j := .tmp 15) (k := .u8) (fun hb20 hb21 => ?_)
  refine OJ.call (d := 17) (g := 32) (ats := #[75, 5]) (args := [.tmp 3, .tmp 16]) (owed := []) F32 (strings_Builder_WriteByte_ok (some (pt b2 0)) (sb str12 (Int.fdiv (Vec.g a0 s3 0) (2 ^ 4)))) (fun r22 => ?_)
  refine OW.nil ?_
  refine OJ.nil ?_
  refine SJ.rg 4 ?_
  refine OJ.go 2 [(19, .int .u8 (band .u8 (Vec.g a0 s3 0) 15)), (18, .int .u8 (Vec.g a0 s3 0))] ?_
  refine OJ.idxT (d := 20) (T := 9) (y := .const (.string str12)) (j := .tmp 19) (k := .u8) (fun hb23 hb24 => ?_)
  refine OJ.call (d := 21) (g := 32) (ats := #[75, 5]) (args := [.tmp 3, .tmp 20]) (owed := []) F32 (strings_Builder_WriteByte_ok (some (pt b2 0)) (sb str12 (band .u8 (Vec.g a0 s3 0) 15))) (fun r25 => ?_)
  refine OW.nil ?_
  refine OJ.nil ?_
  refine SJ.inBlock ?_
  refine SJ.rg 2 ?_
  refine OJ.go 2 [(7, .int .i64 (IntKind.wrap .i64 (s3 + 1))), (22, .int .i64 (IntKind.wrap .i64 (s3 + 1)))] ?_
  refine OJ.nil ?_
  exact SJ.at_ [3, 6, 7] rfl
noncomputable def addr_PrintMac.L1 (a0 : (Vec Int 6)) (b2 : Nat) (s3 : Int) : M (LS Int ByteArray) :=
  if s3 < 6 then
    chk ((0 : Int) ≤ s3 ∧ s3 < (6 : Nat)) >>= fun _ =>
    if s3 > 0 then
      strings_Builder_WriteByte (some (pt b2 0)) 58 >>= fun r26 =>
      addr_PrintMac.K1 a0 b2 s3
    else
      addr_PrintMac.K1 a0 b2 s3
  else
    strings_Builder_String (some (pt b2 0)) >>= fun r28 =>
    pure (LS.done r28)
theorem addr_PrintMac.L1_ok (a0 : (Vec Int 6)) (b2 : Nat) (s3 : Int) :
    SJ addr_PrintMac.cx [.code (c1 (c1 (c2 (c1 (c2 (c2 addr_PrintMac.B)))))), .inLoop (c1 (c1 (c2 (c1 (c2 (c2 addr_PrintMac.B)))))), .inBlock 0, .code (c2 (c2 (c2 addr_PrintMac.B)))] [(3, .pointer (some (pt b2 0))), (6, ((cI .u8).arr 6).val a0), (7, .int .i64 s3)] [] (addr_PrintMac.L1 a0 b2 s3) (addr_PrintMac.F1 a0 b2) := by
  unfold addr_PrintMac.L1
  refine SJ.sr 1 ?_
  refine OJ.go 1 [(8, .bool (decide (s3 < 6)))] ?_
  refine OJ.nil ?_
  refine SJ.seq ?_
  refine SJ.cond (t := (.tmp 8)) (b := decide (s3 < 6)) decide_eq_true_iff (fun hc29 => ?_) (fun hc29 => ?_)
  · refine SJ.skip ?_
    refine SJ.seq ?_
    refine SJ.block (id := 1) ?_
    refine SJ.sr 4 ?_
    refine OJ.go 1 [(9, .int .i64 s3)] ?_
    refine OJ.idxV (d := 10) (T := 42) (E := 5) (y := .tmp 6) (j := .tmp 7) (k := .i64) (v0 := a0) Ty5 (fun hb17 hb18 => ?_)
    refine OJ.go 2 [(5, .int .u8 (Vec.g a0 s3 0)), (4, .int .i64 s3)] ?_
    refine OJ.nil ?_
    refine SJ.seq ?_
    refine SJ.sr 2 ?_
    refine OJ.go 2 [(12, .bool (decide (s3 > 0))), (11, .int .i64 s3)] ?_
    refine OJ.nil ?_
    refine SJ.cond (t := (.tmp 12)) (b := decide (s3 > 0)) decide_eq_true_iff (fun hc27 => ?_) (fun hc27 => ?_)
    · refine SJ.rg 1 ?_
      refine OJ.call (d := 13) (g := 32) (ats := #[75, 5]) (args := [.tmp 3, .const (.int .u8 58)]) (owed := []) F32 (strings_Builder_WriteByte_ok (some (pt b2 0)) 58) (fun r26 => ?_)
      refine OW.nil ?_
      refine OJ.nil ?_
      refine SJ.less [3, 6, 7, 5] (m' := [(3, .pointer (some (pt b2 0))), (6, ((cI .u8).arr 6).val a0), (7, .int .i64 s3), (5, .int .u8 (Vec.g a0 s3 0))]) ?_
      exact addr_PrintMac.K1_ok a0 b2 s3
    · refine SJ.skip ?_
      refine SJ.less [3, 6, 7, 5] (m' := [(3, .pointer (some (pt b2 0))), (6, ((cI .u8).arr 6).val a0), (7, .int .i64 s3), (5, .int .u8 (Vec.g a0 s3 0))]) ?_
      exact addr_PrintMac.K1_ok a0 b2 s3
  · refine SJ.exit (id := 0) (by rfl) ?_
    refine SJ.sr 2 ?_
    refine OJ.call (d := 23) (g := 33) (ats := #[75]) (args := [.tmp 3]) (owed := []) F33 (strings_Builder_String_ok (some (pt b2 0))) (fun r28 => ?_)
    refine OW.nil ?_
    refine OJ.go 1 [(2, .string r28)] ?_
    refine OJ.nil ?_
    exact SJ.ret rfl (Res.run (ys := [.string r28]) (.tmp (by kernel_rfl) .nil) rfl)
noncomputable def addr_PrintMac (a0 : (Vec Int 6)) : M ByteArray :=
  slot 42 >>= fun b1 =>
  newv 75 c_strings_Builder z_strings_Builder >>= fun b2 =>
  loopM (fun s_ : Int => addr_PrintMac.L1 a0 b2 s_) 0
theorem addr_PrintMac_ok (a0 : (Vec Int 6)) : Ref Tryd.prog 18 [((cI .u8).arr 6).val a0] (addr_PrintMac a0) addr_PrintMac.out := by
  refine Ref.of (cd := addr_PrintMac.B) Tryd.func18 ?_
  show SJ addr_PrintMac.cx [.code addr_PrintMac.B] [(0, ((cI .u8).arr 6).val a0)] [] (addr_PrintMac a0) addr_PrintMac.F0
  unfold addr_PrintMac
  refine SJ.sr 2 ?_
  refine OJ.slotOf (d := 1) (op := (.box 42 (.tmp 0))) (cd := ((cI .u8).arr 6)) (u := a0) (owed := []) (box_run (by kernel_rfl)) (fun b1 => ?_)
  refine OW.nil ?_
  refine OJ.go 1 [(2, .string ByteArray.empty)] ?_
  refine OJ.nil ?_
  refine SJ.sr 1 ?_
  refine OJ.newOf (d := 3) (op := (.alloc 75)) (cd := c_strings_Builder) (u := z_strings_Builder) (owed := []) (alloc_run Ty75) (fun b2 => ?_)
  refine OW.nil ?_
  refine OJ.nil ?_
  refine SJ.seq ?_
  refine SJ.sr 2 ?_
  refine OJ.kld (d := 6) (y := .tmp 1) (cd := ((cI .u8).arr 6)) (j := 0) (b := b1) (o := 0) a0 (pend2 := []) Ty42 rfl (At.whole _) rfl ?_
  refine OJ.go 1 [(7, .int .i64 0)] ?_
  refine OJ.nil ?_
  refine SJ.block (id := 0) ?_
  refine SJ.forget (List.Sublist.cons _ List.Sublist.slnil) ?_
  exact SJ.loop (fun s_ : Int => [(3, .pointer (some (pt b2 0))), (6, ((cI .u8).arr 6).val a0), (7, .int .i64 s_)]) (fun s_ : Int => []) [3, 6, 7] rfl (fun _ _ => rfl) (fun s_ => addr_PrintMac.L1_ok a0 b2 s_)

/-! ### weir/addr.ParseMac: function 21 -/
noncomputable def addr_ParseMac.B : Code := (Tryd.f21.body).getD .skip
noncomputable def addr_ParseMac.cx : Fx := ⟨Tryd.prog, 21, Tryd.f21⟩
noncomputable def addr_ParseMac.out (r_ : ((Vec Int 6) × Int × Int)) : Value := .tuple #[((cI .u8).arr 6).val r_.1, .int .i64 r_.2.1, .int .i64 r_.2.2]
noncomputable def addr_ParseMac.F0 (r_ : ((Vec Int 6) × Int × Int)) : Reach := .ret (addr_ParseMac.out r_)
noncomputable def addr_ParseMac.F1 (a0 : ByteArray) (b1 : Nat) (b2 : Nat) : (LS (Int × (Vec Int 6) × (Vec Int 6)) ((Vec Int 6) × Int × Int)) → Reach := loopF [.inLoop (c1 (c1 (c2 (c1 (c2 (c2 (c2 addr_ParseMac.B))))))), .inBlock 0, .code (c2 (c2 (c2 (c2 addr_ParseMac.B))))] (fun s_ : (Int × (Vec Int 6) × (Vec Int 6)) => [(0, .string a0), (2, .pointer (some (pt b1 0))), (5, .pointer (some (pt b2 0))), (12, .int .i64 s_.1)]) (fun s_ : (Int × (Vec Int 6) × (Vec Int 6)) => [(b2, ((cI .u8).arr 6).enc s_.2.1), (b1, ((cI .u8).arr 6).enc s_.2.2)]) addr_ParseMac.F0
noncomputable def addr_ParseMac.L1 (a0 : ByteArray) (s3 : Int) (s4 : (Vec Int 6)) (s5 : (Vec Int 6)) : M (LS (Int × (Vec Int 6) × (Vec Int 6)) ((Vec Int 6) × Int × Int)) :=
  if s3 < 17 then
    if s3 = (a0.size : Int) then
      pure (LS.done ((⟨[0, 0, 0, 0, 0, 0], rfl⟩ : (Vec Int 6)), 42, s3))
    else
      if (Int.tmod s3 3) = 2 then
        chk ((0 : Int) ≤ s3 ∧ s3 < (a0.size : Int)) >>= fun _ =>
        if (sb a0 s3) ≠ 58 then
          pure (LS.done ((⟨[0, 0, 0, 0, 0, 0], rfl⟩ : (Vec Int 6)), 41, s3))
        else
          pure (LS.next (IntKind.wrap .i64 (s3 + 1), s4, s5))
      else
        chk ((0 : Int) ≤ s3 ∧ s3 < (a0.size : Int)) >>= fun _ =>
        addr_hexa (sb a0 s3) >>= fun r31 =>
        if r31 < 0 then
          pure (LS.done ((⟨[0, 0, 0, 0, 0, 0], rfl⟩ : (Vec Int 6)), 41, s3))
        else
          chk ((0 : Int) ≤ (IntKind.wrap .i64 (Int.tdiv s3 3)) ∧ (IntKind.wrap .i64 (Int.tdiv s3 3)) < (6 : Nat)) >>= fun _ =>
          chk ((0 : Int) ≤ (IntKind.wrap .i64 (Int.tdiv s3 3)) ∧ (IntKind.wrap .i64 (Int.tdiv s3 3)) < (6 : Nat)) >>= fun _ =>
          pure (LS.next (IntKind.wrap .i64 (s3 + 1), (Vec.s s4 (IntKind.wrap .i64 (Int.tdiv s3 3)) (bor .u8 (IntKind.wrap .u8 ((Vec.g s4 (IntKind.wrap .i64 (Int.tdiv s3 3)) 0) * 2 ^ 4)) (IntKind.wrap .u8 r31))), s5))
  else
    pure (LS.done (s4, 0, 0))
theorem addr_ParseMac.L1_ok (a0 : ByteArray) (b1 : Nat) (b2 : Nat) (s3 : Int) (s4 : (Vec Int 6)) (s5 : (Vec Int 6)) :
    SJ addr_ParseMac.cx [.code (c1 (c1 (c2 (c1 (c2 (c2 (c2 addr_ParseMac.B))))))), .inLoop (c1 (c1 (c2 (c1 (c2 (c2 (c2 addr_ParseMac.B))))))), .inBlock 0, .code (c2 (c2 (c2 (c2 addr_ParseMac.B))))] [(0, .string a0), (2, .pointer (some (pt b1 0))), (5, .pointer (some (pt b2 0))), (12, .int .i64 s3)] [(b2, ((cI .u8).arr 6).enc s4), (b1, ((cI .u8).arr 6).enc s5)] (addr_ParseMac.L1 a0 s3 s4 s5) (addr_ParseMac.F1 a0 b1 b2) := by
  unfold addr_ParseMac.L1
  refine SJ.sr 1 ?_
  refine OJ.go 1 [(13, .bool (decide (s3 < 17)))] ?_
  refine OJ.nil ?_
  refine SJ.seq ?_
  refine SJ.cond (t := (.tmp 13)) (b := decide (s3 < 17)) decide_eq_true_iff (fun hc39 => ?_) (fun hc39 => ?_)
  · refine SJ.skip ?_
    refine SJ.seq ?_
    refine SJ.block (id := 1) ?_
    refine SJ.sr 2 ?_
    refine OJ.go 2 [(6, .int .i64 s3), (14, .int .i64 s3)] ?_
    refine OJ.nil ?_
    refine SJ.seq ?_
    refine SJ.sr 4 ?_
    refine OJ.go 4 [(18, .bool (s3 == (a0.size : Int))), (17, .int .i64 (a0.size : Int)), (16, .string a0), (15, .int .i64 s3)] ?_
    refine OJ.nil ?_
    refine SJ.cond (t := (.tmp 18)) (b := (s3 == (a0.size : Int))) beq_iff_eq (fun hc38 => ?_) (fun hc38 => ?_)
    · refine SJ.sr 5 ?_
      refine OJ.build (d := 19) (T := 42) (parts := []) (ps := []) (cd := ((cI .u8).arr 6)) (z0 := (Vec.rep 6 0)) (⟨[0, 0, 0, 0, 0, 0], rfl⟩ : (Vec Int 6)) Ty42 rfl Filled.nil ?_
      refine OJ.go 1 [(20, .int .i64 s3)] ?_
      refine OJ.kst (y := .tmp 2) (z := .tmp 19) (cd := ((cI .u8).arr 6)) (u := (⟨[0, 0, 0, 0, 0, 0], rfl⟩ : (Vec Int 6))) (j := 1) (b := b1) (o := 0) (((cI .u8).arr 6).enc (⟨[0, 0, 0, 0, 0, 0], rfl⟩ : (Vec Int 6))) (owed := []) Ty42 rfl (Upd.whole ((Cod.len _ _).trans (Cod.len _ _).symm)) rfl ?_
      refine OW.nil ?_
      refine OJ.go 2 [(4, .int .i64 s3), (3, .int .i64 42)] ?_
      refine OJ.nil ?_
      exact SJ.ret rfl (Res.run (ys := [((cI .u8).arr 6).val (⟨[0, 0, 0, 0, 0, 0], rfl⟩ : (Vec Int 6)), .int .i64 42, .int .i64 s3]) (.cell (j := 1) (b := b1) (cd := ((cI .u8).arr 6)) (q := (⟨[0, 0, 0, 0, 0, 0], rfl⟩ : (Vec Int 6))) (by kernel_rfl) rfl Ty42 (At.whole _) (.tmp (by kernel_rfl) (.tmp (by kernel_rfl) .nil))) rfl)
    · refine SJ.skip ?_
      refine SJ.seq ?_
      refine SJ.sr 3 ?_
      refine OJ.go 3 [(23, .bool ((Int.tmod s3 3) == 2)), (22, .int .i64 (Int.tmod s3 3)), (21, .int .i64 s3)] ?_
      refine OJ.nil ?_
      refine SJ.cond (t := (.tmp 23)) (b := ((Int.tmod s3 3) == 2)) beq_iff_eq (fun hc37 => ?_) (fun hc37 => ?_)
      · refine SJ.seq ?_
        refine SJ.sr 4 ?_
        refine OJ.go 2 [(25, .int .i64 s3), (24, .string a0)] ?_
        refine OJ.idxT (d := 26) (T := 9) (y := .tmp 24) (j := .tmp 25) (k := .i64) (fun hb26 hb27 => ?_)
        refine OJ.go 1 [(27, .bool ((sb a0 s3) != 58))] ?_
        refine OJ.nil ?_
        refine SJ.cond (t := (.tmp 27)) (b := ((sb a0 s3) != 58)) bne_iff_ne (fun hc28 => ?_) (fun hc28 => ?_)
        · refine SJ.sr 5 ?_
          refine OJ.build (d := 28) (T := 42) (parts := []) (ps := []) (cd := ((cI .u8).arr 6)) (z0 := (Vec.rep 6 0)) (⟨[0, 0, 0, 0, 0, 0], rfl⟩ : (Vec Int 6)) Ty42 rfl Filled.nil ?_
          refine OJ.go 1 [(29, .int .i64 s3)] ?_
          refine OJ.kst (y := .tmp 2) (z := .tmp 28) (cd := ((cI .u8).arr 6)) (u := (⟨[0, 0, 0, 0, 0, 0], rfl⟩ : (Vec Int 6))) (j := 1) (b := b1) (o := 0) (((cI .u8).arr 6).enc (⟨[0, 0, 0, 0, 0, 0], rfl⟩ : (Vec Int 6))) (owed := []) Ty42 rfl (Upd.whole ((Cod.len _ _).trans (Cod.len _ _).symm)) rfl ?_
          refine OW.nil ?_
          refine OJ.go 2 [(4, .int .i64 s3), (3, .int .i64 41)] ?_
          refine OJ.nil ?_
          exact SJ.ret rfl (Res.run (ys := [((cI .u8).arr 6).val (⟨[0, 0, 0, 0, 0, 0], rfl⟩ : (Vec Int 6)), .int .i64 41, .int .i64 s3]) (.cell (j := 1) (b := b1) (cd := ((cI .u8).arr 6)) (q := (⟨[0, 0, 0, 0, 0, 0], rfl⟩ : (Vec Int 6))) (by kernel_rfl) rfl Ty42 (At.whole _) (.tmp (by kernel_rfl) (.tmp (by kernel_rfl) .nil))) rfl)
        · refine SJ.skip ?_
          refine SJ.exit (id := 1) (by rfl) ?_
          refine SJ.rg 2 ?_
          refine OJ.go 2 [(12, .int .i64 (IntKind.wrap .i64 (s3 + 1))), (49, .int .i64 (IntKind.wrap .i64 (s3 + 1)))] ?_
          refine OJ.nil ?_
          exact SJ.at_ [0, 2, 5, 12] rfl
      · refine SJ.skip ?_
        refine SJ.sr 5 ?_
        refine OJ.go 2 [(31, .int .i64 s3), (30, .string a0)] ?_
        refine OJ.idxT (d := 32) (T := 9) (y := .tmp 30) (j := .tmp 31) (k := .i64) (fun hb29 hb30 => ?_)
        refine OJ.call (d := 33) (g := 36) (ats := #[5]) (args := [.tmp 32]) (owed := []) F36 (addr_hexa_ok (sb a0 s3)) (fun r31 => ?_)
        refine OW.nil ?_
        refine OJ.go 1 [(7, .int .i64 r31)] ?_
        refine OJ.nil ?_
        refine SJ.seq ?_
        refine SJ.sr 2 ?_
        refine OJ.go 2 [(35, .bool (decide (r31 < 0))), (34, .int .i64 r31)] ?_
        refine OJ.nil ?_
        refine SJ.cond (t := (.tmp 35)) (b := decide (r31 < 0)) decide_eq_true_iff (fun hc36 => ?_) (fun hc36 => ?_)
        · refine SJ.sr 5 ?_
          refine OJ.build (d := 36) (T := 42) (parts := []) (ps := []) (cd := ((cI .u8).arr 6)) (z0 := (Vec.rep 6 0)) (⟨[0, 0, 0, 0, 0, 0], rfl⟩ : (Vec Int 6)) Ty42 rfl Filled.nil ?_
          refine OJ.go 1 [(37, .int .i64 s3)] ?_
          refine OJ.kst (y := .tmp 2) (z := .tmp 36) (cd := ((cI .u8).arr 6)) (u := (⟨[0, 0, 0, 0, 0, 0], rfl⟩ : (Vec Int 6))) (j := 1) (b := b1) (o := 0) (((cI .u8).arr 6).enc (⟨[0, 0, 0, 0, 0, 0], rfl⟩ : (Vec Int 6))) (owed := []) Ty42 rfl (Upd.whole ((Cod.len _ _).trans (Cod.len _ _).symm)) rfl ?_
          refine OW.nil ?_
          refine OJ.go 2 [(4, .int .i64 s3), (3, .int .i64 41)] ?_
          refine OJ.nil ?_
          exact SJ.ret rfl (Res.run (ys := [((cI .u8).arr 6).val (⟨[0, 0, 0, 0, 0, 0], rfl⟩ : (Vec Int 6)), .int .i64 41, .int .i64 s3]) (.cell (j := 1) (b := b1) (cd := ((cI .u8).arr 6)) (q := (⟨[0, 0, 0, 0, 0, 0], rfl⟩ : (Vec Int 6))) (by kernel_rfl) rfl Ty42 (At.whole _) (.tmp (by kernel_rfl) (.tmp (by kernel_rfl) .nil))) rfl)
        · refine SJ.skip ?_
          refine SJ.rg 12 ?_
          refine OJ.go 4 [(41, .int .i64 (IntKind.wrap .i64 (Int.tdiv s3 3))), (40, .int .i64 s3), (39, .int .i64 (IntKind.wrap .i64 (Int.tdiv s3 3))), (38, .int .i64 s3)] ?_
          refine OJ.idxK (d := 42) (T := 42) (y := .tmp 5) (j := .tmp 41) (E := 5) (sz := 1) (b := b2) (o := 0) (k := .i64) (fun hb32 hb33 => ?_)
          refine OJ.kld (d := 43) (y := .tmp 42) (cd := (cI .u8)) (j := 0) (b := b2) (o := (0 + (IntKind.wrap .i64 (Int.tdiv s3 3)).toNat * 1)) (Vec.g s4 (IntKind.wrap .i64 (Int.tdiv s3 3)) 0) (pend2 := []) Ty5 rfl (At.zero (At.arr (z := 0) hb32 hb33)) rfl ?_
          refine OJ.go 4 [(47, .int .u8 (bor .u8 (IntKind.wrap .u8 ((Vec.g s4 (IntKind.wrap .i64 (Int.tdiv s3 3)) 0) * 2 ^ 4)) (IntKind.wrap .u8 r31))), (46, .int .u8 (IntKind.wrap .u8 r31)), (45, .int .i64 r31), (44, .int .u8 (IntKind.wrap .u8 ((Vec.g s4 (IntKind.wrap .i64 (Int.tdiv s3 3)) 0) * 2 ^ 4)))] ?_
          refine OJ.idxK (d := 48) (T := 42) (y := .tmp 5) (j := .tmp 39) (E := 5) (sz := 1) (b := b2) (o := 0) (k := .i64) (fun hb34 hb35 => ?_)
          refine OJ.kst (y := .tmp 48) (z := .tmp 47) (cd := (cI .u8)) (u := (bor .u8 (IntKind.wrap .u8 ((Vec.g s4 (IntKind.wrap .i64 (Int.tdiv s3 3)) 0) * 2 ^ 4)) (IntKind.wrap .u8 r31))) (j := 0) (b := b2) (o := (0 + (IntKind.wrap .i64 (Int.tdiv s3 3)).toNat * 1)) (((cI .u8).arr 6).enc (Vec.s s4 (IntKind.wrap .i64 (Int.tdiv s3 3)) (bor .u8 (IntKind.wrap .u8 ((Vec.g s4 (IntKind.wrap .i64 (Int.tdiv s3 3)) 0) * 2 ^ 4)) (IntKind.wrap .u8 r31)))) (owed := []) Ty5 rfl (Upd.zero (Upd.arr hb34 hb35)) rfl ?_
          refine OW.nil ?_
          refine OJ.nil ?_
          refine SJ.inBlock ?_
          refine SJ.rg 2 ?_
          refine OJ.go 2 [(12, .int .i64 (IntKind.wrap .i64 (s3 + 1))), (49, .int .i64 (IntKind.wrap .i64 (s3 + 1)))] ?_
          refine OJ.nil ?_
          exact SJ.at_ [0, 2, 5, 12] rfl
  · refine SJ.exit (id := 0) (by rfl) ?_
    refine SJ.sr 4 ?_
    refine OJ.kld (d := 50) (y := .tmp 5) (cd := ((cI .u8).arr 6)) (j := 0) (b := b2) (o := 0) s4 (pend2 := []) Ty42 rfl (At.whole _) rfl ?_
    refine OJ.kst (y := .tmp 2) (z := .tmp 50) (cd := ((cI .u8).arr 6)) (u := s4) (j := 1) (b := b1) (o := 0) (((cI .u8).arr 6).enc s4) (owed := []) Ty42 rfl (Upd.whole ((Cod.len _ _).trans (Cod.len _ _).symm)) rfl ?_
    refine OW.nil ?_
    refine OJ.go 2 [(4, .int .i64 0), (3, .int .i64 0)] ?_
    refine OJ.nil ?_
    exact SJ.ret rfl (Res.run (ys := [((cI .u8).arr 6).val s4, .int .i64 0, .int .i64 0]) (.cell (j := 1) (b := b1) (cd := ((cI .u8).arr 6)) (q := s4) (by kernel_rfl) rfl Ty42 (At.whole _) (.tmp (by kernel_rfl) (.tmp (by kernel_rfl) .nil))) rfl)
noncomputable def addr_ParseMac (a0 : ByteArray) : M ((Vec Int 6) × Int × Int) :=
  slot 42 >>= fun b1 =>
  if (a0.size : Int) > 17 then
    pure ((⟨[0, 0, 0, 0, 0, 0], rfl⟩ : (Vec Int 6)), 2, 17)
  else
    slot 42 >>= fun b2 =>
    loopM (fun s_ : (Int × (Vec Int 6) × (Vec Int 6)) => addr_ParseMac.L1 a0 s_.1 s_.2.1 s_.2.2) (0, (Vec.rep 6 0), (Vec.rep 6 0))
theorem addr_ParseMac_ok (a0 : ByteArray) : Ref Tryd.prog 21 [.string a0] (addr_ParseMac a0) addr_ParseMac.out := by
  refine Ref.of (cd := addr_ParseMac.B) Tryd.func21 ?_
  show SJ addr_ParseMac.cx [.code addr_ParseMac.B] [(0, .string a0)] [] (addr_ParseMac a0) addr_ParseMac.F0
  unfold addr_ParseMac
  refine SJ.sr 3 ?_
  refine OJ.slotOf (d := 2) (op := (.alloc 42)) (cd := ((cI .u8).arr 6)) (u := (Vec.rep 6 0)) (owed := []) (alloc_run Ty42) (fun b1 => ?_)
  refine OW.nil ?_
  refine OJ.go 2 [(4, .int .i64 0), (3, .int .i64 0)] ?_
  refine OJ.nil ?_
  refine SJ.seq ?_
  refine SJ.sr 3 ?_
  refine OJ.go 3 [(10, .bool (decide ((a0.size : Int) > 17))), (9, .int .i64 (a0.size : Int)), (8, .string a0)] ?_
  refine OJ.nil ?_
  refine SJ.cond (t := (.tmp 10)) (b := decide ((a0.size : Int) > 17)) decide_eq_true_iff (fun hc40 => ?_) (fun hc40 => ?_)
  · refine SJ.sr 4 ?_
    refine OJ.build (d := 11) (T := 42) (parts := []) (ps := []) (cd := ((cI .u8).arr 6)) (z0 := (Vec.rep 6 0)) (⟨[0, 0, 0, 0, 0, 0], rfl⟩ : (Vec Int 6)) Ty42 rfl Filled.nil ?_
    refine OJ.kst (y := .tmp 2) (z := .tmp 11) (cd := ((cI .u8).arr 6)) (u := (⟨[0, 0, 0, 0, 0, 0], rfl⟩ : (Vec Int 6))) (j := 0) (b := b1) (o := 0) (((cI .u8).arr 6).enc (⟨[0, 0, 0, 0, 0, 0], rfl⟩ : (Vec Int 6))) (owed := []) Ty42 rfl (Upd.whole ((Cod.len _ _).trans (Cod.len _ _).symm)) rfl ?_
    refine OW.nil ?_
    refine OJ.go 2 [(4, .int .i64 17), (3, .int .i64 2)] ?_
    refine OJ.nil ?_
    exact SJ.ret rfl (Res.run (ys := [((cI .u8).arr 6).val (⟨[0, 0, 0, 0, 0, 0], rfl⟩ : (Vec Int 6)), .int .i64 2, .int .i64 17]) (.cell (j := 0) (b := b1) (cd := ((cI .u8).arr 6)) (q := (⟨[0, 0, 0, 0, 0, 0], rfl⟩ : (Vec Int 6))) (by kernel_rfl) rfl Ty42 (At.whole _) (.tmp (by kernel_rfl) (.tmp (by kernel_rfl) .nil))) rfl)
  · refine SJ.skip ?_
    refine SJ.sr 1 ?_
    refine OJ.slotOf (d := 5) (op := (.alloc 42)) (cd := ((cI .u8).arr 6)) (u := (Vec.rep 6 0)) (owed := []) (alloc_run Ty42) (fun b2 => ?_)
    refine OW.nil ?_
    refine OJ.nil ?_
    refine SJ.seq ?_
    refine SJ.sr 1 ?_
    refine OJ.go 1 [(12, .int .i64 0)] ?_
    refine OJ.nil ?_
    refine SJ.block (id := 0) ?_
    exact SJ.loop (fun s_ : (Int × (Vec Int 6) × (Vec Int 6)) => [(0, .string a0), (2, .pointer (some (pt b1 0))), (5, .pointer (some (pt b2 0))), (12, .int .i64 s_.1)]) (fun s_ : (Int × (Vec Int 6) × (Vec Int 6)) => [(b2, ((cI .u8).arr 6).enc s_.2.1), (b1, ((cI .u8).arr 6).enc s_.2.2)]) [0, 2, 5, 12] rfl (fun _ _ => rfl) (fun s_ => addr_ParseMac.L1_ok a0 b1 b2 s_.1 s_.2.1 s_.2.2)

/-! ### weir/weirlaw4.AddrBack: function 6 -/
noncomputable def weirlaw4_AddrBack.B : Code := (Tryd.f6.body).getD .skip
noncomputable def weirlaw4_AddrBack.cx : Fx := ⟨Tryd.prog, 6, Tryd.f6⟩
noncomputable def weirlaw4_AddrBack.out (r_ : Bool) : Value := .bool r_
noncomputable def weirlaw4_AddrBack.F0 (r_ : Bool) : Reach := .ret (weirlaw4_AddrBack.out r_)
noncomputable def weirlaw4_AddrBack.K1 (a2 : (Vec Int 6)) : M Bool :=
  addr_PrintMac a2 >>= fun r31 =>
  addr_ParseMac r31 >>= fun r32 =>
  slot 42 >>= fun b33 =>
  weirlaw4_started >>= fun r34 =>
  (if r34 = true then
      pure (eqv r32.1 a2)
    else
      pure false) >>= fun y35 =>
  (if y35 = true then
      weirlaw4_num r32.2.1 >>= fun r36 =>
      pure (r36 == 0)
    else
      pure false) >>= fun y37 =>
  (if y37 = true then
      pure (r32.2.2 == 0)
    else
      pure false) >>= fun y38 =>
  pure y38
theorem weirlaw4_AddrBack.K1_ok (a2 : (Vec Int 6)) (b3 : Nat) :
    SJ weirlaw4_AddrBack.cx [.code (c2 (c2 (c2 (c2 (c2 (c2 (c2 weirlaw4_AddrBack.B)))))))] [(5, .pointer (some (pt b3 0)))] [(b3, ((cI .u8).arr 6).enc a2)] (weirlaw4_AddrBack.K1 a2) weirlaw4_AddrBack.F0 := by
  unfold weirlaw4_AddrBack.K1
  refine SJ.sr 11 ?_
  refine OJ.kld (d := 103) (y := .tmp 5) (cd := ((cI .u8).arr 6)) (j := 0) (b := b3) (o := 0) a2 (pend2 := []) Ty42 rfl (At.whole _) rfl ?_
  refine OJ.call (d := 104) (g := 18) (ats := #[42]) (args := [.tmp 103]) (owed := []) F18 (addr_PrintMac_ok a2) (fun r31 => ?_)
  refine OW.nil ?_
  refine OJ.call (d := 105) (g := 21) (ats := #[9]) (args := [.tmp 104]) (owed := []) F21 (addr_ParseMac_ok r31) (fun r32 => ?_)
  refine OW.nil ?_
  refine OJ.go 4 [(108, .int .i64 r32.2.2), (107, .int .i64 r32.2.1), (106, ((cI .u8).arr 6).val r32.1), (102, .tuple #[((cI .u8).arr 6).val r32.1, .int .i64 r32.2.1, .int .i64 r32.2.2])] ?_
  refine OJ.slotOf (d := 17) (op := (.alloc 42)) (cd := ((cI .u8).arr 6)) (u := (Vec.rep 6 0)) (owed := []) (alloc_run Ty42) (fun b33 => ?_)
  refine OW.nil ?_
  refine OJ.kst (y := .tmp 17) (z := .tmp 106) (cd := ((cI .u8).arr 6)) (u := r32.1) (j := 0) (b := b33) (o := 0) (((cI .u8).arr 6).enc r32.1) (owed := []) Ty42 rfl (Upd.whole ((Cod.len _ _).trans (Cod.len _ _).symm)) rfl ?_
  refine OW.nil ?_
  refine OJ.go 2 [(19, .int .i64 r32.2.2), (18, .int .i64 r32.2.1)] ?_
  refine OJ.nil ?_
  refine SJ.sr 16 ?_
  refine OJ.call (d := 109) (g := 11) (ats := #[]) (args := []) (owed := []) F11 (weirlaw4_started_ok ) (fun r34 => ?_)
  refine OW.nil ?_
  refine OJ.go 1 [(110, .bool r34)] ?_
  refine OJ.join (b := r34) [2, 3, 4, 5] [6, 7, 8, 9, 10, 11, 12, 13, 14, 15] [18, 19, 114] (fun y35 => [(18, .int .i64 r32.2.1), (19, .int .i64 r32.2.2), (114, .bool y35)]) [] [] (t := 110) Iff.rfl (fun hp_ => ?_) (fun hp_ => ?_) (fun _ _ _ _ _ _ h_ => h_) (fun y35 => ?_)
  · refine OJ.kld (d := 111) (y := .tmp 17) (cd := ((cI .u8).arr 6)) (j := 0) (b := b33) (o := 0) r32.1 (pend2 := []) Ty42 rfl (At.whole _) rfl ?_
    refine OJ.kld (d := 112) (y := .tmp 5) (cd := ((cI .u8).arr 6)) (j := 1) (b := b3) (o := 0) a2 (pend2 := []) Ty42 rfl (At.whole _) rfl ?_
    refine OJ.eql (d := 113) (T := 42) (yT := 42) (y := .tmp 111) (z := .tmp 112) (cd := ((cI .u8).arr 6)) (p := r32.1) (q := a2) rfl Eq42 ?_
    refine OJ.go 1 [(114, .bool (eqv r32.1 a2))] ?_
    exact OJ.nil ⟨(Cov.mem Cov.nil), rfl, _, rfl, by kernel_rfl⟩
  · refine OJ.go 4 [(114, .bool false), (113, undef), (112, undef), (111, undef)] ?_
    exact OJ.nil ⟨(Cov.mem Cov.nil), rfl, _, rfl, by kernel_rfl⟩
  · refine OJ.go 1 [(115, .bool y35)] ?_
    refine OJ.join (b := y35) [7, 8, 9, 10] [11, 12, 13, 14, 15] [19, 119] (fun y37 => [(19, .int .i64 r32.2.2), (119, .bool y37)]) [] [] (t := 115) Iff.rfl (fun hp_ => ?_) (fun hp_ => ?_) (fun _ _ _ _ _ _ h_ => h_) (fun y37 => ?_)
    · refine OJ.go 1 [(116, .int .i64 r32.2.1)] ?_
      refine OJ.call (d := 117) (g := 12) (ats := #[28]) (args := [.tmp 116]) (owed := []) F12 (weirlaw4_num_ok r32.2.1) (fun r36 => ?_)
      refine OW.nil ?_
      refine OJ.go 2 [(119, .bool (r36 == 0)), (118, .bool (r36 == 0))] ?_
      exact OJ.nil ⟨(Cov.mem Cov.nil), rfl, _, rfl, by kernel_rfl⟩
    · refine OJ.go 4 [(119, .bool false), (118, undef), (117, undef), (116, undef)] ?_
      exact OJ.nil ⟨(Cov.mem Cov.nil), rfl, _, rfl, by kernel_rfl⟩
    · refine OJ.go 1 [(120, .bool y37)] ?_
      refine OJ.join (b := y37) [12, 13, 14] [15] [123] (fun y38 => [(123, .bool y38)]) [] [] (t := 120) Iff.rfl (fun hp_ => ?_) (fun hp_ => ?_) (fun _ _ _ _ _ _ h_ => h_) (fun y38 => ?_)
      · refine OJ.go 3 [(123, .bool (r32.2.2 == 0)), (122, .bool (r32.2.2 == 0)), (121, .int .i64 r32.2.2)] ?_
        exact OJ.nil ⟨(Cov.mem Cov.nil), rfl, _, rfl, by kernel_rfl⟩
      · refine OJ.go 3 [(123, .bool false), (122, undef), (121, undef)] ?_
        exact OJ.nil ⟨(Cov.mem Cov.nil), rfl, _, rfl, by kernel_rfl⟩
      · refine OJ.go 1 [(6, .bool y38)] ?_
        refine OJ.nil ?_
        exact SJ.ret rfl (Res.run (ys := [.bool y38]) (.tmp (by kernel_rfl) .nil) rfl)
noncomputable def weirlaw4_AddrBack.K2 (a1 : api_Prefix) (a2 : (Vec Int 6)) : M Bool :=
  addr_PrintPrefix a1 >>= fun r17 =>
  draw >>= fun _ =>
  weirlaw4_num r17.2 >>= fun r18 =>
  addr_ValidPrefix a1 >>= fun r19 =>
  weirlaw4_num r19 >>= fun r20 =>
  (if r18 ≠ r20 then
      pure true
    else
      weirlaw4_num r17.2 >>= fun r21 =>
      (if r21 ≠ 0 then
          pure (!(r17.1.toList == ByteArray.empty.toList))
        else
          pure false) >>= fun y22 =>
      pure y22) >>= fun y23 =>
  if y23 = true then
    pure false
  else
    weirlaw4_num r17.2 >>= fun r24 =>
    if r24 = 0 then
      addr_ParsePrefix r17.1 >>= fun r39 =>
      slot 37 >>= fun b40 =>
      (if ¬ (r39.1 = a1) then
          pure true
        else
          weirlaw4_num r39.2.1 >>= fun r41 =>
          pure (r41 != 0)) >>= fun y42 =>
      (if y42 = true then
          pure true
        else
          pure (r39.2.2 != 0)) >>= fun y43 =>
      if y43 = true then
        pure false
      else
        weirlaw4_AddrBack.K1 a2
    else
      weirlaw4_AddrBack.K1 a2
theorem weirlaw4_AddrBack.K2_ok (a1 : api_Prefix) (a2 : (Vec Int 6)) (b2 : Nat) (b3 : Nat) :
    SJ weirlaw4_AddrBack.cx [.code (c2 (c2 (c2 (c2 weirlaw4_AddrBack.B))))] [(4, .pointer (some (pt b2 0))), (5, .pointer (some (pt b3 0)))] [(b3, ((cI .u8).arr 6).enc a2), (b2, c_api_Prefix.enc a1)] (weirlaw4_AddrBack.K2 a1 a2) weirlaw4_AddrBack.F0 := by
  unfold weirlaw4_AddrBack.K2
  refine SJ.sr 7 ?_
  refine OJ.kld (d := 62) (y := .tmp 4) (cd := c_api_Prefix) (j := 1) (b := b2) (o := 0) a1 (pend2 := []) Ty37 rfl (At.whole _) rfl ?_
  refine OJ.call (d := 63) (g := 17) (ats := #[37]) (args := [.tmp 62]) (owed := []) F17 (addr_PrintPrefix_ok a1) (fun r17 => ?_)
  refine OW.nil ?_
  refine OJ.go 5 [(13, .int .i64 r17.2), (12, .string r17.1), (65, .int .i64 r17.2), (64, .string r17.1), (61, .tuple #[.string r17.1, .int .i64 r17.2])] ?_
  refine OJ.nil ?_
  refine SJ.seq ?_
  refine SJ.seq ?_
  refine SJ.draw (id := 9) (kd := [0, 2, 1, 2, 2, 0, 0, 0, 2, 0, 0, 0, 0, 0, 0]) (bef := [0, 1, 0, 7, 15, 31, 63, 127, 255, 511, 1023, 2047, 4095, 8191, 16383]) (ord := [0, 2, 1, 3, 4, 5, 6, 7, 8, 9, 10, 11, 12, 13, 14]) mixed ?_
  refine OJ.go 1 [(66, .int .i64 r17.2)] ?_
  refine OJ.kld (d := 68) (y := .tmp 4) (cd := c_api_Prefix) (j := 1) (b := b2) (o := 0) a1 (pend2 := [⟨2, 37, (pt b2 0), c_api_Prefix.val a1⟩]) Ty37 rfl (At.whole _) rfl ?_
  refine OJ.call (d := 67) (g := 12) (ats := #[28]) (args := [.tmp 66]) (owed := [⟨2, 37, (pt b2 0), c_api_Prefix.val a1⟩]) F12 (weirlaw4_num_ok r17.2) (fun r18 => ?_)
  refine OW.known (j := 1) (q := a1) Ty37 rfl (At.whole _) ?_
  refine OW.nil ?_
  refine OJ.call (d := 69) (g := 14) (ats := #[37]) (args := [.tmp 68]) (owed := []) F14 (addr_ValidPrefix_ok a1) (fun r19 => ?_)
  refine OW.nil ?_
  refine OJ.call (d := 70) (g := 12) (ats := #[28]) (args := [.tmp 69]) (owed := []) F12 (weirlaw4_num_ok r19) (fun r20 => ?_)
  refine OW.nil ?_
  refine OJ.go 2 [(72, .bool (r18 != r20)), (71, .bool (r18 != r20))] ?_
  refine OJ.join (b := (r18 != r20)) [7, 8, 9, 10, 11, 12, 13, 14] [] [4, 5, 12, 13, 80] (fun y23 => [(4, .pointer (some (pt b2 0))), (5, .pointer (some (pt b3 0))), (12, .string r17.1), (13, .int .i64 r17.2), (80, .bool y23)]) [⟨2, 37, (pt b2 0), c_api_Prefix.val a1⟩] [] (t := 72) bne_iff_ne (fun hp_ => ?_) (fun hp_ => ?_) (fun _ _ _ _ _ _ h_ => h_) (fun y23 => ?_)
  · refine OJ.go 8 [(80, .bool true), (79, undef), (78, undef), (77, undef), (76, undef), (75, undef), (74, undef), (73, undef)] ?_
    exact OJ.nil ⟨(Cov.mem (Cov.keep (List.mem_of_getElem? (i := 0) rfl) Cov.nil)), rfl, _, rfl, by kernel_rfl⟩
  · refine OJ.go 1 [(73, .int .i64 r17.2)] ?_
    refine OJ.call (d := 74) (g := 12) (ats := #[28]) (args := [.tmp 73]) (owed := []) F12 (weirlaw4_num_ok r17.2) (fun r21 => ?_)
    refine OW.nil ?_
    refine OJ.go 2 [(76, .bool (r21 != 0)), (75, .bool (r21 != 0))] ?_
    refine OJ.join (b := (r21 != 0)) [11, 12, 13] [14] [4, 5, 12, 13, 72, 79] (fun y22 => [(4, .pointer (some (pt b2 0))), (5, .pointer (some (pt b3 0))), (12, .string r17.1), (13, .int .i64 r17.2), (72, .bool false), (79, .bool y22)]) [⟨2, 37, (pt b2 0), c_api_Prefix.val a1⟩] [] (t := 76) bne_iff_ne (fun hp_ => ?_) (fun hp_ => ?_) (fun _ _ _ _ _ hq_ h_ => ⟨fun e_ he_ => (hq_ e_ he_).elim (fun h => h_.1 e_ h) (fun h => nomatch h), h_.2⟩) (fun y22 => ?_)
    · refine OJ.go 3 [(79, .bool (!(r17.1.toList == ByteArray.empty.toList))), (78, .bool (!(r17.1.toList == ByteArray.empty.toList))), (77, .string r17.1)] ?_
      exact OJ.nil ⟨(Cov.mem (Cov.keep (List.mem_of_getElem? (i := 0) rfl) Cov.nil)), rfl, _, rfl, by kernel_rfl⟩
    · refine OJ.go 3 [(79, .bool false), (78, undef), (77, undef)] ?_
      exact OJ.nil ⟨(Cov.mem (Cov.keep (List.mem_of_getElem? (i := 0) rfl) Cov.nil)), rfl, _, rfl, by kernel_rfl⟩
    · refine OJ.go 1 [(80, .bool y22)] ?_
      exact OJ.nil ⟨(Cov.mem (Cov.keep (List.mem_of_getElem? (i := 0) rfl) Cov.nil)), rfl, _, rfl, by kernel_rfl⟩
  · refine OJ.nil ?_
    refine SJ.cond (t := (.tmp 80)) (b := y23) Iff.rfl (fun hc46 => ?_) (fun hc46 => ?_)
    · refine SJ.sr 1 ?_
      refine OJ.go 1 [(6, .bool false)] ?_
      refine OJ.nil ?_
      exact SJ.ret rfl (Res.run (ys := [.bool false]) (.tmp (by kernel_rfl) .nil) rfl)
    · refine SJ.skip ?_
      refine SJ.seq ?_
      refine SJ.sr 3 ?_
      refine OJ.go 1 [(81, .int .i64 r17.2)] ?_
      refine OJ.call (d := 82) (g := 12) (ats := #[28]) (args := [.tmp 81]) (owed := []) F12 (weirlaw4_num_ok r17.2) (fun r24 => ?_)
      refine OW.nil ?_
      refine OJ.go 1 [(83, .bool (r24 == 0))] ?_
      refine OJ.nil ?_
      refine SJ.cond (t := (.tmp 83)) (b := (r24 == 0)) beq_iff_eq (fun hc45 => ?_) (fun hc45 => ?_)
      · refine SJ.sr 10 ?_
        refine OJ.go 1 [(85, .string r17.1)] ?_
        refine OJ.call (d := 86) (g := 20) (ats := #[9]) (args := [.tmp 85]) (owed := []) F20 (addr_ParsePrefix_ok r17.1) (fun r39 => ?_)
        refine OW.nil ?_
        refine OJ.go 4 [(89, .int .i64 r39.2.2), (88, .int .i64 r39.2.1), (87, c_api_Prefix.val r39.1), (84, .tuple #[c_api_Prefix.val r39.1, .int .i64 r39.2.1, .int .i64 r39.2.2])] ?_
        refine OJ.slotOf (d := 14) (op := (.alloc 37)) (cd := c_api_Prefix) (u := z_api_Prefix) (owed := []) (alloc_run Ty37) (fun b40 => ?_)
        refine OW.nil ?_
        refine OJ.kst (y := .tmp 14) (z := .tmp 87) (cd := c_api_Prefix) (u := r39.1) (j := 0) (b := b40) (o := 0) (c_api_Prefix.enc r39.1) (owed := []) Ty37 rfl (Upd.whole ((Cod.len _ _).trans (Cod.len _ _).symm)) rfl ?_
        refine OW.nil ?_
        refine OJ.go 2 [(16, .int .i64 r39.2.2), (15, .int .i64 r39.2.1)] ?_
        refine OJ.nil ?_
        refine SJ.sr 12 ?_
        refine OJ.kld (d := 90) (y := .tmp 14) (cd := c_api_Prefix) (j := 0) (b := b40) (o := 0) r39.1 (pend2 := []) Ty37 rfl (At.whole _) rfl ?_
        refine OJ.kld (d := 91) (y := .tmp 4) (cd := c_api_Prefix) (j := 2) (b := b2) (o := 0) a1 (pend2 := []) Ty37 rfl (At.whole _) rfl ?_
        refine OJ.neq (d := 92) (T := 37) (yT := 37) (y := .tmp 90) (z := .tmp 91) (cd := c_api_Prefix) (p := r39.1) (q := a1) rfl Eq37 ?_
        refine OJ.go 1 [(93, .bool (!eqv r39.1 a1))] ?_
        refine OJ.join (b := (!eqv r39.1 a1)) [4, 5, 6, 7] [8, 9, 10, 11] [5, 16, 97] (fun y42 => [(5, .pointer (some (pt b3 0))), (16, .int .i64 r39.2.2), (97, .bool y42)]) [] [] (t := 93) (bnot_iff eqv_iff) (fun hp_ => ?_) (fun hp_ => ?_) (fun _ _ _ _ _ _ h_ => h_) (fun y42 => ?_)
        · refine OJ.go 4 [(97, .bool true), (96, undef), (95, undef), (94, undef)] ?_
          exact OJ.nil ⟨(Cov.mem Cov.nil), rfl, _, rfl, by kernel_rfl⟩
        · refine OJ.go 1 [(94, .int .i64 r39.2.1)] ?_
          refine OJ.call (d := 95) (g := 12) (ats := #[28]) (args := [.tmp 94]) (owed := []) F12 (weirlaw4_num_ok r39.2.1) (fun r41 => ?_)
          refine OW.nil ?_
          refine OJ.go 2 [(97, .bool (r41 != 0)), (96, .bool (r41 != 0))] ?_
          exact OJ.nil ⟨(Cov.mem Cov.nil), rfl, _, rfl, by kernel_rfl⟩
        · refine OJ.go 1 [(98, .bool y42)] ?_
          refine OJ.join (b := y42) [9, 10, 11] [] [5, 101] (fun y43 => [(5, .pointer (some (pt b3 0))), (101, .bool y43)]) [] [] (t := 98) Iff.rfl (fun hp_ => ?_) (fun hp_ => ?_) (fun _ _ _ _ _ _ h_ => h_) (fun y43 => ?_)
          · refine OJ.go 3 [(101, .bool true), (100, undef), (99, undef)] ?_
            exact OJ.nil ⟨(Cov.mem Cov.nil), rfl, _, rfl, by kernel_rfl⟩
          · refine OJ.go 3 [(101, .bool (r39.2.2 != 0)), (100, .bool (r39.2.2 != 0)), (99, .int .i64 r39.2.2)] ?_
            exact OJ.nil ⟨(Cov.mem Cov.nil), rfl, _, rfl, by kernel_rfl⟩
          · refine OJ.nil ?_
            refine SJ.cond (t := (.tmp 101)) (b := y43) Iff.rfl (fun hc44 => ?_) (fun hc44 => ?_)
            · refine SJ.sr 1 ?_
              refine OJ.go 1 [(6, .bool false)] ?_
              refine OJ.nil ?_
              exact SJ.ret rfl (Res.run (ys := [.bool false]) (.tmp (by kernel_rfl) .nil) rfl)
            · refine SJ.skip ?_
              refine SJ.forget (List.Sublist.cons _ (List.Sublist.cons_cons _ (List.Sublist.cons _ List.Sublist.slnil))) ?_
              refine SJ.less [5] (m' := [(5, .pointer (some (pt b3 0)))]) ?_
              exact weirlaw4_AddrBack.K1_ok a2 b3
      · refine SJ.skip ?_
        refine SJ.forget (List.Sublist.cons_cons _ (List.Sublist.cons _ List.Sublist.slnil)) ?_
        refine SJ.less [5] (m' := [(5, .pointer (some (pt b3 0)))]) ?_
        exact weirlaw4_AddrBack.K1_ok a2 b3
noncomputable def weirlaw4_AddrBack (a0 : api_IP) (a1 : api_Prefix) (a2 : (Vec Int 6)) : M Bool :=
  slot 27 >>= fun b1 =>
  slot 37 >>= fun b2 =>
  slot 42 >>= fun b3 =>
  addr_PrintIP a0 >>= fun r4 =>
  draw >>= fun _ =>
  weirlaw4_num r4.2 >>= fun r5 =>
  addr_Valid a0 >>= fun r6 =>
  (if ¬ ((r5 == 0) = r6) then
      pure true
    else
      weirlaw4_num r4.2 >>= fun r7 =>
      (if r7 ≠ 0 then
          pure (!(r4.1.toList == ByteArray.empty.toList))
        else
          pure false) >>= fun y8 =>
      pure y8) >>= fun y9 =>
  if y9 = true then
    pure false
  else
    weirlaw4_num r4.2 >>= fun r10 =>
    if r10 = 0 then
      addr_ParseIP r4.1 >>= fun r47 =>
      slot 27 >>= fun b48 =>
      (if ¬ (r47.1 = a0) then
          pure true
        else
          weirlaw4_num r47.2.1 >>= fun r49 =>
          pure (r49 != 0)) >>= fun y50 =>
      (if y50 = true then
          pure true
        else
          pure (r47.2.2 != 0)) >>= fun y51 =>
      if y51 = true then
        pure false
      else
        weirlaw4_AddrBack.K2 a1 a2
    else
      weirlaw4_AddrBack.K2 a1 a2
theorem weirlaw4_AddrBack_ok (a0 : api_IP) (a1 : api_Prefix) (a2 : (Vec Int 6)) : Ref Tryd.prog 6 [c_api_IP.val a0, c_api_Prefix.val a1, ((cI .u8).arr 6).val a2] (weirlaw4_AddrBack a0 a1 a2) weirlaw4_AddrBack.out := by
  refine Ref.of (cd := weirlaw4_AddrBack.B) Tryd.func6 ?_
  show SJ weirlaw4_AddrBack.cx [.code weirlaw4_AddrBack.B] [(0, c_api_IP.val a0), (1, c_api_Prefix.val a1), (2, ((cI .u8).arr 6).val a2)] [] (weirlaw4_AddrBack a0 a1 a2) weirlaw4_AddrBack.F0
  unfold weirlaw4_AddrBack
  refine SJ.sr 4 ?_
  refine OJ.slotOf (d := 3) (op := (.box 27 (.tmp 0))) (cd := c_api_IP) (u := a0) (owed := []) (box_run (by kernel_rfl)) (fun b1 => ?_)
  refine OW.nil ?_
  refine OJ.slotOf (d := 4) (op := (.box 37 (.tmp 1))) (cd := c_api_Prefix) (u := a1) (owed := []) (box_run (by kernel_rfl)) (fun b2 => ?_)
  refine OW.nil ?_
  refine OJ.slotOf (d := 5) (op := (.box 42 (.tmp 2))) (cd := ((cI .u8).arr 6)) (u := a2) (owed := []) (box_run (by kernel_rfl)) (fun b3 => ?_)
  refine OW.nil ?_
  refine OJ.go 1 [(6, .bool false)] ?_
  refine OJ.nil ?_
  refine SJ.sr 7 ?_
  refine OJ.kld (d := 21) (y := .tmp 3) (cd := c_api_IP) (j := 2) (b := b1) (o := 0) a0 (pend2 := []) Ty27 rfl (At.whole _) rfl ?_
  refine OJ.call (d := 22) (g := 16) (ats := #[27]) (args := [.tmp 21]) (owed := []) F16 (addr_PrintIP_ok a0) (fun r4 => ?_)
  refine OW.nil ?_
  refine OJ.go 5 [(8, .int .i64 r4.2), (7, .string r4.1), (24, .int .i64 r4.2), (23, .string r4.1), (20, .tuple #[.string r4.1, .int .i64 r4.2])] ?_
  refine OJ.nil ?_
  refine SJ.seq ?_
  refine SJ.seq ?_
  refine SJ.draw (id := 2) (kd := [0, 2, 0, 1, 2, 0, 0, 0, 2, 0, 0, 0, 0, 0, 0]) (bef := [0, 1, 3, 0, 11, 31, 63, 127, 255, 511, 1023, 2047, 4095, 8191, 16383]) (ord := [0, 3, 1, 2, 4, 5, 6, 7, 8, 9, 10, 11, 12, 13, 14]) mixed ?_
  refine OJ.go 1 [(25, .int .i64 r4.2)] ?_
  refine OJ.kld (d := 28) (y := .tmp 3) (cd := c_api_IP) (j := 2) (b := b1) (o := 0) a0 (pend2 := [⟨3, 27, (pt b1 0), c_api_IP.val a0⟩]) Ty27 rfl (At.whole _) rfl ?_
  refine OJ.call (d := 26) (g := 12) (ats := #[28]) (args := [.tmp 25]) (owed := [⟨3, 27, (pt b1 0), c_api_IP.val a0⟩]) F12 (weirlaw4_num_ok r4.2) (fun r5 => ?_)
  refine OW.known (j := 2) (q := a0) Ty27 rfl (At.whole _) ?_
  refine OW.nil ?_
  refine OJ.go 1 [(27, .bool (r5 == 0))] ?_
  refine OJ.call (d := 29) (g := 19) (ats := #[27]) (args := [.tmp 28]) (owed := []) F19 (addr_Valid_ok a0) (fun r6 => ?_)
  refine OW.nil ?_
  refine OJ.go 2 [(31, .bool (!((r5 == 0) == r6))), (30, .bool (!((r5 == 0) == r6)))] ?_
  refine OJ.join (b := (!((r5 == 0) == r6))) [7, 8, 9, 10, 11, 12, 13, 14] [] [3, 4, 5, 7, 8, 39] (fun y9 => [(3, .pointer (some (pt b1 0))), (4, .pointer (some (pt b2 0))), (5, .pointer (some (pt b3 0))), (7, .string r4.1), (8, .int .i64 r4.2), (39, .bool y9)]) [⟨3, 27, (pt b1 0), c_api_IP.val a0⟩] [] (t := 31) (bnot_iff beq_iff_eq) (fun hp_ => ?_) (fun hp_ => ?_) (fun _ _ _ _ _ _ h_ => h_) (fun y9 => ?_)
  · refine OJ.go 8 [(39, .bool true), (38, undef), (37, undef), (36, undef), (35, undef), (34, undef), (33, undef), (32, undef)] ?_
    exact OJ.nil ⟨(Cov.mem (Cov.keep (List.mem_of_getElem? (i := 0) rfl) Cov.nil)), rfl, _, rfl, by kernel_rfl⟩
  · refine OJ.go 1 [(32, .int .i64 r4.2)] ?_
    refine OJ.call (d := 33) (g := 12) (ats := #[28]) (args := [.tmp 32]) (owed := []) F12 (weirlaw4_num_ok r4.2) (fun r7 => ?_)
    refine OW.nil ?_
    refine OJ.go 2 [(35, .bool (r7 != 0)), (34, .bool (r7 != 0))] ?_
    refine OJ.join (b := (r7 != 0)) [11, 12, 13] [14] [3, 4, 5, 7, 8, 31, 38] (fun y8 => [(3, .pointer (some (pt b1 0))), (4, .pointer (some (pt b2 0))), (5, .pointer (some (pt b3 0))), (7, .string r4.1), (8, .int .i64 r4.2), (31, .bool false), (38, .bool y8)]) [⟨3, 27, (pt b1 0), c_api_IP.val a0⟩] [] (t := 35) bne_iff_ne (fun hp_ => ?_) (fun hp_ => ?_) (fun _ _ _ _ _ hq_ h_ => ⟨fun e_ he_ => (hq_ e_ he_).elim (fun h => h_.1 e_ h) (fun h => nomatch h), h_.2⟩) (fun y8 => ?_)
    · refine OJ.go 3 [(38, .bool (!(r4.1.toList == ByteArray.empty.toList))), (37, .bool (!(r4.1.toList == ByteArray.empty.toList))), (36, .string r4.1)] ?_
      exact OJ.nil ⟨(Cov.mem (Cov.keep (List.mem_of_getElem? (i := 0) rfl) Cov.nil)), rfl, _, rfl, by kernel_rfl⟩
    · refine OJ.go 3 [(38, .bool false), (37, undef), (36, undef)] ?_
      exact OJ.nil ⟨(Cov.mem (Cov.keep (List.mem_of_getElem? (i := 0) rfl) Cov.nil)), rfl, _, rfl, by kernel_rfl⟩
    · refine OJ.go 1 [(39, .bool y8)] ?_
      exact OJ.nil ⟨(Cov.mem (Cov.keep (List.mem_of_getElem? (i := 0) rfl) Cov.nil)), rfl, _, rfl, by kernel_rfl⟩
  · refine OJ.nil ?_
    refine SJ.cond (t := (.tmp 39)) (b := y9) Iff.rfl (fun hc54 => ?_) (fun hc54 => ?_)
    · refine SJ.sr 1 ?_
      refine OJ.go 1 [(6, .bool false)] ?_
      refine OJ.nil ?_
      exact SJ.ret rfl (Res.run (ys := [.bool false]) (.tmp (by kernel_rfl) .nil) rfl)
    · refine SJ.skip ?_
      refine SJ.seq ?_
      refine SJ.sr 3 ?_
      refine OJ.go 1 [(40, .int .i64 r4.2)] ?_
      refine OJ.call (d := 41) (g := 12) (ats := #[28]) (args := [.tmp 40]) (owed := []) F12 (weirlaw4_num_ok r4.2) (fun r10 => ?_)
      refine OW.nil ?_
      refine OJ.go 1 [(42, .bool (r10 == 0))] ?_
      refine OJ.nil ?_
      refine SJ.cond (t := (.tmp 42)) (b := (r10 == 0)) beq_iff_eq (fun hc53 => ?_) (fun hc53 => ?_)
      · refine SJ.sr 10 ?_
        refine OJ.go 1 [(44, .string r4.1)] ?_
        refine OJ.call (d := 45) (g := 10) (ats := #[9]) (args := [.tmp 44]) (owed := []) F10 (addr_ParseIP_ok r4.1) (fun r47 => ?_)
        refine OW.nil ?_
        refine OJ.go 4 [(48, .int .i64 r47.2.2), (47, .int .i64 r47.2.1), (46, c_api_IP.val r47.1), (43, .tuple #[c_api_IP.val r47.1, .int .i64 r47.2.1, .int .i64 r47.2.2])] ?_
        refine OJ.slotOf (d := 9) (op := (.alloc 27)) (cd := c_api_IP) (u := z_api_IP) (owed := []) (alloc_run Ty27) (fun b48 => ?_)
        refine OW.nil ?_
        refine OJ.kst (y := .tmp 9) (z := .tmp 46) (cd := c_api_IP) (u := r47.1) (j := 0) (b := b48) (o := 0) (c_api_IP.enc r47.1) (owed := []) Ty27 rfl (Upd.whole ((Cod.len _ _).trans (Cod.len _ _).symm)) rfl ?_
        refine OW.nil ?_
        refine OJ.go 2 [(11, .int .i64 r47.2.2), (10, .int .i64 r47.2.1)] ?_
        refine OJ.nil ?_
        refine SJ.sr 12 ?_
        refine OJ.kld (d := 49) (y := .tmp 9) (cd := c_api_IP) (j := 0) (b := b48) (o := 0) r47.1 (pend2 := []) Ty27 rfl (At.whole _) rfl ?_
        refine OJ.kld (d := 50) (y := .tmp 3) (cd := c_api_IP) (j := 3) (b := b1) (o := 0) a0 (pend2 := []) Ty27 rfl (At.whole _) rfl ?_
        refine OJ.neq (d := 51) (T := 27) (yT := 27) (y := .tmp 49) (z := .tmp 50) (cd := c_api_IP) (p := r47.1) (q := a0) rfl Eq27 ?_
        refine OJ.go 1 [(52, .bool (!eqv r47.1 a0))] ?_
        refine OJ.join (b := (!eqv r47.1 a0)) [4, 5, 6, 7] [8, 9, 10, 11] [4, 5, 11, 56] (fun y50 => [(4, .pointer (some (pt b2 0))), (5, .pointer (some (pt b3 0))), (11, .int .i64 r47.2.2), (56, .bool y50)]) [] [] (t := 52) (bnot_iff eqv_iff) (fun hp_ => ?_) (fun hp_ => ?_) (fun _ _ _ _ _ _ h_ => h_) (fun y50 => ?_)
        · refine OJ.go 4 [(56, .bool true), (55, undef), (54, undef), (53, undef)] ?_
          exact OJ.nil ⟨(Cov.mem Cov.nil), rfl, _, rfl, by kernel_rfl⟩
        · refine OJ.go 1 [(53, .int .i64 r47.2.1)] ?_
          refine OJ.call (d := 54) (g := 12) (ats := #[28]) (args := [.tmp 53]) (owed := []) F12 (weirlaw4_num_ok r47.2.1) (fun r49 => ?_)
          refine OW.nil ?_
          refine OJ.go 2 [(56, .bool (r49 != 0)), (55, .bool (r49 != 0))] ?_
          exact OJ.nil ⟨(Cov.mem Cov.nil), rfl, _, rfl, by kernel_rfl⟩
        · refine OJ.go 1 [(57, .bool y50)] ?_
          refine OJ.join (b := y50) [9, 10, 11] [] [4, 5, 60] (fun y51 => [(4, .pointer (some (pt b2 0))), (5, .pointer (some (pt b3 0))), (60, .bool y51)]) [] [] (t := 57) Iff.rfl (fun hp_ => ?_) (fun hp_ => ?_) (fun _ _ _ _ _ _ h_ => h_) (fun y51 => ?_)
          · refine OJ.go 3 [(60, .bool true), (59, undef), (58, undef)] ?_
            exact OJ.nil ⟨(Cov.mem Cov.nil), rfl, _, rfl, by kernel_rfl⟩
          · refine OJ.go 3 [(60, .bool (r47.2.2 != 0)), (59, .bool (r47.2.2 != 0)), (58, .int .i64 r47.2.2)] ?_
            exact OJ.nil ⟨(Cov.mem Cov.nil), rfl, _, rfl, by kernel_rfl⟩
          · refine OJ.nil ?_
            refine SJ.cond (t := (.tmp 60)) (b := y51) Iff.rfl (fun hc52 => ?_) (fun hc52 => ?_)
            · refine SJ.sr 1 ?_
              refine OJ.go 1 [(6, .bool false)] ?_
              refine OJ.nil ?_
              exact SJ.ret rfl (Res.run (ys := [.bool false]) (.tmp (by kernel_rfl) .nil) rfl)
            · refine SJ.skip ?_
              refine SJ.forget (List.Sublist.cons _ (List.Sublist.cons_cons _ (List.Sublist.cons_cons _ (List.Sublist.cons _ List.Sublist.slnil)))) ?_
              refine SJ.less [4, 5] (m' := [(4, .pointer (some (pt b2 0))), (5, .pointer (some (pt b3 0)))]) ?_
              exact weirlaw4_AddrBack.K2_ok a1 a2 b2 b3
      · refine SJ.skip ?_
        refine SJ.forget (List.Sublist.cons_cons _ (List.Sublist.cons_cons _ (List.Sublist.cons _ List.Sublist.slnil))) ?_
        refine SJ.less [4, 5] (m' := [(4, .pointer (some (pt b2 0))), (5, .pointer (some (pt b3 0)))]) ?_
        exact weirlaw4_AddrBack.K2_ok a1 a2 b2 b3
end Go.Proofs.YtddmmgcfanpmmaaDoor.Lx
