/- Programs of the M-world for Go functions, each with the proof that the Go text does what it says. Printed by lxgen.py. -/
import Derived.Test.YtddmmgcfanpmmaaDoorLxT
import Derived.Test.YtddmmgcfanpmmaaDoorLxP0
import Derived.Test.YtddmmgcfanpmmaaDoorLxP1
import Derived.Test.YtddmmgcfanpmmaaDoorLxP2
set_option linter.unusedVariables false
set_option linter.unusedSimpArgs false
namespace Go.Proofs.YtddmmgcfanpmmaaDoor.Lx
open Go Go.Proofs
/-! ### weir/weirlaw4.started: function 11 -/
noncomputable def weirlaw4_started.B : Code := (Tryd.f11.body).getD .skip
noncomputable def weirlaw4_started.cx : Fx := ⟨Tryd.prog, 11, Tryd.f11⟩
noncomputable def weirlaw4_started.out (r_ : Bool) : Value := .bool r_
noncomputable def weirlaw4_started.F0 (r_ : Bool) : Reach := .ret (weirlaw4_started.out r_)
noncomputable def weirlaw4_started  : M Bool :=
  addr_ParseIP str12 >>= fun r1 =>
  slot 27 >>= fun b2 =>
  weirlaw4_loop >>= fun r3 =>
  addr_PrintIP r3 >>= fun r4 =>
  weirlaw4_loop >>= fun r5 =>
  addr_Class r5 >>= fun r6 =>
  draw >>= fun _ =>
  weirlaw4_loop >>= fun r7 =>
  (if r1.1 = r7 then
      weirlaw4_num r1.2.1 >>= fun r8 =>
      pure (r8 == 0)
    else
      pure false) >>= fun y9 =>
  (if y9 = true then
      pure (r1.2.2 == 0)
    else
      pure false) >>= fun y10 =>
  (if y10 = true then
      pure (r4.1.toList == str12.toList)
    else
      pure false) >>= fun y11 =>
  (if y11 = true then
      weirlaw4_num r4.2 >>= fun r12 =>
      pure (r12 == 0)
    else
      pure false) >>= fun y13 =>
  (if y13 = true then
      pure (r6 == 2)
    else
      pure false) >>= fun y14 =>
  pure y14
theorem weirlaw4_started_ok  : Ref Tryd.prog 11 [] (weirlaw4_started) weirlaw4_started.out := by
  refine Ref.of (cd := weirlaw4_started.B) Tryd.func11 ?_
  show SJ weirlaw4_started.cx [.code weirlaw4_started.B] [] [] (weirlaw4_started) weirlaw4_started.F0
  unfold weirlaw4_started
  refine SJ.sr 1 ?_
  refine OJ.go 1 [(0, .bool false)] ?_
  refine OJ.nil ?_
  refine SJ.sr 9 ?_
  refine OJ.call (d := 8) (g := 10) (ats := #[9]) (args := [.const (.string str12)]) (owed := []) F10 (addr_ParseIP_ok str12) (fun r1 => ?_)
  refine OW.nil ?_
  refine OJ.go 4 [(11, .int .i64 r1.2.2), (10, .int .i64 r1.2.1), (9, c_api_IP.val r1.1), (7, .tuple #[c_api_IP.val r1.1, .int .i64 r1.2.1, .int .i64 r1.2.2])] ?_
  refine OJ.slotOf (d := 1) (op := (.alloc 27)) (cd := c_api_IP) (u := z_api_IP) (owed := []) (alloc_run Ty27) (fun b2 => ?_)
  refine OW.nil ?_
  refine OJ.kst (y := .tmp 1) (z := .tmp 9) (cd := c_api_IP) (u := r1.1) (j := 0) (b := b2) (o := 0) (c_api_IP.enc r1.1) (owed := []) Ty27 rfl (Upd.whole ((Cod.len _ _).trans (Cod.len _ _).symm)) rfl ?_
  refine OW.nil ?_
  refine OJ.go 2 [(3, .int .i64 r1.2.2), (2, .int .i64 r1.2.1)] ?_
  refine OJ.nil ?_
  refine SJ.sr 7 ?_
  refine OJ.call (d := 13) (g := 24) (ats := #[]) (args := []) (owed := []) F24 (weirlaw4_loop_ok ) (fun r3 => ?_)
  refine OW.nil ?_
  refine OJ.call (d := 14) (g := 16) (ats := #[27]) (args := [.tmp 13]) (owed := []) F16 (addr_PrintIP_ok r3) (fun r4 => ?_)
  refine OW.nil ?_
  refine OJ.go 5 [(5, .int .i64 r4.2), (4, .string r4.1), (16, .int .i64 r4.2), (15, .string r4.1), (12, .tuple #[.string r4.1, .int .i64 r4.2])] ?_
  refine OJ.nil ?_
  refine SJ.sr 3 ?_
  refine OJ.call (d := 17) (g := 24) (ats := #[]) (args := []) (owed := []) F24 (weirlaw4_loop_ok ) (fun r5 => ?_)
  refine OW.nil ?_
  refine OJ.call (d := 18) (g := 25) (ats := #[27]) (args := [.tmp 17]) (owed := []) F25 (addr_Class_ok r5) (fun r6 => ?_)
  refine OW.nil ?_
  refine OJ.go 1 [(6, .int .i64 r6)] ?_
  refine OJ.nil ?_
  refine SJ.seq ?_
  refine SJ.draw (id := 4) (kd := [1, 2, 0, 0, 0, 2, 0, 0, 0, 0, 0, 0, 0, 0, 0, 0, 0, 0, 2, 0, 0, 0, 0, 0, 0, 0]) (bef := [0, 0, 3, 7, 15, 31, 63, 127, 255, 511, 1023, 2047, 4095, 8191, 16383, 32767, 65535, 131071, 262143, 524287, 1048575, 2097151, 4194303, 8388607, 16777215, 33554431]) (ord := [0, 1, 2, 3, 4, 5, 6, 7, 8, 9, 10, 11, 12, 13, 14, 15, 16, 17, 18, 19, 20, 21, 22, 23, 24, 25]) mixed ?_
  refine OJ.kld (d := 19) (y := .tmp 1) (cd := c_api_IP) (j := 0) (b := b2) (o := 0) r1.1 (pend2 := [⟨0, 27, (pt b2 0), c_api_IP.val r1.1⟩]) Ty27 rfl (At.whole _) rfl ?_
  refine OJ.call (d := 20) (g := 24) (ats := #[]) (args := []) (owed := [⟨0, 27, (pt b2 0), c_api_IP.val r1.1⟩]) F24 (weirlaw4_loop_ok ) (fun r7 => ?_)
  refine OW.known (j := 0) (q := r1.1) Ty27 rfl (At.whole _) ?_
  refine OW.nil ?_
  refine OJ.eql (d := 21) (T := 27) (yT := 27) (y := .tmp 19) (z := .tmp 20) (cd := c_api_IP) (p := r1.1) (q := r7) rfl Eq27 ?_
  refine OJ.go 1 [(22, .bool (eqv r1.1 r7))] ?_
  refine OJ.join (b := (eqv r1.1 r7)) [4, 5, 6, 7] [8, 9, 10, 11, 12, 13, 14, 15, 16, 17, 18, 19, 20, 21, 22, 23, 24, 25] [3, 4, 5, 6, 26] (fun y9 => [(3, .int .i64 r1.2.2), (4, .string r4.1), (5, .int .i64 r4.2), (6, .int .i64 r6), (26, .bool y9)]) [⟨0, 27, (pt b2 0), c_api_IP.val r1.1⟩] [] (t := 22) eqv_iff (fun hp_ => ?_) (fun hp_ => ?_) (fun _ _ _ _ _ _ h_ => h_) (fun y9 => ?_)
  · refine OJ.go 1 [(23, .int .i64 r1.2.1)] ?_
    refine OJ.call (d := 24) (g := 12) (ats := #[28]) (args := [.tmp 23]) (owed := []) F12 (weirlaw4_num_ok r1.2.1) (fun r8 => ?_)
    refine OW.nil ?_
    refine OJ.go 2 [(26, .bool (r8 == 0)), (25, .bool (r8 == 0))] ?_
    exact OJ.nil ⟨(Cov.mem (Cov.keep (List.mem_of_getElem? (i := 0) rfl) Cov.nil)), rfl, _, rfl, by kernel_rfl⟩
  · refine OJ.go 4 [(26, .bool false), (25, undef), (24, undef), (23, undef)] ?_
    exact OJ.nil ⟨(Cov.mem (Cov.keep (List.mem_of_getElem? (i := 0) rfl) Cov.nil)), rfl, _, rfl, by kernel_rfl⟩
  · refine OJ.go 1 [(27, .bool y9)] ?_
    refine OJ.join (b := y9) [9, 10, 11] [12, 13, 14, 15, 16, 17, 18, 19, 20, 21, 22, 23, 24, 25] [4, 5, 6, 30] (fun y10 => [(4, .string r4.1), (5, .int .i64 r4.2), (6, .int .i64 r6), (30, .bool y10)]) [⟨0, 27, (pt b2 0), c_api_IP.val r1.1⟩] [] (t := 27) Iff.rfl (fun hp_ => ?_) (fun hp_ => ?_) (fun _ _ _ _ _ _ h_ => h_) (fun y10 => ?_)
    · refine OJ.go 3 [(30, .bool (r1.2.2 == 0)), (29, .bool (r1.2.2 == 0)), (28, .int .i64 r1.2.2)] ?_
      exact OJ.nil ⟨(Cov.mem (Cov.keep (List.mem_of_getElem? (i := 0) rfl) Cov.nil)), rfl, _, rfl, by kernel_rfl⟩
    · refine OJ.go 3 [(30, .bool false), (29, undef), (28, undef)] ?_
      exact OJ.nil ⟨(Cov.mem (Cov.keep (List.mem_of_getElem? (i := 0) rfl) Cov.nil)), rfl, _, rfl, by kernel_rfl⟩
    · refine OJ.go 1 [(31, .bool y10)] ?_
      refine OJ.join (b := y10) [13, 14, 15] [16, 17, 18, 19, 20, 21, 22, 23, 24, 25] [5, 6, 34] (fun y11 => [(5, .int .i64 r4.2), (6, .int .i64 r6), (34, .bool y11)]) [⟨0, 27, (pt b2 0), c_api_IP.val r1.1⟩] [] (t := 31) Iff.rfl (fun hp_ => ?_) (fun hp_ => ?_) (fun _ _ _ _ _ _ h_ => h_) (fun y11 => ?_)
      · refine OJ.go 3 [(34, .bool (r4.1.toList == str12.toList)), (33, .bool (r4.1.toList == str12.toList)), (32, .string r4.1)] ?_
        exact OJ.nil ⟨(Cov.mem (Cov.keep (List.mem_of_getElem? (i := 0) rfl) Cov.nil)), rfl, _, rfl, by kernel_rfl⟩
      · refine OJ.go 3 [(34, .bool false), (33, undef), (32, undef)] ?_
        exact OJ.nil ⟨(Cov.mem (Cov.keep (List.mem_of_getElem? (i := 0) rfl) Cov.nil)), rfl, _, rfl, by kernel_rfl⟩
      · refine OJ.go 1 [(35, .bool y11)] ?_
        refine OJ.join (b := y11) [17, 18, 19, 20] [21, 22, 23, 24, 25] [6, 39] (fun y13 => [(6, .int .i64 r6), (39, .bool y13)]) [⟨0, 27, (pt b2 0), c_api_IP.val r1.1⟩] [] (t := 35) Iff.rfl (fun hp_ => ?_) (fun hp_ => ?_) (fun _ _ _ _ _ _ h_ => h_) (fun y13 => ?_)
        · refine OJ.go 1 [(36, .int .i64 r4.2)] ?_
          refine OJ.call (d := 37) (g := 12) (ats := #[28]) (args := [.tmp 36]) (owed := []) F12 (weirlaw4_num_ok r4.2) (fun r12 => ?_)
          refine OW.nil ?_
          refine OJ.go 2 [(39, .bool (r12 == 0)), (38, .bool (r12 == 0))] ?_
          exact OJ.nil ⟨(Cov.mem (Cov.keep (List.mem_of_getElem? (i := 0) rfl) Cov.nil)), rfl, _, rfl, by kernel_rfl⟩
        · refine OJ.go 4 [(39, .bool false), (38, undef), (37, undef), (36, undef)] ?_
          exact OJ.nil ⟨(Cov.mem (Cov.keep (List.mem_of_getElem? (i := 0) rfl) Cov.nil)), rfl, _, rfl, by kernel_rfl⟩
        · refine OJ.go 1 [(40, .bool y13)] ?_
          refine OJ.join (b := y13) [22, 23, 24] [25] [43] (fun y14 => [(43, .bool y14)]) [⟨0, 27, (pt b2 0), c_api_IP.val r1.1⟩] [] (t := 40) Iff.rfl (fun hp_ => ?_) (fun hp_ => ?_) (fun _ _ _ _ _ _ h_ => h_) (fun y14 => ?_)
          · refine OJ.go 3 [(43, .bool (r6 == 2)), (42, .bool (r6 == 2)), (41, .int .i64 r6)] ?_
            exact OJ.nil ⟨(Cov.mem (Cov.keep (List.mem_of_getElem? (i := 0) rfl) Cov.nil)), rfl, _, rfl, by kernel_rfl⟩
          · refine OJ.go 3 [(43, .bool false), (42, undef), (41, undef)] ?_
            exact OJ.nil ⟨(Cov.mem (Cov.keep (List.mem_of_getElem? (i := 0) rfl) Cov.nil)), rfl, _, rfl, by kernel_rfl⟩
          · refine OJ.go 1 [(0, .bool y14)] ?_
            refine OJ.nil ?_
            exact SJ.ret rfl (Res.run (ys := [.bool y14]) (.tmp (by kernel_rfl) .nil) rfl)

/-! ### weir/weirlaw4.AddrAgain: function 7 -/
noncomputable def weirlaw4_AddrAgain.B : Code := (Tryd.f7.body).getD .skip
noncomputable def weirlaw4_AddrAgain.cx : Fx := ⟨Tryd.prog, 7, Tryd.f7⟩
noncomputable def weirlaw4_AddrAgain.out (r_ : Bool) : Value := .bool r_
noncomputable def weirlaw4_AddrAgain.F0 (r_ : Bool) : Reach := .ret (weirlaw4_AddrAgain.out r_)
noncomputable def weirlaw4_AddrAgain.K1 (a0 : ByteArray) : M Bool :=
  addr_ParseMac a0 >>= fun r35 =>
  slot 42 >>= fun b36 =>
  addr_PrintMac r35.1 >>= fun r37 =>
  addr_ParseMac r37 >>= fun r38 =>
  slot 42 >>= fun b39 =>
  weirlaw4_started >>= fun r40 =>
  (if r40 = true then
      weirlaw4_num r35.2.1 >>= fun r41 =>
      (if r41 = 0 then
          pure true
        else
          pure (eqv r35.1 (⟨[0, 0, 0, 0, 0, 0], rfl⟩ : (Vec Int 6)))) >>= fun y42 =>
      pure y42
    else
      pure false) >>= fun y43 =>
  (if y43 = true then
      weirlaw4_num r38.2.1 >>= fun r44 =>
      pure (r44 == 0)
    else
      pure false) >>= fun y45 =>
  (if y45 = true then
      pure (eqv r38.1 r35.1)
    else
      pure false) >>= fun y46 =>
  pure y46
theorem weirlaw4_AddrAgain.K1_ok (a0 : ByteArray) :
    SJ weirlaw4_AddrAgain.cx [.code (c2 (c2 (c2 (c2 (c2 weirlaw4_AddrAgain.B)))))] [(0, .string a0)] [] (weirlaw4_AddrAgain.K1 a0) weirlaw4_AddrAgain.F0 := by
  unfold weirlaw4_AddrAgain.K1
  refine SJ.sr 10 ?_
  refine OJ.go 1 [(130, .string a0)] ?_
  refine OJ.call (d := 131) (g := 21) (ats := #[9]) (args := [.tmp 130]) (owed := []) F21 (addr_ParseMac_ok a0) (fun r35 => ?_)
  refine OW.nil ?_
  refine OJ.go 4 [(134, .int .i64 r35.2.2), (133, .int .i64 r35.2.1), (132, ((cI .u8).arr 6).val r35.1), (129, .tuple #[((cI .u8).arr 6).val r35.1, .int .i64 r35.2.1, .int .i64 r35.2.2])] ?_
  refine OJ.slotOf (d := 17) (op := (.alloc 42)) (cd := ((cI .u8).arr 6)) (u := (Vec.rep 6 0)) (owed := []) (alloc_run Ty42) (fun b36 => ?_)
  refine OW.nil ?_
  refine OJ.kst (y := .tmp 17) (z := .tmp 132) (cd := ((cI .u8).arr 6)) (u := r35.1) (j := 0) (b := b36) (o := 0) (((cI .u8).arr 6).enc r35.1) (owed := []) Ty42 rfl (Upd.whole ((Cod.len _ _).trans (Cod.len _ _).symm)) rfl ?_
  refine OW.nil ?_
  refine OJ.go 2 [(18, .int .i64 r35.2.2), (4, .int .i64 r35.2.1)] ?_
  refine OJ.nil ?_
  refine SJ.sr 11 ?_
  refine OJ.kld (d := 136) (y := .tmp 17) (cd := ((cI .u8).arr 6)) (j := 0) (b := b36) (o := 0) r35.1 (pend2 := []) Ty42 rfl (At.whole _) rfl ?_
  refine OJ.call (d := 137) (g := 18) (ats := #[42]) (args := [.tmp 136]) (owed := []) F18 (addr_PrintMac_ok r35.1) (fun r37 => ?_)
  refine OW.nil ?_
  refine OJ.call (d := 138) (g := 21) (ats := #[9]) (args := [.tmp 137]) (owed := []) F21 (addr_ParseMac_ok r37) (fun r38 => ?_)
  refine OW.nil ?_
  refine OJ.go 4 [(141, .int .i64 r38.2.2), (140, .int .i64 r38.2.1), (139, ((cI .u8).arr 6).val r38.1), (135, .tuple #[((cI .u8).arr 6).val r38.1, .int .i64 r38.2.1, .int .i64 r38.2.2])] ?_
  refine OJ.slotOf (d := 19) (op := (.alloc 42)) (cd := ((cI .u8).arr 6)) (u := (Vec.rep 6 0)) (owed := []) (alloc_run Ty42) (fun b39 => ?_)
  refine OW.nil ?_
  refine OJ.kst (y := .tmp 19) (z := .tmp 139) (cd := ((cI .u8).arr 6)) (u := r38.1) (j := 0) (b := b39) (o := 0) (((cI .u8).arr 6).enc r38.1) (owed := []) Ty42 rfl (Upd.whole ((Cod.len _ _).trans (Cod.len _ _).symm)) rfl ?_
  refine OW.nil ?_
  refine OJ.go 2 [(21, .int .i64 r38.2.2), (20, .int .i64 r38.2.1)] ?_
  refine OJ.nil ?_
  refine SJ.sr 22 ?_
  refine OJ.call (d := 142) (g := 11) (ats := #[]) (args := []) (owed := []) F11 (weirlaw4_started_ok ) (fun r40 => ?_)
  refine OW.nil ?_
  refine OJ.go 1 [(143, .bool r40)] ?_
  refine OJ.join (b := r40) [2, 3, 4, 5, 6, 7, 8, 9, 10] [11, 12, 13, 14, 15, 16, 17, 18, 19, 20, 21] [17, 19, 20, 152] (fun y43 => [(17, .pointer (some (pt b36 0))), (19, .pointer (some (pt b39 0))), (20, .int .i64 r38.2.1), (152, .bool y43)]) [] [] (t := 143) Iff.rfl (fun hp_ => ?_) (fun hp_ => ?_) (fun _ _ _ _ _ _ h_ => h_) (fun y43 => ?_)
  · refine OJ.go 1 [(144, .int .i64 r35.2.1)] ?_
    refine OJ.call (d := 145) (g := 12) (ats := #[28]) (args := [.tmp 144]) (owed := []) F12 (weirlaw4_num_ok r35.2.1) (fun r41 => ?_)
    refine OW.nil ?_
    refine OJ.go 2 [(147, .bool (r41 == 0)), (146, .bool (r41 == 0))] ?_
    refine OJ.join (b := (r41 == 0)) [6, 7, 8, 9] [10] [17, 19, 20, 143, 151] (fun y42 => [(17, .pointer (some (pt b36 0))), (19, .pointer (some (pt b39 0))), (20, .int .i64 r38.2.1), (143, .bool true), (151, .bool y42)]) [] [] (t := 147) beq_iff_eq (fun hp_ => ?_) (fun hp_ => ?_) (fun _ _ _ _ _ hq_ h_ => ⟨fun e_ he_ => (hq_ e_ he_).elim (fun h => h_.1 e_ h) (fun h => nomatch h), h_.2⟩) (fun y42 => ?_)
    · refine OJ.go 4 [(151, .bool true), (150, undef), (149, undef), (148, undef)] ?_
      exact OJ.nil ⟨(Cov.mem Cov.nil), rfl, _, rfl, by kernel_rfl⟩
    · refine OJ.kld (d := 148) (y := .tmp 17) (cd := ((cI .u8).arr 6)) (j := 1) (b := b36) (o := 0) r35.1 (pend2 := []) Ty42 rfl (At.whole _) rfl ?_
      refine OJ.build (d := 149) (T := 42) (parts := []) (ps := []) (cd := ((cI .u8).arr 6)) (z0 := (Vec.rep 6 0)) (⟨[0, 0, 0, 0, 0, 0], rfl⟩ : (Vec Int 6)) Ty42 rfl Filled.nil ?_
      refine OJ.eql (d := 150) (T := 42) (yT := 42) (y := .tmp 148) (z := .tmp 149) (cd := ((cI .u8).arr 6)) (p := r35.1) (q := (⟨[0, 0, 0, 0, 0, 0], rfl⟩ : (Vec Int 6))) rfl Eq42 ?_
      refine OJ.go 1 [(151, .bool (eqv r35.1 (⟨[0, 0, 0, 0, 0, 0], rfl⟩ : (Vec Int 6))))] ?_
      exact OJ.nil ⟨(Cov.mem Cov.nil), rfl, _, rfl, by kernel_rfl⟩
    · refine OJ.go 1 [(152, .bool y42)] ?_
      exact OJ.nil ⟨(Cov.mem Cov.nil), rfl, _, rfl, by kernel_rfl⟩
  · refine OJ.go 9 [(152, .bool false), (151, undef), (150, undef), (149, undef), (148, undef), (147, undef), (146, undef), (145, undef), (144, undef)] ?_
    exact OJ.nil ⟨(Cov.mem Cov.nil), rfl, _, rfl, by kernel_rfl⟩
  · refine OJ.go 1 [(153, .bool y43)] ?_
    refine OJ.join (b := y43) [12, 13, 14, 15] [16, 17, 18, 19, 20, 21] [17, 19, 157] (fun y45 => [(17, .pointer (some (pt b36 0))), (19, .pointer (some (pt b39 0))), (157, .bool y45)]) [] [] (t := 153) Iff.rfl (fun hp_ => ?_) (fun hp_ => ?_) (fun _ _ _ _ _ _ h_ => h_) (fun y45 => ?_)
    · refine OJ.go 1 [(154, .int .i64 r38.2.1)] ?_
      refine OJ.call (d := 155) (g := 12) (ats := #[28]) (args := [.tmp 154]) (owed := []) F12 (weirlaw4_num_ok r38.2.1) (fun r44 => ?_)
      refine OW.nil ?_
      refine OJ.go 2 [(157, .bool (r44 == 0)), (156, .bool (r44 == 0))] ?_
      exact OJ.nil ⟨(Cov.mem Cov.nil), rfl, _, rfl, by kernel_rfl⟩
    · refine OJ.go 4 [(157, .bool false), (156, undef), (155, undef), (154, undef)] ?_
      exact OJ.nil ⟨(Cov.mem Cov.nil), rfl, _, rfl, by kernel_rfl⟩
    · refine OJ.go 1 [(158, .bool y45)] ?_
      refine OJ.join (b := y45) [17, 18, 19, 20] [21] [162] (fun y46 => [(162, .bool y46)]) [] [] (t := 158) Iff.rfl (fun hp_ => ?_) (fun hp_ => ?_) (fun _ _ _ _ _ _ h_ => h_) (fun y46 => ?_)
      · refine OJ.kld (d := 159) (y := .tmp 19) (cd := ((cI .u8).arr 6)) (j := 0) (b := b39) (o := 0) r38.1 (pend2 := []) Ty42 rfl (At.whole _) rfl ?_
        refine OJ.kld (d := 160) (y := .tmp 17) (cd := ((cI .u8).arr 6)) (j := 1) (b := b36) (o := 0) r35.1 (pend2 := []) Ty42 rfl (At.whole _) rfl ?_
        refine OJ.eql (d := 161) (T := 42) (yT := 42) (y := .tmp 159) (z := .tmp 160) (cd := ((cI .u8).arr 6)) (p := r38.1) (q := r35.1) rfl Eq42 ?_
        refine OJ.go 1 [(162, .bool (eqv r38.1 r35.1))] ?_
        exact OJ.nil ⟨(Cov.mem Cov.nil), rfl, _, rfl, by kernel_rfl⟩
      · refine OJ.go 4 [(162, .bool false), (161, undef), (160, undef), (159, undef)] ?_
        exact OJ.nil ⟨(Cov.mem Cov.nil), rfl, _, rfl, by kernel_rfl⟩
      · refine OJ.go 1 [(2, .bool y46)] ?_
        refine OJ.nil ?_
        exact SJ.ret rfl (Res.run (ys := [.bool y46]) (.tmp (by kernel_rfl) .nil) rfl)
noncomputable def weirlaw4_AddrAgain.K2 (a0 : ByteArray) : M Bool :=
  addr_ParsePrefix a0 >>= fun r18 =>
  slot 37 >>= fun b19 =>
  weirlaw4_num r18.2.1 >>= fun r20 =>
  if r20 = 0 then
    addr_PrintPrefix r18.1 >>= fun r47 =>
    addr_ParsePrefix r47.1 >>= fun r48 =>
    slot 37 >>= fun b49 =>
    weirlaw4_num r47.2 >>= fun r50 =>
    (if r50 ≠ 0 then
        pure true
      else
        weirlaw4_num r48.2.1 >>= fun r51 =>
        pure (r51 != 0)) >>= fun y52 =>
    (if y52 = true then
        pure true
      else
        pure (!eqv r18.1 r48.1)) >>= fun y53 =>
    (if y53 = true then
        pure true
      else
        addr_ValidPrefix r18.1 >>= fun r54 =>
        weirlaw4_num r54 >>= fun r55 =>
        pure (r55 != 0)) >>= fun y56 =>
    if y56 = true then
      pure false
    else
      weirlaw4_AddrAgain.K1 a0
  else
    (if ¬ (r18.1 = z_api_Prefix) then
        pure true
      else
        pure (decide (r18.2.2 < 0))) >>= fun y58 =>
    (if y58 = true then
        pure true
      else
        pure (decide (r18.2.2 > (a0.size : Int)))) >>= fun y59 =>
    if y59 = true then
      pure false
    else
      weirlaw4_AddrAgain.K1 a0
theorem weirlaw4_AddrAgain.K2_ok (a0 : ByteArray) :
    SJ weirlaw4_AddrAgain.cx [.code (c2 (c2 (c2 weirlaw4_AddrAgain.B)))] [(0, .string a0)] [] (weirlaw4_AddrAgain.K2 a0) weirlaw4_AddrAgain.F0 := by
  unfold weirlaw4_AddrAgain.K2
  refine SJ.sr 10 ?_
  refine OJ.go 1 [(78, .string a0)] ?_
  refine OJ.call (d := 79) (g := 20) (ats := #[9]) (args := [.tmp 78]) (owed := []) F20 (addr_ParsePrefix_ok a0) (fun r18 => ?_)
  refine OW.nil ?_
  refine OJ.go 4 [(82, .int .i64 r18.2.2), (81, .int .i64 r18.2.1), (80, c_api_Prefix.val r18.1), (77, .tuple #[c_api_Prefix.val r18.1, .int .i64 r18.2.1, .int .i64 r18.2.2])] ?_
  refine OJ.slotOf (d := 11) (op := (.alloc 37)) (cd := c_api_Prefix) (u := z_api_Prefix) (owed := []) (alloc_run Ty37) (fun b19 => ?_)
  refine OW.nil ?_
  refine OJ.kst (y := .tmp 11) (z := .tmp 80) (cd := c_api_Prefix) (u := r18.1) (j := 0) (b := b19) (o := 0) (c_api_Prefix.enc r18.1) (owed := []) Ty37 rfl (Upd.whole ((Cod.len _ _).trans (Cod.len _ _).symm)) rfl ?_
  refine OW.nil ?_
  refine OJ.go 2 [(5, .int .i64 r18.2.2), (4, .int .i64 r18.2.1)] ?_
  refine OJ.nil ?_
  refine SJ.seq ?_
  refine SJ.sr 3 ?_
  refine OJ.go 1 [(83, .int .i64 r18.2.1)] ?_
  refine OJ.call (d := 84) (g := 12) (ats := #[28]) (args := [.tmp 83]) (owed := []) F12 (weirlaw4_num_ok r18.2.1) (fun r20 => ?_)
  refine OW.nil ?_
  refine OJ.go 1 [(85, .bool (r20 == 0))] ?_
  refine OJ.nil ?_
  refine SJ.cond (t := (.tmp 85)) (b := (r20 == 0)) beq_iff_eq (fun hc61 => ?_) (fun hc61 => ?_)
  · refine SJ.sr 7 ?_
    refine OJ.kld (d := 87) (y := .tmp 11) (cd := c_api_Prefix) (j := 0) (b := b19) (o := 0) r18.1 (pend2 := []) Ty37 rfl (At.whole _) rfl ?_
    refine OJ.call (d := 88) (g := 17) (ats := #[37]) (args := [.tmp 87]) (owed := []) F17 (addr_PrintPrefix_ok r18.1) (fun r47 => ?_)
    refine OW.nil ?_
    refine OJ.go 5 [(13, .int .i64 r47.2), (12, .string r47.1), (90, .int .i64 r47.2), (89, .string r47.1), (86, .tuple #[.string r47.1, .int .i64 r47.2])] ?_
    refine OJ.nil ?_
    refine SJ.sr 10 ?_
    refine OJ.go 1 [(92, .string r47.1)] ?_
    refine OJ.call (d := 93) (g := 20) (ats := #[9]) (args := [.tmp 92]) (owed := []) F20 (addr_ParsePrefix_ok r47.1) (fun r48 => ?_)
    refine OW.nil ?_
    refine OJ.go 4 [(96, .int .i64 r48.2.2), (95, .int .i64 r48.2.1), (94, c_api_Prefix.val r48.1), (91, .tuple #[c_api_Prefix.val r48.1, .int .i64 r48.2.1, .int .i64 r48.2.2])] ?_
    refine OJ.slotOf (d := 14) (op := (.alloc 37)) (cd := c_api_Prefix) (u := z_api_Prefix) (owed := []) (alloc_run Ty37) (fun b49 => ?_)
    refine OW.nil ?_
    refine OJ.kst (y := .tmp 14) (z := .tmp 94) (cd := c_api_Prefix) (u := r48.1) (j := 0) (b := b49) (o := 0) (c_api_Prefix.enc r48.1) (owed := []) Ty37 rfl (Upd.whole ((Cod.len _ _).trans (Cod.len _ _).symm)) rfl ?_
    refine OW.nil ?_
    refine OJ.go 2 [(16, .int .i64 r48.2.2), (15, .int .i64 r48.2.1)] ?_
    refine OJ.nil ?_
    refine SJ.sr 19 ?_
    refine OJ.go 1 [(97, .int .i64 r47.2)] ?_
    refine OJ.call (d := 98) (g := 12) (ats := #[28]) (args := [.tmp 97]) (owed := []) F12 (weirlaw4_num_ok r47.2) (fun r50 => ?_)
    refine OW.nil ?_
    refine OJ.go 2 [(100, .bool (r50 != 0)), (99, .bool (r50 != 0))] ?_
    refine OJ.join (b := (r50 != 0)) [4, 5, 6, 7] [8, 9, 10, 11, 12, 13, 14, 15, 16, 17, 18] [0, 11, 14, 104] (fun y52 => [(0, .string a0), (11, .pointer (some (pt b19 0))), (14, .pointer (some (pt b49 0))), (104, .bool y52)]) [] [] (t := 100) bne_iff_ne (fun hp_ => ?_) (fun hp_ => ?_) (fun _ _ _ _ _ _ h_ => h_) (fun y52 => ?_)
    · refine OJ.go 4 [(104, .bool true), (103, undef), (102, undef), (101, undef)] ?_
      exact OJ.nil ⟨(Cov.mem Cov.nil), rfl, _, rfl, by kernel_rfl⟩
    · refine OJ.go 1 [(101, .int .i64 r48.2.1)] ?_
      refine OJ.call (d := 102) (g := 12) (ats := #[28]) (args := [.tmp 101]) (owed := []) F12 (weirlaw4_num_ok r48.2.1) (fun r51 => ?_)
      refine OW.nil ?_
      refine OJ.go 2 [(104, .bool (r51 != 0)), (103, .bool (r51 != 0))] ?_
      exact OJ.nil ⟨(Cov.mem Cov.nil), rfl, _, rfl, by kernel_rfl⟩
    · refine OJ.go 1 [(105, .bool y52)] ?_
      refine OJ.join (b := y52) [9, 10, 11, 12] [13, 14, 15, 16, 17, 18] [0, 11, 109] (fun y53 => [(0, .string a0), (11, .pointer (some (pt b19 0))), (109, .bool y53)]) [] [] (t := 105) Iff.rfl (fun hp_ => ?_) (fun hp_ => ?_) (fun _ _ _ _ _ _ h_ => h_) (fun y53 => ?_)
      · refine OJ.go 4 [(109, .bool true), (108, undef), (107, undef), (106, undef)] ?_
        exact OJ.nil ⟨(Cov.mem Cov.nil), rfl, _, rfl, by kernel_rfl⟩
      · refine OJ.kld (d := 106) (y := .tmp 11) (cd := c_api_Prefix) (j := 1) (b := b19) (o := 0) r18.1 (pend2 := []) Ty37 rfl (At.whole _) rfl ?_
        refine OJ.kld (d := 107) (y := .tmp 14) (cd := c_api_Prefix) (j := 0) (b := b49) (o := 0) r48.1 (pend2 := []) Ty37 rfl (At.whole _) rfl ?_
        refine OJ.neq (d := 108) (T := 37) (yT := 37) (y := .tmp 106) (z := .tmp 107) (cd := c_api_Prefix) (p := r18.1) (q := r48.1) rfl Eq37 ?_
        refine OJ.go 1 [(109, .bool (!eqv r18.1 r48.1))] ?_
        exact OJ.nil ⟨(Cov.mem Cov.nil), rfl, _, rfl, by kernel_rfl⟩
      · refine OJ.go 1 [(110, .bool y53)] ?_
        refine OJ.join (b := y53) [14, 15, 16, 17, 18] [] [0, 115] (fun y56 => [(0, .string a0), (115, .bool y56)]) [] [] (t := 110) Iff.rfl (fun hp_ => ?_) (fun hp_ => ?_) (fun _ _ _ _ _ _ h_ => h_) (fun y56 => ?_)
        · refine OJ.go 5 [(115, .bool true), (114, undef), (113, undef), (112, undef), (111, undef)] ?_
          exact OJ.nil ⟨(Cov.mem Cov.nil), rfl, _, rfl, by kernel_rfl⟩
        · refine OJ.kld (d := 111) (y := .tmp 11) (cd := c_api_Prefix) (j := 1) (b := b19) (o := 0) r18.1 (pend2 := []) Ty37 rfl (At.whole _) rfl ?_
          refine OJ.call (d := 112) (g := 14) (ats := #[37]) (args := [.tmp 111]) (owed := []) F14 (addr_ValidPrefix_ok r18.1) (fun r54 => ?_)
          refine OW.nil ?_
          refine OJ.call (d := 113) (g := 12) (ats := #[28]) (args := [.tmp 112]) (owed := []) F12 (weirlaw4_num_ok r54) (fun r55 => ?_)
          refine OW.nil ?_
          refine OJ.go 2 [(115, .bool (r55 != 0)), (114, .bool (r55 != 0))] ?_
          exact OJ.nil ⟨(Cov.mem Cov.nil), rfl, _, rfl, by kernel_rfl⟩
        · refine OJ.nil ?_
          refine SJ.cond (t := (.tmp 115)) (b := y56) Iff.rfl (fun hc57 => ?_) (fun hc57 => ?_)
          · refine SJ.sr 1 ?_
            refine OJ.go 1 [(2, .bool false)] ?_
            refine OJ.nil ?_
            exact SJ.ret rfl (Res.run (ys := [.bool false]) (.tmp (by kernel_rfl) .nil) rfl)
          · refine SJ.skip ?_
            refine SJ.forget (List.Sublist.cons _ (List.Sublist.cons _ List.Sublist.slnil)) ?_
            refine SJ.less [0] (m' := [(0, .string a0)]) ?_
            exact weirlaw4_AddrAgain.K1_ok a0
  · refine SJ.sr 13 ?_
    refine OJ.kld (d := 116) (y := .tmp 11) (cd := c_api_Prefix) (j := 0) (b := b19) (o := 0) r18.1 (pend2 := []) Ty37 rfl (At.whole _) rfl ?_
    refine OJ.build (d := 117) (T := 37) (parts := []) (ps := []) (cd := c_api_Prefix) (z0 := z_api_Prefix) z_api_Prefix Ty37 rfl Filled.nil ?_
    refine OJ.neq (d := 118) (T := 37) (yT := 37) (y := .tmp 116) (z := .tmp 117) (cd := c_api_Prefix) (p := r18.1) (q := z_api_Prefix) rfl Eq37 ?_
    refine OJ.go 1 [(119, .bool (!eqv r18.1 z_api_Prefix))] ?_
    refine OJ.join (b := (!eqv r18.1 z_api_Prefix)) [4, 5, 6] [7, 8, 9, 10, 11, 12] [0, 5, 122] (fun y58 => [(0, .string a0), (5, .int .i64 r18.2.2), (122, .bool y58)]) [] [] (t := 119) (bnot_iff eqv_iff) (fun hp_ => ?_) (fun hp_ => ?_) (fun _ _ _ _ _ _ h_ => h_) (fun y58 => ?_)
    · refine OJ.go 3 [(122, .bool true), (121, undef), (120, undef)] ?_
      exact OJ.nil ⟨(Cov.mem Cov.nil), rfl, _, rfl, by kernel_rfl⟩
    · refine OJ.go 3 [(122, .bool (decide (r18.2.2 < 0))), (121, .bool (decide (r18.2.2 < 0))), (120, .int .i64 r18.2.2)] ?_
      exact OJ.nil ⟨(Cov.mem Cov.nil), rfl, _, rfl, by kernel_rfl⟩
    · refine OJ.go 1 [(123, .bool y58)] ?_
      refine OJ.join (b := y58) [8, 9, 10, 11, 12] [] [0, 128] (fun y59 => [(0, .string a0), (128, .bool y59)]) [] [] (t := 123) Iff.rfl (fun hp_ => ?_) (fun hp_ => ?_) (fun _ _ _ _ _ _ h_ => h_) (fun y59 => ?_)
      · refine OJ.go 5 [(128, .bool true), (127, undef), (126, undef), (125, undef), (124, undef)] ?_
        exact OJ.nil ⟨(Cov.mem Cov.nil), rfl, _, rfl, by kernel_rfl⟩
      · refine OJ.go 5 [(128, .bool (decide (r18.2.2 > (a0.size : Int)))), (127, .bool (decide (r18.2.2 > (a0.size : Int)))), (126, .int .i64 (a0.size : Int)), (125, .string a0), (124, .int .i64 r18.2.2)] ?_
        exact OJ.nil ⟨(Cov.mem Cov.nil), rfl, _, rfl, by kernel_rfl⟩
      · refine OJ.nil ?_
        refine SJ.cond (t := (.tmp 128)) (b := y59) Iff.rfl (fun hc60 => ?_) (fun hc60 => ?_)
        · refine SJ.sr 1 ?_
          refine OJ.go 1 [(2, .bool false)] ?_
          refine OJ.nil ?_
          exact SJ.ret rfl (Res.run (ys := [.bool false]) (.tmp (by kernel_rfl) .nil) rfl)
        · refine SJ.skip ?_
          refine SJ.forget (List.Sublist.cons _ List.Sublist.slnil) ?_
          refine SJ.less [0] (m' := [(0, .string a0)]) ?_
          exact weirlaw4_AddrAgain.K1_ok a0
noncomputable def weirlaw4_AddrAgain (a0 : ByteArray) : M Bool :=
  addr_ParseIP a0 >>= fun r1 =>
  slot 27 >>= fun b2 =>
  weirlaw4_num r1.2.1 >>= fun r3 =>
  if r3 = 0 then
    addr_PrintIP r1.1 >>= fun r62 =>
    addr_ParseIP r62.1 >>= fun r63 =>
    slot 27 >>= fun b64 =>
    weirlaw4_num r62.2 >>= fun r65 =>
    (if r65 ≠ 0 then
        pure true
      else
        weirlaw4_num r63.2.1 >>= fun r66 =>
        pure (r66 != 0)) >>= fun y67 =>
    (if y67 = true then
        pure true
      else
        pure (!eqv r1.1 r63.1)) >>= fun y68 =>
    (if y68 = true then
        pure true
      else
        pure (r1.2.2 != 0)) >>= fun y69 =>
    (if y69 = true then
        pure true
      else
        addr_Valid r1.1 >>= fun r70 =>
        pure (!r70)) >>= fun y71 =>
    if y71 = true then
      pure false
    else
      weirlaw4_AddrAgain.K2 a0
  else
    (if ¬ (r1.1 = z_api_IP) then
        pure true
      else
        pure (decide (r1.2.2 < 0))) >>= fun y73 =>
    (if y73 = true then
        pure true
      else
        pure (decide (r1.2.2 > (a0.size : Int)))) >>= fun y74 =>
    if y74 = true then
      pure false
    else
      weirlaw4_AddrAgain.K2 a0
theorem weirlaw4_AddrAgain_ok (a0 : ByteArray) : Ref Tryd.prog 7 [.string a0] (weirlaw4_AddrAgain a0) weirlaw4_AddrAgain.out := by
  refine Ref.of (cd := weirlaw4_AddrAgain.B) Tryd.func7 ?_
  show SJ weirlaw4_AddrAgain.cx [.code weirlaw4_AddrAgain.B] [(0, .string a0)] [] (weirlaw4_AddrAgain a0) weirlaw4_AddrAgain.F0
  unfold weirlaw4_AddrAgain
  refine SJ.sr 1 ?_
  refine OJ.go 1 [(2, .bool false)] ?_
  refine OJ.nil ?_
  refine SJ.sr 10 ?_
  refine OJ.go 1 [(23, .string a0)] ?_
  refine OJ.call (d := 24) (g := 10) (ats := #[9]) (args := [.tmp 23]) (owed := []) F10 (addr_ParseIP_ok a0) (fun r1 => ?_)
  refine OW.nil ?_
  refine OJ.go 4 [(27, .int .i64 r1.2.2), (26, .int .i64 r1.2.1), (25, c_api_IP.val r1.1), (22, .tuple #[c_api_IP.val r1.1, .int .i64 r1.2.1, .int .i64 r1.2.2])] ?_
  refine OJ.slotOf (d := 3) (op := (.alloc 27)) (cd := c_api_IP) (u := z_api_IP) (owed := []) (alloc_run Ty27) (fun b2 => ?_)
  refine OW.nil ?_
  refine OJ.kst (y := .tmp 3) (z := .tmp 25) (cd := c_api_IP) (u := r1.1) (j := 0) (b := b2) (o := 0) (c_api_IP.enc r1.1) (owed := []) Ty27 rfl (Upd.whole ((Cod.len _ _).trans (Cod.len _ _).symm)) rfl ?_
  refine OW.nil ?_
  refine OJ.go 2 [(5, .int .i64 r1.2.2), (4, .int .i64 r1.2.1)] ?_
  refine OJ.nil ?_
  refine SJ.seq ?_
  refine SJ.sr 3 ?_
  refine OJ.go 1 [(28, .int .i64 r1.2.1)] ?_
  refine OJ.call (d := 29) (g := 12) (ats := #[28]) (args := [.tmp 28]) (owed := []) F12 (weirlaw4_num_ok r1.2.1) (fun r3 => ?_)
  refine OW.nil ?_
  refine OJ.go 1 [(30, .bool (r3 == 0))] ?_
  refine OJ.nil ?_
  refine SJ.cond (t := (.tmp 30)) (b := (r3 == 0)) beq_iff_eq (fun hc76 => ?_) (fun hc76 => ?_)
  · refine SJ.sr 7 ?_
    refine OJ.kld (d := 32) (y := .tmp 3) (cd := c_api_IP) (j := 0) (b := b2) (o := 0) r1.1 (pend2 := []) Ty27 rfl (At.whole _) rfl ?_
    refine OJ.call (d := 33) (g := 16) (ats := #[27]) (args := [.tmp 32]) (owed := []) F16 (addr_PrintIP_ok r1.1) (fun r62 => ?_)
    refine OW.nil ?_
    refine OJ.go 5 [(7, .int .i64 r62.2), (6, .string r62.1), (35, .int .i64 r62.2), (34, .string r62.1), (31, .tuple #[.string r62.1, .int .i64 r62.2])] ?_
    refine OJ.nil ?_
    refine SJ.sr 10 ?_
    refine OJ.go 1 [(37, .string r62.1)] ?_
    refine OJ.call (d := 38) (g := 10) (ats := #[9]) (args := [.tmp 37]) (owed := []) F10 (addr_ParseIP_ok r62.1) (fun r63 => ?_)
    refine OW.nil ?_
    refine OJ.go 4 [(41, .int .i64 r63.2.2), (40, .int .i64 r63.2.1), (39, c_api_IP.val r63.1), (36, .tuple #[c_api_IP.val r63.1, .int .i64 r63.2.1, .int .i64 r63.2.2])] ?_
    refine OJ.slotOf (d := 8) (op := (.alloc 27)) (cd := c_api_IP) (u := z_api_IP) (owed := []) (alloc_run Ty27) (fun b64 => ?_)
    refine OW.nil ?_
    refine OJ.kst (y := .tmp 8) (z := .tmp 39) (cd := c_api_IP) (u := r63.1) (j := 0) (b := b64) (o := 0) (c_api_IP.enc r63.1) (owed := []) Ty27 rfl (Upd.whole ((Cod.len _ _).trans (Cod.len _ _).symm)) rfl ?_
    refine OW.nil ?_
    refine OJ.go 2 [(10, .int .i64 r63.2.2), (9, .int .i64 r63.2.1)] ?_
    refine OJ.nil ?_
    refine SJ.sr 22 ?_
    refine OJ.go 1 [(42, .int .i64 r62.2)] ?_
    refine OJ.call (d := 43) (g := 12) (ats := #[28]) (args := [.tmp 42]) (owed := []) F12 (weirlaw4_num_ok r62.2) (fun r65 => ?_)
    refine OW.nil ?_
    refine OJ.go 2 [(45, .bool (r65 != 0)), (44, .bool (r65 != 0))] ?_
    refine OJ.join (b := (r65 != 0)) [4, 5, 6, 7] [8, 9, 10, 11, 12, 13, 14, 15, 16, 17, 18, 19, 20, 21] [0, 3, 5, 8, 49] (fun y67 => [(0, .string a0), (3, .pointer (some (pt b2 0))), (5, .int .i64 r1.2.2), (8, .pointer (some (pt b64 0))), (49, .bool y67)]) [] [] (t := 45) bne_iff_ne (fun hp_ => ?_) (fun hp_ => ?_) (fun _ _ _ _ _ _ h_ => h_) (fun y67 => ?_)
    · refine OJ.go 4 [(49, .bool true), (48, undef), (47, undef), (46, undef)] ?_
      exact OJ.nil ⟨(Cov.mem Cov.nil), rfl, _, rfl, by kernel_rfl⟩
    · refine OJ.go 1 [(46, .int .i64 r63.2.1)] ?_
      refine OJ.call (d := 47) (g := 12) (ats := #[28]) (args := [.tmp 46]) (owed := []) F12 (weirlaw4_num_ok r63.2.1) (fun r66 => ?_)
      refine OW.nil ?_
      refine OJ.go 2 [(49, .bool (r66 != 0)), (48, .bool (r66 != 0))] ?_
      exact OJ.nil ⟨(Cov.mem Cov.nil), rfl, _, rfl, by kernel_rfl⟩
    · refine OJ.go 1 [(50, .bool y67)] ?_
      refine OJ.join (b := y67) [9, 10, 11, 12] [13, 14, 15, 16, 17, 18, 19, 20, 21] [0, 3, 5, 54] (fun y68 => [(0, .string a0), (3, .pointer (some (pt b2 0))), (5, .int .i64 r1.2.2), (54, .bool y68)]) [] [] (t := 50) Iff.rfl (fun hp_ => ?_) (fun hp_ => ?_) (fun _ _ _ _ _ _ h_ => h_) (fun y68 => ?_)
      · refine OJ.go 4 [(54, .bool true), (53, undef), (52, undef), (51, undef)] ?_
        exact OJ.nil ⟨(Cov.mem Cov.nil), rfl, _, rfl, by kernel_rfl⟩
      · refine OJ.kld (d := 51) (y := .tmp 3) (cd := c_api_IP) (j := 1) (b := b2) (o := 0) r1.1 (pend2 := []) Ty27 rfl (At.whole _) rfl ?_
        refine OJ.kld (d := 52) (y := .tmp 8) (cd := c_api_IP) (j := 0) (b := b64) (o := 0) r63.1 (pend2 := []) Ty27 rfl (At.whole _) rfl ?_
        refine OJ.neq (d := 53) (T := 27) (yT := 27) (y := .tmp 51) (z := .tmp 52) (cd := c_api_IP) (p := r1.1) (q := r63.1) rfl Eq27 ?_
        refine OJ.go 1 [(54, .bool (!eqv r1.1 r63.1))] ?_
        exact OJ.nil ⟨(Cov.mem Cov.nil), rfl, _, rfl, by kernel_rfl⟩
      · refine OJ.go 1 [(55, .bool y68)] ?_
        refine OJ.join (b := y68) [14, 15, 16] [17, 18, 19, 20, 21] [0, 3, 58] (fun y69 => [(0, .string a0), (3, .pointer (some (pt b2 0))), (58, .bool y69)]) [] [] (t := 55) Iff.rfl (fun hp_ => ?_) (fun hp_ => ?_) (fun _ _ _ _ _ _ h_ => h_) (fun y69 => ?_)
        · refine OJ.go 3 [(58, .bool true), (57, undef), (56, undef)] ?_
          exact OJ.nil ⟨(Cov.mem Cov.nil), rfl, _, rfl, by kernel_rfl⟩
        · refine OJ.go 3 [(58, .bool (r1.2.2 != 0)), (57, .bool (r1.2.2 != 0)), (56, .int .i64 r1.2.2)] ?_
          exact OJ.nil ⟨(Cov.mem Cov.nil), rfl, _, rfl, by kernel_rfl⟩
        · refine OJ.go 1 [(59, .bool y69)] ?_
          refine OJ.join (b := y69) [18, 19, 20, 21] [] [0, 63] (fun y71 => [(0, .string a0), (63, .bool y71)]) [] [] (t := 59) Iff.rfl (fun hp_ => ?_) (fun hp_ => ?_) (fun _ _ _ _ _ _ h_ => h_) (fun y71 => ?_)
          · refine OJ.go 4 [(63, .bool true), (62, undef), (61, undef), (60, undef)] ?_
            exact OJ.nil ⟨(Cov.mem Cov.nil), rfl, _, rfl, by kernel_rfl⟩
          · refine OJ.kld (d := 60) (y := .tmp 3) (cd := c_api_IP) (j := 1) (b := b2) (o := 0) r1.1 (pend2 := []) Ty27 rfl (At.whole _) rfl ?_
            refine OJ.call (d := 61) (g := 19) (ats := #[27]) (args := [.tmp 60]) (owed := []) F19 (addr_Valid_ok r1.1) (fun r70 => ?_)
            refine OW.nil ?_
            refine OJ.go 2 [(63, .bool (!r70)), (62, .bool (!r70))] ?_
            exact OJ.nil ⟨(Cov.mem Cov.nil), rfl, _, rfl, by kernel_rfl⟩
          · refine OJ.nil ?_
            refine SJ.cond (t := (.tmp 63)) (b := y71) Iff.rfl (fun hc72 => ?_) (fun hc72 => ?_)
            · refine SJ.sr 1 ?_
              refine OJ.go 1 [(2, .bool false)] ?_
              refine OJ.nil ?_
              exact SJ.ret rfl (Res.run (ys := [.bool false]) (.tmp (by kernel_rfl) .nil) rfl)
            · refine SJ.skip ?_
              refine SJ.forget (List.Sublist.cons _ (List.Sublist.cons _ List.Sublist.slnil)) ?_
              refine SJ.less [0] (m' := [(0, .string a0)]) ?_
              exact weirlaw4_AddrAgain.K2_ok a0
  · refine SJ.sr 13 ?_
    refine OJ.kld (d := 64) (y := .tmp 3) (cd := c_api_IP) (j := 0) (b := b2) (o := 0) r1.1 (pend2 := []) Ty27 rfl (At.whole _) rfl ?_
    refine OJ.build (d := 65) (T := 27) (parts := []) (ps := []) (cd := c_api_IP) (z0 := z_api_IP) z_api_IP Ty27 rfl Filled.nil ?_
    refine OJ.neq (d := 66) (T := 27) (yT := 27) (y := .tmp 64) (z := .tmp 65) (cd := c_api_IP) (p := r1.1) (q := z_api_IP) rfl Eq27 ?_
    refine OJ.go 1 [(67, .bool (!eqv r1.1 z_api_IP))] ?_
    refine OJ.join (b := (!eqv r1.1 z_api_IP)) [4, 5, 6] [7, 8, 9, 10, 11, 12] [0, 5, 70] (fun y73 => [(0, .string a0), (5, .int .i64 r1.2.2), (70, .bool y73)]) [] [] (t := 67) (bnot_iff eqv_iff) (fun hp_ => ?_) (fun hp_ => ?_) (fun _ _ _ _ _ _ h_ => h_) (fun y73 => ?_)
    · refine OJ.go 3 [(70, .bool true), (69, undef), (68, undef)] ?_
      exact OJ.nil ⟨(Cov.mem Cov.nil), rfl, _, rfl, by kernel_rfl⟩
    · refine OJ.go 3 [(70, .bool (decide (r1.2.2 < 0))), (69, .bool (decide (r1.2.2 < 0))), (68, .int .i64 r1.2.2)] ?_
      exact OJ.nil ⟨(Cov.mem Cov.nil), rfl, _, rfl, by kernel_rfl⟩
    · refine OJ.go 1 [(71, .bool y73)] ?_
      refine OJ.join (b := y73) [8, 9, 10, 11, 12] [] [0, 76] (fun y74 => [(0, .string a0), (76, .bool y74)]) [] [] (t := 71) Iff.rfl (fun hp_ => ?_) (fun hp_ => ?_) (fun _ _ _ _ _ _ h_ => h_) (fun y74 => ?_)
      · refine OJ.go 5 [(76, .bool true), (75, undef), (74, undef), (73, undef), (72, undef)] ?_
        exact OJ.nil ⟨(Cov.mem Cov.nil), rfl, _, rfl, by kernel_rfl⟩
      · refine OJ.go 5 [(76, .bool (decide (r1.2.2 > (a0.size : Int)))), (75, .bool (decide (r1.2.2 > (a0.size : Int)))), (74, .int .i64 (a0.size : Int)), (73, .string a0), (72, .int .i64 r1.2.2)] ?_
        exact OJ.nil ⟨(Cov.mem Cov.nil), rfl, _, rfl, by kernel_rfl⟩
      · refine OJ.nil ?_
        refine SJ.cond (t := (.tmp 76)) (b := y74) Iff.rfl (fun hc75 => ?_) (fun hc75 => ?_)
        · refine SJ.sr 1 ?_
          refine OJ.go 1 [(2, .bool false)] ?_
          refine OJ.nil ?_
          exact SJ.ret rfl (Res.run (ys := [.bool false]) (.tmp (by kernel_rfl) .nil) rfl)
        · refine SJ.skip ?_
          refine SJ.forget (List.Sublist.cons _ List.Sublist.slnil) ?_
          refine SJ.less [0] (m' := [(0, .string a0)]) ?_
          exact weirlaw4_AddrAgain.K2_ok a0
end Go.Proofs.YtddmmgcfanpmmaaDoor.Lx
