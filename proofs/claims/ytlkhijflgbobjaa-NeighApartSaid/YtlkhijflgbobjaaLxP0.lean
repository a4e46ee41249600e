/- Programs of the M-world for Go functions, each with the proof that the Go text does what it says. Printed by lxgen.py. -/
import Derived.Test.YtlkhijflgbobjaaLxT
set_option linter.unusedVariables false
set_option linter.unusedSimpArgs false
namespace Go.Proofs.Ytlkhijflgbobjaa.Lx
open Go Go.Proofs
/-! ### weir/neigh.outside: function 58 -/
noncomputable def neigh_outside.B : Code := (Try.f58.body).getD .skip
noncomputable def neigh_outside.cx : Fx := ⟨Try.prog, 58, Try.f58⟩
noncomputable def neigh_outside.out (r_ : Bool) : Value := .bool r_
noncomputable def neigh_outside.F0 (r_ : Bool) : Reach := .ret (neigh_outside.out r_)
noncomputable def neigh_outside (a0 : Int) (a1 : Int) : M Bool :=
  (if a0 < 1 then
      pure true
    else
      pure (decide (a0 > a1))) >>= fun y1 =>
  pure y1
theorem neigh_outside_ok (a0 : Int) (a1 : Int) : Ref Try.prog 58 [.int .i64 a0, .int .i64 a1] (neigh_outside a0 a1) neigh_outside.out := by
  refine Ref.of (cd := neigh_outside.B) Try.func58 ?_
  show SJ neigh_outside.cx [.code neigh_outside.B] [(0, .int .i64 a0), (1, .int .i64 a1)] [] (neigh_outside a0 a1) neigh_outside.F0
  unfold neigh_outside
  refine SJ.sr 1 ?_
  refine OJ.go 1 [(4, .bool false)] ?_
  refine OJ.nil ?_
  refine SJ.sr 8 ?_
  refine OJ.go 3 [(7, .bool (decide (a0 < 1))), (6, .bool (decide (a0 < 1))), (5, .int .i64 a0)] ?_
  refine OJ.join (b := decide (a0 < 1)) [3, 4, 5, 6] [7] [11] (fun y1 => [(11, .bool y1)]) [] [] (t := 7) decide_eq_true_iff (fun hp_ => ?_) (fun hp_ => ?_) (fun _ _ _ _ _ _ h_ => h_) (fun y1 => ?_)
  · refine OJ.go 4 [(11, .bool true), (10, undef), (9, undef), (8, undef)] ?_
    exact OJ.nil ⟨(Cov.mem Cov.nil), rfl, _, rfl, by kernel_rfl⟩
  · refine OJ.go 4 [(11, .bool (decide (a0 > a1))), (10, .bool (decide (a0 > a1))), (9, .int .i64 a1), (8, .int .i64 a0)] ?_
    exact OJ.nil ⟨(Cov.mem Cov.nil), rfl, _, rfl, by kernel_rfl⟩
  · refine OJ.go 1 [(4, .bool y1)] ?_
    refine OJ.nil ?_
    exact SJ.ret rfl (Res.run (ys := [.bool y1]) (.tmp (by kernel_rfl) .nil) rfl)

/-! ### weir/neigh.New: function 44 -/
noncomputable def neigh_New.B : Code := (Try.f44.body).getD .skip
noncomputable def neigh_New.cx : Fx := ⟨Try.prog, 44, Try.f44⟩
noncomputable def neigh_New.out (r_ : ((Option Addr) × Int)) : Value := .tuple #[.pointer r_.1, .int .i64 r_.2]
noncomputable def neigh_New.F0 (r_ : ((Option Addr) × Int)) : Reach := .ret (neigh_New.out r_)
noncomputable def neigh_New (a0 : api_NeighConfig) : M ((Option Addr) × Int) :=
  slot 23 >>= fun b1 =>
  neigh_outside a0.Max 1024 >>= fun r2 =>
  (if r2 = true then
      pure true
    else
      neigh_outside a0.Line 64 >>= fun r3 =>
      pure r3) >>= fun y4 =>
  (if y4 = true then
      pure true
    else
      neigh_outside a0.Every 1048576 >>= fun r5 =>
      pure r5) >>= fun y6 =>
  (if y6 = true then
      pure true
    else
      neigh_outside a0.Tries 16 >>= fun r7 =>
      pure r7) >>= fun y8 =>
  (if y8 = true then
      pure true
    else
      neigh_outside a0.Fresh 1048576 >>= fun r9 =>
      pure r9) >>= fun y10 =>
  if y10 = true then
    pure (none, 150)
  else
    mkMap >>= fun b11 =>
    newv 103 c_neigh_Cache (⟨a0, (some b11)⟩ : neigh_Cache) >>= fun b12 =>
    pure ((some (pt b12 0)), 0)
theorem neigh_New_ok (a0 : api_NeighConfig) : Ref Try.prog 44 [c_api_NeighConfig.val a0] (neigh_New a0) neigh_New.out := by
  refine Ref.of (cd := neigh_New.B) Try.func44 ?_
  show SJ neigh_New.cx [.code neigh_New.B] [(0, c_api_NeighConfig.val a0)] [] (neigh_New a0) neigh_New.F0
  unfold neigh_New
  refine SJ.sr 3 ?_
  refine OJ.slotOf (d := 1) (op := (.box 23 (.tmp 0))) (cd := c_api_NeighConfig) (u := a0) (owed := []) (box_run (by kernel_rfl)) (fun b1 => ?_)
  refine OW.nil ?_
  refine OJ.go 2 [(3, .int .i64 0), (2, .pointer none)] ?_
  refine OJ.nil ?_
  refine SJ.seq ?_
  refine SJ.sr 23 ?_
  refine OJ.go 1 [(4, .pointer (some (pt b1 0)))] ?_
  refine OJ.kld (d := 5) (y := .tmp 4) (cd := (cI .i64)) (j := 0) (b := b1) (o := 0) a0.Max (pend2 := []) Ty3 rfl (At_api_NeighConfig_Max a0) rfl ?_
  refine OJ.call (d := 6) (g := 58) (ats := #[3, 3]) (args := [.tmp 5, .const (.int .i64 1024)]) (owed := []) F58 (neigh_outside_ok a0.Max 1024) (fun r2 => ?_)
  refine OW.nil ?_
  refine OJ.go 1 [(7, .bool r2)] ?_
  refine OJ.join (b := r2) [4, 5, 6, 7] [8, 9, 10, 11, 12, 13, 14, 15, 16, 17, 18, 19, 20, 21, 22] [1, 11] (fun y4 => [(1, .pointer (some (pt b1 0))), (11, .bool y4)]) [] [] (t := 7) Iff.rfl (fun hp_ => ?_) (fun hp_ => ?_) (fun _ _ _ _ _ _ h_ => h_) (fun y4 => ?_)
  · refine OJ.go 4 [(11, .bool true), (10, undef), (9, undef), (8, undef)] ?_
    exact OJ.nil ⟨(Cov.mem Cov.nil), rfl, _, rfl, by kernel_rfl⟩
  · refine OJ.go 1 [(8, .pointer (some (pt b1 1)))] ?_
    refine OJ.kld (d := 9) (y := .tmp 8) (cd := (cI .i64)) (j := 0) (b := b1) (o := 1) a0.Line (pend2 := []) Ty3 rfl (At_api_NeighConfig_Line a0) rfl ?_
    refine OJ.call (d := 10) (g := 58) (ats := #[3, 3]) (args := [.tmp 9, .const (.int .i64 64)]) (owed := []) F58 (neigh_outside_ok a0.Line 64) (fun r3 => ?_)
    refine OW.nil ?_
    refine OJ.go 1 [(11, .bool r3)] ?_
    exact OJ.nil ⟨(Cov.mem Cov.nil), rfl, _, rfl, by kernel_rfl⟩
  · refine OJ.go 1 [(12, .bool y4)] ?_
    refine OJ.join (b := y4) [9, 10, 11, 12] [13, 14, 15, 16, 17, 18, 19, 20, 21, 22] [1, 16] (fun y6 => [(1, .pointer (some (pt b1 0))), (16, .bool y6)]) [] [] (t := 12) Iff.rfl (fun hp_ => ?_) (fun hp_ => ?_) (fun _ _ _ _ _ _ h_ => h_) (fun y6 => ?_)
    · refine OJ.go 4 [(16, .bool true), (15, undef), (14, undef), (13, undef)] ?_
      exact OJ.nil ⟨(Cov.mem Cov.nil), rfl, _, rfl, by kernel_rfl⟩
    · refine OJ.go 1 [(13, .pointer (some (pt b1 2)))] ?_
      refine OJ.kld (d := 14) (y := .tmp 13) (cd := (cI .i64)) (j := 0) (b := b1) (o := 2) a0.Every (pend2 := []) Ty3 rfl (At_api_NeighConfig_Every a0) rfl ?_
      refine OJ.call (d := 15) (g := 58) (ats := #[3, 3]) (args := [.tmp 14, .const (.int .i64 1048576)]) (owed := []) F58 (neigh_outside_ok a0.Every 1048576) (fun r5 => ?_)
      refine OW.nil ?_
      refine OJ.go 1 [(16, .bool r5)] ?_
      exact OJ.nil ⟨(Cov.mem Cov.nil), rfl, _, rfl, by kernel_rfl⟩
    · refine OJ.go 1 [(17, .bool y6)] ?_
      refine OJ.join (b := y6) [14, 15, 16, 17] [18, 19, 20, 21, 22] [1, 21] (fun y8 => [(1, .pointer (some (pt b1 0))), (21, .bool y8)]) [] [] (t := 17) Iff.rfl (fun hp_ => ?_) (fun hp_ => ?_) (fun _ _ _ _ _ _ h_ => h_) (fun y8 => ?_)
      · refine OJ.go 4 [(21, .bool true), (20, undef), (19, undef), (18, undef)] ?_
        exact OJ.nil ⟨(Cov.mem Cov.nil), rfl, _, rfl, by kernel_rfl⟩
      · refine OJ.go 1 [(18, .pointer (some (pt b1 3)))] ?_
        refine OJ.kld (d := 19) (y := .tmp 18) (cd := (cI .i64)) (j := 0) (b := b1) (o := 3) a0.Tries (pend2 := []) Ty3 rfl (At_api_NeighConfig_Tries a0) rfl ?_
        refine OJ.call (d := 20) (g := 58) (ats := #[3, 3]) (args := [.tmp 19, .const (.int .i64 16)]) (owed := []) F58 (neigh_outside_ok a0.Tries 16) (fun r7 => ?_)
        refine OW.nil ?_
        refine OJ.go 1 [(21, .bool r7)] ?_
        exact OJ.nil ⟨(Cov.mem Cov.nil), rfl, _, rfl, by kernel_rfl⟩
      · refine OJ.go 1 [(22, .bool y8)] ?_
        refine OJ.join (b := y8) [19, 20, 21, 22] [] [1, 26] (fun y10 => [(1, .pointer (some (pt b1 0))), (26, .bool y10)]) [] [] (t := 22) Iff.rfl (fun hp_ => ?_) (fun hp_ => ?_) (fun _ _ _ _ _ _ h_ => h_) (fun y10 => ?_)
        · refine OJ.go 4 [(26, .bool true), (25, undef), (24, undef), (23, undef)] ?_
          exact OJ.nil ⟨(Cov.mem Cov.nil), rfl, _, rfl, by kernel_rfl⟩
        · refine OJ.go 1 [(23, .pointer (some (pt b1 4)))] ?_
          refine OJ.kld (d := 24) (y := .tmp 23) (cd := (cI .i64)) (j := 0) (b := b1) (o := 4) a0.Fresh (pend2 := []) Ty3 rfl (At_api_NeighConfig_Fresh a0) rfl ?_
          refine OJ.call (d := 25) (g := 58) (ats := #[3, 3]) (args := [.tmp 24, .const (.int .i64 1048576)]) (owed := []) F58 (neigh_outside_ok a0.Fresh 1048576) (fun r9 => ?_)
          refine OW.nil ?_
          refine OJ.go 1 [(26, .bool r9)] ?_
          exact OJ.nil ⟨(Cov.mem Cov.nil), rfl, _, rfl, by kernel_rfl⟩
        · refine OJ.nil ?_
          refine SJ.cond (t := (.tmp 26)) (b := y10) Iff.rfl (fun hc13 => ?_) (fun hc13 => ?_)
          · refine SJ.sr 2 ?_
            refine OJ.go 2 [(3, .int .i64 150), (2, .pointer none)] ?_
            refine OJ.nil ?_
            exact SJ.ret rfl (Res.run (ys := [.pointer none, .int .i64 150]) (.tmp (by kernel_rfl) (.tmp (by kernel_rfl) .nil)) rfl)
          · refine SJ.skip ?_
            refine SJ.sr 6 ?_
            refine OJ.kld (d := 27) (y := .tmp 1) (cd := c_api_NeighConfig) (j := 0) (b := b1) (o := 0) a0 (pend2 := []) Ty23 rfl (At.whole _) rfl ?_
            refine OJ.mkMap (d := 28) (t := 101) (owed := []) (fun b11 => ?_)
            refine OW.nil ?_
            refine OJ.build (d := 29) (T := 103) (parts := [(0, .tmp 27), (1, .tmp 28)]) (ps := [(0, c_api_NeighConfig.val a0), (1, cM.val (some b11))]) (cd := c_neigh_Cache) (z0 := z_neigh_Cache) (⟨a0, (some b11)⟩ : neigh_Cache) Ty103 rfl (Filled.cons (cd := c_api_NeighConfig) (q := a0) (o := 0) (by kernel_rfl) (Up_neigh_Cache_c z_neigh_Cache a0) (Filled.cons (cd := cM) (q := (some b11)) (o := 5) (by kernel_rfl) (Up_neigh_Cache_at_ (⟨a0, z_neigh_Cache.at_⟩ : neigh_Cache) (some b11)) Filled.nil)) ?_
            refine OJ.newOf (d := 30) (op := (.box 103 (.tmp 29))) (cd := c_neigh_Cache) (u := (⟨a0, (some b11)⟩ : neigh_Cache)) (owed := []) (box_run (by kernel_rfl)) (fun b12 => ?_)
            refine OW.nil ?_
            refine OJ.go 2 [(3, .int .i64 0), (2, .pointer (some (pt b12 0)))] ?_
            refine OJ.nil ?_
            exact SJ.ret rfl (Res.run (ys := [.pointer (some (pt b12 0)), .int .i64 0]) (.tmp (by kernel_rfl) (.tmp (by kernel_rfl) .nil)) rfl)

/-! ### weir/weirlaw15.num: function 16 -/
noncomputable def weirlaw15_num.B : Code := (Try.f16.body).getD .skip
noncomputable def weirlaw15_num.cx : Fx := ⟨Try.prog, 16, Try.f16⟩
noncomputable def weirlaw15_num.out (r_ : Int) : Value := .int .i64 r_
noncomputable def weirlaw15_num.F0 (r_ : Int) : Reach := .ret (weirlaw15_num.out r_)
noncomputable def weirlaw15_num (a0 : Int) : M Int :=
  pure a0
theorem weirlaw15_num_ok (a0 : Int) : Ref Try.prog 16 [.int .i64 a0] (weirlaw15_num a0) weirlaw15_num.out := by
  refine Ref.of (cd := weirlaw15_num.B) Try.func16 ?_
  show SJ weirlaw15_num.cx [.code weirlaw15_num.B] [(0, .int .i64 a0)] [] (weirlaw15_num a0) weirlaw15_num.F0
  unfold weirlaw15_num
  refine SJ.sr 1 ?_
  refine OJ.go 1 [(2, .int .i64 0)] ?_
  refine OJ.nil ?_
  refine SJ.sr 2 ?_
  refine OJ.go 2 [(2, .int .i64 a0), (3, .int .i64 a0)] ?_
  refine OJ.nil ?_
  exact SJ.ret rfl (Res.run (ys := [.int .i64 a0]) (.tmp (by kernel_rfl) .nil) rfl)

/-! ### weir/weirlaw15.cache: function 13 -/
noncomputable def weirlaw15_cache.B : Code := (Try.f13.body).getD .skip
noncomputable def weirlaw15_cache.cx : Fx := ⟨Try.prog, 13, Try.f13⟩
noncomputable def weirlaw15_cache.out (r_ : ((Option Addr) × api_NeighConfig)) : Value := .tuple #[.pointer r_.1, c_api_NeighConfig.val r_.2]
noncomputable def weirlaw15_cache.F0 (r_ : ((Option Addr) × api_NeighConfig)) : Reach := .ret (weirlaw15_cache.out r_)
noncomputable def weirlaw15_cache.K1 (j6 : (Option Addr)) (j7 : Int) (j8 : api_NeighConfig) : M ((Option Addr) × api_NeighConfig) :=
  weirlaw15_num j7 >>= fun r9 =>
  if r9 ≠ 0 then
    draw >>= fun _ =>
    pure (none, j8)
  else
    draw >>= fun _ =>
    pure (j6, j8)
theorem weirlaw15_cache.K1_ok (b1 : Nat) (b2 : Nat) (j6 : (Option Addr)) (j7 : Int) (j8 : api_NeighConfig) :
    SJ weirlaw15_cache.cx [.code (c2 (c2 (c2 weirlaw15_cache.B)))] [(1, .pointer (some (pt b1 0))), (3, .pointer (some (pt b2 0))), (4, .pointer j6), (5, .int .i64 j7)] [(b2, c_api_NeighConfig.enc z_api_NeighConfig), (b1, c_api_NeighConfig.enc j8)] (weirlaw15_cache.K1 j6 j7 j8) weirlaw15_cache.F0 := by
  unfold weirlaw15_cache.K1
  refine SJ.seq ?_
  refine SJ.sr 3 ?_
  refine OJ.go 1 [(20, .int .i64 j7)] ?_
  refine OJ.call (d := 21) (g := 16) (ats := #[37]) (args := [.tmp 20]) (owed := []) F16 (weirlaw15_num_ok j7) (fun r9 => ?_)
  refine OW.nil ?_
  refine OJ.go 1 [(22, .bool (r9 != 0))] ?_
  refine OJ.nil ?_
  refine SJ.cond (t := (.tmp 22)) (b := (r9 != 0)) bne_iff_ne (fun hc10 => ?_) (fun hc10 => ?_)
  · refine SJ.seq ?_
    refine SJ.draw (id := 6) (kd := [1, 0, 2]) (bef := [0, 0, 3]) (ord := [0, 1, 2]) mixed ?_
    refine OJ.kld (d := 23) (y := .tmp 1) (cd := c_api_NeighConfig) (j := 1) (b := b1) (o := 0) j8 (pend2 := [⟨0, 23, (pt b1 0), c_api_NeighConfig.val j8⟩]) Ty23 rfl (At.whole _) rfl ?_
    refine OJ.go 1 [(2, .pointer none)] ?_
    refine OJ.kst (y := .tmp 3) (z := .tmp 23) (cd := c_api_NeighConfig) (u := j8) (j := 0) (b := b2) (o := 0) (c_api_NeighConfig.enc j8) (owed := []) Ty23 rfl (Upd.whole ((Cod.len _ _).trans (Cod.len _ _).symm)) rfl ?_
    refine OW.nil ?_
    refine OJ.nil ?_
    exact SJ.ret rfl (Res.run (ys := [.pointer none, c_api_NeighConfig.val j8]) (.tmp (by kernel_rfl) (.cell (j := 0) (b := b2) (cd := c_api_NeighConfig) (q := j8) (by kernel_rfl) rfl Ty23 (At.whole _) .nil)) rfl)
  · refine SJ.skip ?_
    refine SJ.seq ?_
    refine SJ.draw (id := 7) (kd := [0, 1, 0, 2]) (bef := [0, 0, 1, 7]) (ord := [0, 1, 2, 3]) mixed ?_
    refine OJ.go 1 [(24, .pointer j6)] ?_
    refine OJ.kld (d := 25) (y := .tmp 1) (cd := c_api_NeighConfig) (j := 1) (b := b1) (o := 0) j8 (pend2 := [⟨1, 23, (pt b1 0), c_api_NeighConfig.val j8⟩]) Ty23 rfl (At.whole _) rfl ?_
    refine OJ.go 1 [(2, .pointer j6)] ?_
    refine OJ.kst (y := .tmp 3) (z := .tmp 25) (cd := c_api_NeighConfig) (u := j8) (j := 0) (b := b2) (o := 0) (c_api_NeighConfig.enc j8) (owed := []) Ty23 rfl (Upd.whole ((Cod.len _ _).trans (Cod.len _ _).symm)) rfl ?_
    refine OW.nil ?_
    refine OJ.nil ?_
    exact SJ.ret rfl (Res.run (ys := [.pointer j6, c_api_NeighConfig.val j8]) (.tmp (by kernel_rfl) (.cell (j := 0) (b := b2) (cd := c_api_NeighConfig) (q := j8) (by kernel_rfl) rfl Ty23 (At.whole _) .nil)) rfl)
noncomputable def weirlaw15_cache (a0 : api_NeighConfig) : M ((Option Addr) × api_NeighConfig) :=
  slot 23 >>= fun b1 =>
  slot 23 >>= fun b2 =>
  neigh_New a0 >>= fun r3 =>
  weirlaw15_num r3.2 >>= fun r4 =>
  if r4 ≠ 0 then
    neigh_New (⟨3, 2, 2, 2, 3⟩ : api_NeighConfig) >>= fun r11 =>
    weirlaw15_cache.K1 r11.1 r11.2 (⟨3, 2, 2, 2, 3⟩ : api_NeighConfig)
  else
    weirlaw15_cache.K1 r3.1 r3.2 a0
theorem weirlaw15_cache_ok (a0 : api_NeighConfig) : Ref Try.prog 13 [c_api_NeighConfig.val a0] (weirlaw15_cache a0) weirlaw15_cache.out := by
  refine Ref.of (cd := weirlaw15_cache.B) Try.func13 ?_
  show SJ weirlaw15_cache.cx [.code weirlaw15_cache.B] [(0, c_api_NeighConfig.val a0)] [] (weirlaw15_cache a0) weirlaw15_cache.F0
  unfold weirlaw15_cache
  refine SJ.sr 3 ?_
  refine OJ.slotOf (d := 1) (op := (.box 23 (.tmp 0))) (cd := c_api_NeighConfig) (u := a0) (owed := []) (box_run (by kernel_rfl)) (fun b1 => ?_)
  refine OW.nil ?_
  refine OJ.go 1 [(2, .pointer none)] ?_
  refine OJ.slotOf (d := 3) (op := (.alloc 23)) (cd := c_api_NeighConfig) (u := z_api_NeighConfig) (owed := []) (alloc_run Ty23) (fun b2 => ?_)
  refine OW.nil ?_
  refine OJ.nil ?_
  refine SJ.sr 7 ?_
  refine OJ.kld (d := 7) (y := .tmp 1) (cd := c_api_NeighConfig) (j := 1) (b := b1) (o := 0) a0 (pend2 := []) Ty23 rfl (At.whole _) rfl ?_
  refine OJ.call (d := 8) (g := 44) (ats := #[23]) (args := [.tmp 7]) (owed := []) F44 (neigh_New_ok a0) (fun r3 => ?_)
  refine OW.nil ?_
  refine OJ.go 5 [(5, .int .i64 r3.2), (4, .pointer r3.1), (10, .int .i64 r3.2), (9, .pointer r3.1), (6, .tuple #[.pointer r3.1, .int .i64 r3.2])] ?_
  refine OJ.nil ?_
  refine SJ.seq ?_
  refine SJ.sr 3 ?_
  refine OJ.go 1 [(11, .int .i64 r3.2)] ?_
  refine OJ.call (d := 12) (g := 16) (ats := #[37]) (args := [.tmp 11]) (owed := []) F16 (weirlaw15_num_ok r3.2) (fun r4 => ?_)
  refine OW.nil ?_
  refine OJ.go 1 [(13, .bool (r4 != 0))] ?_
  refine OJ.nil ?_
  refine SJ.cond (t := (.tmp 13)) (b := (r4 != 0)) bne_iff_ne (fun hc12 => ?_) (fun hc12 => ?_)
  · refine SJ.sr 2 ?_
    refine OJ.build (d := 14) (T := 23) (parts := [(0, .const (.int .i64 3)), (1, .const (.int .i64 2)), (2, .const (.int .i64 2)), (3, .const (.int .i64 2)), (4, .const (.int .i64 3))]) (ps := [(0, (cI .i64).val 3), (1, (cI .i64).val 2), (2, (cI .i64).val 2), (3, (cI .i64).val 2), (4, (cI .i64).val 3)]) (cd := c_api_NeighConfig) (z0 := z_api_NeighConfig) (⟨3, 2, 2, 2, 3⟩ : api_NeighConfig) Ty23 rfl (Filled.cons (cd := (cI .i64)) (q := 3) (o := 0) (by kernel_rfl) (Up_api_NeighConfig_Max z_api_NeighConfig 3) (Filled.cons (cd := (cI .i64)) (q := 2) (o := 1) (by kernel_rfl) (Up_api_NeighConfig_Line (⟨3, z_api_NeighConfig.Line, z_api_NeighConfig.Every, z_api_NeighConfig.Tries, z_api_NeighConfig.Fresh⟩ : api_NeighConfig) 2) (Filled.cons (cd := (cI .i64)) (q := 2) (o := 2) (by kernel_rfl) (Up_api_NeighConfig_Every (⟨3, 2, z_api_NeighConfig.Every, z_api_NeighConfig.Tries, z_api_NeighConfig.Fresh⟩ : api_NeighConfig) 2) (Filled.cons (cd := (cI .i64)) (q := 2) (o := 3) (by kernel_rfl) (Up_api_NeighConfig_Tries (⟨3, 2, 2, z_api_NeighConfig.Tries, z_api_NeighConfig.Fresh⟩ : api_NeighConfig) 2) (Filled.cons (cd := (cI .i64)) (q := 3) (o := 4) (by kernel_rfl) (Up_api_NeighConfig_Fresh (⟨3, 2, 2, 2, z_api_NeighConfig.Fresh⟩ : api_NeighConfig) 3) Filled.nil))))) ?_
    refine OJ.kst (y := .tmp 1) (z := .tmp 14) (cd := c_api_NeighConfig) (u := (⟨3, 2, 2, 2, 3⟩ : api_NeighConfig)) (j := 1) (b := b1) (o := 0) (c_api_NeighConfig.enc (⟨3, 2, 2, 2, 3⟩ : api_NeighConfig)) (owed := []) Ty23 rfl (Upd.whole ((Cod.len _ _).trans (Cod.len _ _).symm)) rfl ?_
    refine OW.nil ?_
    refine OJ.nil ?_
    refine SJ.rg 7 ?_
    refine OJ.kld (d := 16) (y := .tmp 1) (cd := c_api_NeighConfig) (j := 1) (b := b1) (o := 0) (⟨3, 2, 2, 2, 3⟩ : api_NeighConfig) (pend2 := []) Ty23 rfl (At.whole _) rfl ?_
    refine OJ.call (d := 17) (g := 44) (ats := #[23]) (args := [.tmp 16]) (owed := []) F44 (neigh_New_ok (⟨3, 2, 2, 2, 3⟩ : api_NeighConfig)) (fun r11 => ?_)
    refine OW.nil ?_
    refine OJ.go 5 [(5, .int .i64 r11.2), (4, .pointer r11.1), (19, .int .i64 r11.2), (18, .pointer r11.1), (15, .tuple #[.pointer r11.1, .int .i64 r11.2])] ?_
    refine OJ.nil ?_
    refine SJ.less [1, 3, 4, 5] (m' := [(1, .pointer (some (pt b1 0))), (3, .pointer (some (pt b2 0))), (4, .pointer r11.1), (5, .int .i64 r11.2)]) ?_
    exact weirlaw15_cache.K1_ok b1 b2 r11.1 r11.2 (⟨3, 2, 2, 2, 3⟩ : api_NeighConfig)
  · refine SJ.skip ?_
    refine SJ.less [1, 3, 4, 5] (m' := [(1, .pointer (some (pt b1 0))), (3, .pointer (some (pt b2 0))), (4, .pointer r3.1), (5, .int .i64 r3.2)]) ?_
    exact weirlaw15_cache.K1_ok b1 b2 r3.1 r3.2 a0

/-! ### weir/weirlaw15.ip: function 45 -/
noncomputable def weirlaw15_ip.B : Code := (Try.f45.body).getD .skip
noncomputable def weirlaw15_ip.cx : Fx := ⟨Try.prog, 45, Try.f45⟩
noncomputable def weirlaw15_ip.out (r_ : api_IP) : Value := c_api_IP.val r_
noncomputable def weirlaw15_ip.F0 (r_ : api_IP) : Reach := .ret (weirlaw15_ip.out r_)
noncomputable def weirlaw15_ip (a0 : Int) : M api_IP :=
  slot 32 >>= fun b1 =>
  pure (⟨4, (⟨[10, 0, 0, a0, 0, 0, 0, 0, 0, 0, 0, 0, 0, 0, 0, 0], rfl⟩ : (Vec Int 16))⟩ : api_IP)
theorem weirlaw15_ip_ok (a0 : Int) : Ref Try.prog 45 [.int .u8 a0] (weirlaw15_ip a0) weirlaw15_ip.out := by
  refine Ref.of (cd := weirlaw15_ip.B) Try.func45 ?_
  show SJ weirlaw15_ip.cx [.code weirlaw15_ip.B] [(0, .int .u8 a0)] [] (weirlaw15_ip a0) weirlaw15_ip.F0
  unfold weirlaw15_ip
  refine SJ.sr 1 ?_
  refine OJ.slotOf (d := 2) (op := (.alloc 32)) (cd := c_api_IP) (u := z_api_IP) (owed := []) (alloc_run Ty32) (fun b1 => ?_)
  refine OW.nil ?_
  refine OJ.nil ?_
  refine SJ.sr 4 ?_
  refine OJ.go 1 [(3, .int .u8 a0)] ?_
  refine OJ.build (d := 4) (T := 30) (parts := [(0, .const (.int .u8 10)), (1, .const (.int .u8 0)), (2, .const (.int .u8 0)), (3, .tmp 3)]) (ps := [(0, (cI .u8).val 10), (1, (cI .u8).val 0), (2, (cI .u8).val 0), (3, (cI .u8).val a0)]) (cd := ((cI .u8).arr 16)) (z0 := (Vec.rep 16 0)) (⟨[10, 0, 0, a0, 0, 0, 0, 0, 0, 0, 0, 0, 0, 0, 0, 0], rfl⟩ : (Vec Int 16)) Ty30 rfl (Filled.cons (cd := (cI .u8)) (q := 10) (o := 0) (by kernel_rfl) (Upd.arr (i := 0) (by decide) (by decide)) (Filled.cons (cd := (cI .u8)) (q := 0) (o := 1) (by kernel_rfl) (Upd.arr (i := 1) (by decide) (by decide)) (Filled.cons (cd := (cI .u8)) (q := 0) (o := 2) (by kernel_rfl) (Upd.arr (i := 2) (by decide) (by decide)) (Filled.cons (cd := (cI .u8)) (q := a0) (o := 3) (by kernel_rfl) (Upd.arr (i := 3) (by decide) (by decide)) Filled.nil)))) ?_
  refine OJ.build (d := 5) (T := 32) (parts := [(0, .const (.int .i64 4)), (1, .tmp 4)]) (ps := [(0, (cI .i64).val 4), (1, ((cI .u8).arr 16).val (⟨[10, 0, 0, a0, 0, 0, 0, 0, 0, 0, 0, 0, 0, 0, 0, 0], rfl⟩ : (Vec Int 16)))]) (cd := c_api_IP) (z0 := z_api_IP) (⟨4, (⟨[10, 0, 0, a0, 0, 0, 0, 0, 0, 0, 0, 0, 0, 0, 0, 0], rfl⟩ : (Vec Int 16))⟩ : api_IP) Ty32 rfl (Filled.cons (cd := (cI .i64)) (q := 4) (o := 0) (by kernel_rfl) (Up_api_IP_V z_api_IP 4) (Filled.cons (cd := ((cI .u8).arr 16)) (q := (⟨[10, 0, 0, a0, 0, 0, 0, 0, 0, 0, 0, 0, 0, 0, 0, 0], rfl⟩ : (Vec Int 16))) (o := 1) (by kernel_rfl) (Up_api_IP_A (⟨4, z_api_IP.A⟩ : api_IP) (⟨[10, 0, 0, a0, 0, 0, 0, 0, 0, 0, 0, 0, 0, 0, 0, 0], rfl⟩ : (Vec Int 16))) Filled.nil)) ?_
  refine OJ.kst (y := .tmp 2) (z := .tmp 5) (cd := c_api_IP) (u := (⟨4, (⟨[10, 0, 0, a0, 0, 0, 0, 0, 0, 0, 0, 0, 0, 0, 0, 0], rfl⟩ : (Vec Int 16))⟩ : api_IP)) (j := 0) (b := b1) (o := 0) (c_api_IP.enc (⟨4, (⟨[10, 0, 0, a0, 0, 0, 0, 0, 0, 0, 0, 0, 0, 0, 0, 0], rfl⟩ : (Vec Int 16))⟩ : api_IP)) (owed := []) Ty32 rfl (Upd.whole ((Cod.len _ _).trans (Cod.len _ _).symm)) rfl ?_
  refine OW.nil ?_
  refine OJ.nil ?_
  exact SJ.ret rfl (Res.run (ys := [c_api_IP.val (⟨4, (⟨[10, 0, 0, a0, 0, 0, 0, 0, 0, 0, 0, 0, 0, 0, 0, 0], rfl⟩ : (Vec Int 16))⟩ : api_IP)]) (.cell (j := 0) (b := b1) (cd := c_api_IP) (q := (⟨4, (⟨[10, 0, 0, a0, 0, 0, 0, 0, 0, 0, 0, 0, 0, 0, 0, 0], rfl⟩ : (Vec Int 16))⟩ : api_IP)) (by kernel_rfl) rfl Ty32 (At.whole _) .nil) rfl)

/-! ### weir/neigh.place: function 46 -/
noncomputable def neigh_place.B : Code := (Try.f46.body).getD .skip
noncomputable def neigh_place.cx : Fx := ⟨Try.prog, 46, Try.f46⟩
noncomputable def neigh_place.out (r_ : Bool) : Value := .bool r_
noncomputable def neigh_place.F0 (r_ : Bool) : Reach := .ret (neigh_place.out r_)
noncomputable def neigh_place (a0 : Int) (a1 : api_IP) : M Bool :=
  newv 32 c_api_IP a1 >>= fun b1 =>
  (if a0 < 0 then
      pure true
    else
      pure (decide (a0 ≥ 8))) >>= fun y2 =>
  if y2 = true then
    pure false
  else
    newv 30 ((cI .u8).arr 16) (Vec.rep 16 0) >>= fun b3 =>
    draw >>= fun _ =>
    cut 1 ⟨some (pt b3 0), 16, 16⟩ none (some 4) none >>= fun r4 =>
    cut 1 ⟨some (Addr.add (pt b1 0) 1), 16, 16⟩ none (some 4) none >>= fun r5 =>
    cpyS (cI .u8) r4 r5 >>= fun r6 =>
    ld (cI .i64) (pt b1 0) >>= fun x7 =>
    (if x7 = 6 then
        pure true
      else
        ld (cI .i64) (pt b1 0) >>= fun x8 =>
        (if x8 = 4 then
            ld ((cI .u8).arr 16) (Addr.add (pt b1 0) 1) >>= fun x9 =>
            ld ((cI .u8).arr 16) (pt b3 0) >>= fun x10 =>
            pure (eqv x9 x10)
          else
            pure false) >>= fun y11 =>
        pure y11) >>= fun y12 =>
    pure y12
theorem neigh_place_ok (a0 : Int) (a1 : api_IP) : Ref Try.prog 46 [.int .i64 a0, c_api_IP.val a1] (neigh_place a0 a1) neigh_place.out := by
  refine Ref.of (cd := neigh_place.B) Try.func46 ?_
  show SJ neigh_place.cx [.code neigh_place.B] [(0, .int .i64 a0), (1, c_api_IP.val a1)] [] (neigh_place a0 a1) neigh_place.F0
  unfold neigh_place
  refine SJ.sr 2 ?_
  refine OJ.newOf (d := 3) (op := (.box 32 (.tmp 1))) (cd := c_api_IP) (u := a1) (owed := []) (box_run (by kernel_rfl)) (fun b1 => ?_)
  refine OW.nil ?_
  refine OJ.go 1 [(4, .bool false)] ?_
  refine OJ.nil ?_
  refine SJ.seq ?_
  refine SJ.sr 6 ?_
  refine OJ.go 3 [(8, .bool (decide (a0 < 0))), (7, .bool (decide (a0 < 0))), (6, .int .i64 a0)] ?_
  refine OJ.join (b := decide (a0 < 0)) [3, 4, 5] [] [3, 11] (fun y2 => [(3, .pointer (some (pt b1 0))), (11, .bool y2)]) [] [] (t := 8) decide_eq_true_iff (fun hp_ => ?_) (fun hp_ => ?_) (fun _ _ _ _ _ _ h_ => h_) (fun y2 => ?_)
  · refine OJ.go 3 [(11, .bool true), (10, undef), (9, undef)] ?_
    exact OJ.nil ⟨(Cov.mem Cov.nil), rfl, _, rfl, by kernel_rfl⟩
  · refine OJ.go 3 [(11, .bool (decide (a0 ≥ 8))), (10, .bool (decide (a0 ≥ 8))), (9, .int .i64 a0)] ?_
    exact OJ.nil ⟨(Cov.mem Cov.nil), rfl, _, rfl, by kernel_rfl⟩
  · refine OJ.nil ?_
    refine SJ.cond (t := (.tmp 11)) (b := y2) Iff.rfl (fun hc13 => ?_) (fun hc13 => ?_)
    · refine SJ.sr 1 ?_
      refine OJ.go 1 [(4, .bool false)] ?_
      refine OJ.nil ?_
      exact SJ.ret rfl (Res.run (ys := [.bool false]) (.tmp (by kernel_rfl) .nil) rfl)
    · refine SJ.skip ?_
      refine SJ.sr 1 ?_
      refine OJ.newOf (d := 5) (op := (.alloc 30)) (cd := ((cI .u8).arr 16)) (u := (Vec.rep 16 0)) (owed := []) (alloc_run Ty30) (fun b3 => ?_)
      refine OW.nil ?_
      refine OJ.nil ?_
      refine SJ.seq ?_
      refine SJ.draw (id := 4) (kd := [0, 0, 0, 2]) (bef := [0, 0, 2, 7]) (ord := [0, 1, 2, 3]) mixed ?_
      refine OJ.cutA (d := 12) (t := 30) (E := 5) (y := .tmp 5) (lo := none) (hi := (some (.const (.int .i64 4)))) (mx := none) (lo' := none) (hi' := some (.i64, 4)) (mx' := none) (fun h => by cases h) (fun r4 => ?_)
      refine OJ.go 1 [(13, .pointer (some (Addr.add (pt b1 0) 1)))] ?_
      refine OJ.cutA (d := 14) (t := 30) (E := 5) (y := .tmp 13) (lo := none) (hi := (some (.const (.int .i64 4)))) (mx := none) (lo' := none) (hi' := some (.i64, 4)) (mx' := none) (fun h => by cases h) (fun r5 => ?_)
      refine OJ.cpy1 (n := 15) (t := 121) (u := 121) (so := .tmp 12) (xo := .tmp 14) (owed := []) Ty5 (fun r6 => ?_)
      refine OW.nil ?_
      refine OJ.nil ?_
      refine SJ.sr 15 ?_
      refine OJ.go 1 [(16, .pointer (some (pt b1 0)))] ?_
      refine OJ.ld (d := 17) (y := .tmp 16) (pend2 := fun x7 => []) Ty3 (fun _ => rfl) (fun x7 => ?_)
      refine OJ.go 2 [(19, .bool (x7 == 6)), (18, .bool (x7 == 6))] ?_
      refine OJ.join (b := (x7 == 6)) [4, 5, 6, 7, 8, 9, 10, 11, 12, 13] [14] [29] (fun y12 => [(29, .bool y12)]) [] [] (t := 19) beq_iff_eq (fun hp_ => ?_) (fun hp_ => ?_) (fun _ _ _ _ _ _ h_ => h_) (fun y12 => ?_)
      · refine OJ.go 10 [(29, .bool true), (28, undef), (27, undef), (26, undef), (25, undef), (24, undef), (23, undef), (22, undef), (21, undef), (20, undef)] ?_
        exact OJ.nil ⟨(Cov.mem Cov.nil), rfl, _, rfl, by kernel_rfl⟩
      · refine OJ.go 1 [(20, .pointer (some (pt b1 0)))] ?_
        refine OJ.ld (d := 21) (y := .tmp 20) (pend2 := fun x8 => []) Ty3 (fun _ => rfl) (fun x8 => ?_)
        refine OJ.go 2 [(23, .bool (x8 == 4)), (22, .bool (x8 == 4))] ?_
        refine OJ.join (b := (x8 == 4)) [8, 9, 10, 11, 12] [13] [19, 28] (fun y11 => [(19, .bool false), (28, .bool y11)]) [] [] (t := 23) beq_iff_eq (fun hp_ => ?_) (fun hp_ => ?_) (fun _ _ _ _ _ hq_ h_ => ⟨fun e_ he_ => (hq_ e_ he_).elim (fun h => h_.1 e_ h) (fun h => nomatch h), h_.2⟩) (fun y11 => ?_)
        · refine OJ.go 1 [(24, .pointer (some (Addr.add (pt b1 0) 1)))] ?_
          refine OJ.ld (d := 25) (y := .tmp 24) (pend2 := fun x9 => []) Ty30 (fun _ => rfl) (fun x9 => ?_)
          refine OJ.ld (d := 26) (y := .tmp 5) (pend2 := fun x10 => []) Ty30 (fun _ => rfl) (fun x10 => ?_)
          refine OJ.eql (d := 27) (T := 30) (yT := 30) (y := .tmp 25) (z := .tmp 26) (cd := ((cI .u8).arr 16)) (p := x9) (q := x10) rfl Eq30 ?_
          refine OJ.go 1 [(28, .bool (eqv x9 x10))] ?_
          exact OJ.nil ⟨(Cov.mem Cov.nil), rfl, _, rfl, by kernel_rfl⟩
        · refine OJ.go 5 [(28, .bool false), (27, undef), (26, undef), (25, undef), (24, undef)] ?_
          exact OJ.nil ⟨(Cov.mem Cov.nil), rfl, _, rfl, by kernel_rfl⟩
        · refine OJ.go 1 [(29, .bool y11)] ?_
          exact OJ.nil ⟨(Cov.mem Cov.nil), rfl, _, rfl, by kernel_rfl⟩
      · refine OJ.go 1 [(4, .bool y12)] ?_
        refine OJ.nil ?_
        exact SJ.ret rfl (Res.run (ys := [.bool y12]) (.tmp (by kernel_rfl) .nil) rfl)

/-! ### math/bits.Len32: function 86 -/
noncomputable def bits_Len32.B : Code := (Try.f86.body).getD .skip
noncomputable def bits_Len32.cx : Fx := ⟨Try.prog, 86, Try.f86⟩
noncomputable def bits_Len32.out (r_ : Int) : Value := .int .i64 r_
noncomputable def bits_Len32.F0 (r_ : Int) : Reach := .ret (bits_Len32.out r_)
noncomputable def bits_Len32.K1 (j1 : Int) (j2 : Int) : M Int :=
  if j1 ≥ 256 then
    chk (0 ≤ (IntKind.wrap .u8 (Int.fdiv j1 (2 ^ 8))) ∧ (IntKind.wrap .u8 (Int.fdiv j1 (2 ^ 8))) < (str0.size : Int)) >>= fun _ =>
    pure (IntKind.wrap .i64 ((IntKind.wrap .i64 (j2 + 8)) + (IntKind.wrap .i64 (sb str0 (IntKind.wrap .u8 (Int.fdiv j1 (2 ^ 8)))))))
  else
    chk (0 ≤ (IntKind.wrap .u8 j1) ∧ (IntKind.wrap .u8 j1) < (str0.size : Int)) >>= fun _ =>
    pure (IntKind.wrap .i64 (j2 + (IntKind.wrap .i64 (sb str0 (IntKind.wrap .u8 j1)))))
theorem bits_Len32.K1_ok (j1 : Int) (j2 : Int) :
    SJ bits_Len32.cx [.code (c2 (c2 bits_Len32.B))] [(0, .int .u32 j1), (2, .int .i64 j2)] [] (bits_Len32.K1 j1 j2) bits_Len32.F0 := by
  unfold bits_Len32.K1
  refine SJ.seq ?_
  refine SJ.sr 2 ?_
  refine OJ.go 2 [(8, .bool (decide (j1 ≥ 256))), (7, .int .u32 j1)] ?_
  refine OJ.nil ?_
  refine SJ.cond (t := (.tmp 8)) (b := decide (j1 ≥ 256)) decide_eq_true_iff (fun hc7 => ?_) (fun hc7 => ?_)
  · refine SJ.sr 3 ?_
    refine OJ.go 3 [(0, .int .u32 (Int.fdiv j1 (2 ^ 8))), (10, .int .u32 (Int.fdiv j1 (2 ^ 8))), (9, .int .u32 j1)] ?_
    refine OJ.nil ?_
    refine SJ.rg 3 ?_
    refine OJ.go 3 [(2, .int .i64 (IntKind.wrap .i64 (j2 + 8))), (12, .int .i64 (IntKind.wrap .i64 (j2 + 8))), (11, .int .i64 j2)] ?_
    refine OJ.nil ?_
    refine SJ.sr 7 ?_
    refine OJ.go 3 [(15, .int .u8 (IntKind.wrap .u8 (Int.fdiv j1 (2 ^ 8)))), (14, .int .u32 (Int.fdiv j1 (2 ^ 8))), (13, .int .i64 (IntKind.wrap .i64 (j2 + 8)))] ?_
    refine OJ.idxT (d := 16) (T := 9) (y := .const (.string str0)) (j := .tmp 15) (k := .u8) (fun hb3 hb4 => ?_)
    refine OJ.go 3 [(2, .int .i64 (IntKind.wrap .i64 ((IntKind.wrap .i64 (j2 + 8)) + (IntKind.wrap .i64 (sb str0 (IntKind.wrap .u8 (Int.fdiv j1 (2 ^ 8)))))))), (18, .int .i64 (IntKind.wrap .i64 ((IntKind.wrap .i64 (j2 + 8)) + (IntKind.wrap .i64 (sb str0 (IntKind.wrap .u8 (Int.fdiv j1 (2 ^ 8)))))))), (17, .int .i64 (IntKind.wrap .i64 (sb str0 (IntKind.wrap .u8 (Int.fdiv j1 (2 ^ 8))))))] ?_
    refine OJ.nil ?_
    exact SJ.ret rfl (Res.run (ys := [.int .i64 (IntKind.wrap .i64 ((IntKind.wrap .i64 (j2 + 8)) + (IntKind.wrap .i64 (sb str0 (IntKind.wrap .u8 (Int.fdiv j1 (2 ^ 8)))))))]) (.tmp (by kernel_rfl) .nil) rfl)
  · refine SJ.skip ?_
    refine SJ.sr 7 ?_
    refine OJ.go 3 [(15, .int .u8 (IntKind.wrap .u8 j1)), (14, .int .u32 j1), (13, .int .i64 j2)] ?_
    refine OJ.idxT (d := 16) (T := 9) (y := .const (.string str0)) (j := .tmp 15) (k := .u8) (fun hb5 hb6 => ?_)
    refine OJ.go 3 [(2, .int .i64 (IntKind.wrap .i64 (j2 + (IntKind.wrap .i64 (sb str0 (IntKind.wrap .u8 j1)))))), (18, .int .i64 (IntKind.wrap .i64 (j2 + (IntKind.wrap .i64 (sb str0 (IntKind.wrap .u8 j1)))))), (17, .int .i64 (IntKind.wrap .i64 (sb str0 (IntKind.wrap .u8 j1))))] ?_
    refine OJ.nil ?_
    exact SJ.ret rfl (Res.run (ys := [.int .i64 (IntKind.wrap .i64 (j2 + (IntKind.wrap .i64 (sb str0 (IntKind.wrap .u8 j1)))))]) (.tmp (by kernel_rfl) .nil) rfl)
noncomputable def bits_Len32 (a0 : Int) : M Int :=
  if a0 ≥ 65536 then
    bits_Len32.K1 (Int.fdiv a0 (2 ^ 16)) 16
  else
    bits_Len32.K1 a0 0
theorem bits_Len32_ok (a0 : Int) : Ref Try.prog 86 [.int .u32 a0] (bits_Len32 a0) bits_Len32.out := by
  refine Ref.of (cd := bits_Len32.B) Try.func86 ?_
  show SJ bits_Len32.cx [.code bits_Len32.B] [(0, .int .u32 a0)] [] (bits_Len32 a0) bits_Len32.F0
  unfold bits_Len32
  refine SJ.sr 1 ?_
  refine OJ.go 1 [(2, .int .i64 0)] ?_
  refine OJ.nil ?_
  refine SJ.seq ?_
  refine SJ.sr 2 ?_
  refine OJ.go 2 [(4, .bool (decide (a0 ≥ 65536))), (3, .int .u32 a0)] ?_
  refine OJ.nil ?_
  refine SJ.cond (t := (.tmp 4)) (b := decide (a0 ≥ 65536)) decide_eq_true_iff (fun hc8 => ?_) (fun hc8 => ?_)
  · refine SJ.sr 3 ?_
    refine OJ.go 3 [(0, .int .u32 (Int.fdiv a0 (2 ^ 16))), (6, .int .u32 (Int.fdiv a0 (2 ^ 16))), (5, .int .u32 a0)] ?_
    refine OJ.nil ?_
    refine SJ.rg 1 ?_
    refine OJ.go 1 [(2, .int .i64 16)] ?_
    refine OJ.nil ?_
    refine SJ.less [0, 2] (m' := [(0, .int .u32 (Int.fdiv a0 (2 ^ 16))), (2, .int .i64 16)]) ?_
    exact bits_Len32.K1_ok (Int.fdiv a0 (2 ^ 16)) 16
  · refine SJ.skip ?_
    refine SJ.less [0, 2] (m' := [(0, .int .u32 a0), (2, .int .i64 0)]) ?_
    exact bits_Len32.K1_ok a0 0

/-! ### math/bits.Len64: function 87 -/
noncomputable def bits_Len64.B : Code := (Try.f87.body).getD .skip
noncomputable def bits_Len64.cx : Fx := ⟨Try.prog, 87, Try.f87⟩
noncomputable def bits_Len64.out (r_ : Int) : Value := .int .i64 r_
noncomputable def bits_Len64.F0 (r_ : Int) : Reach := .ret (bits_Len64.out r_)
noncomputable def bits_Len64.K1 (j3 : Int) (j4 : Int) : M Int :=
  if j3 ≥ 256 then
    chk (0 ≤ (IntKind.wrap .u8 (Int.fdiv j3 (2 ^ 8))) ∧ (IntKind.wrap .u8 (Int.fdiv j3 (2 ^ 8))) < (str0.size : Int)) >>= fun _ =>
    pure (IntKind.wrap .i64 ((IntKind.wrap .i64 (j4 + 8)) + (IntKind.wrap .i64 (sb str0 (IntKind.wrap .u8 (Int.fdiv j3 (2 ^ 8)))))))
  else
    chk (0 ≤ (IntKind.wrap .u8 j3) ∧ (IntKind.wrap .u8 j3) < (str0.size : Int)) >>= fun _ =>
    pure (IntKind.wrap .i64 (j4 + (IntKind.wrap .i64 (sb str0 (IntKind.wrap .u8 j3)))))
theorem bits_Len64.K1_ok (j3 : Int) (j4 : Int) :
    SJ bits_Len64.cx [.code (c2 (c2 (c2 bits_Len64.B)))] [(0, .int .u64 j3), (2, .int .i64 j4)] [] (bits_Len64.K1 j3 j4) bits_Len64.F0 := by
  unfold bits_Len64.K1
  refine SJ.seq ?_
  refine SJ.sr 2 ?_
  refine OJ.go 2 [(14, .bool (decide (j3 ≥ 256))), (13, .int .u64 j3)] ?_
  refine OJ.nil ?_
  refine SJ.cond (t := (.tmp 14)) (b := decide (j3 ≥ 256)) decide_eq_true_iff (fun hc9 => ?_) (fun hc9 => ?_)
  · refine SJ.sr 3 ?_
    refine OJ.go 3 [(0, .int .u64 (Int.fdiv j3 (2 ^ 8))), (16, .int .u64 (Int.fdiv j3 (2 ^ 8))), (15, .int .u64 j3)] ?_
    refine OJ.nil ?_
    refine SJ.rg 3 ?_
    refine OJ.go 3 [(2, .int .i64 (IntKind.wrap .i64 (j4 + 8))), (18, .int .i64 (IntKind.wrap .i64 (j4 + 8))), (17, .int .i64 j4)] ?_
    refine OJ.nil ?_
    refine SJ.sr 7 ?_
    refine OJ.go 3 [(21, .int .u8 (IntKind.wrap .u8 (Int.fdiv j3 (2 ^ 8)))), (20, .int .u64 (Int.fdiv j3 (2 ^ 8))), (19, .int .i64 (IntKind.wrap .i64 (j4 + 8)))] ?_
    refine OJ.idxT (d := 22) (T := 9) (y := .const (.string str0)) (j := .tmp 21) (k := .u8) (fun hb5 hb6 => ?_)
    refine OJ.go 3 [(2, .int .i64 (IntKind.wrap .i64 ((IntKind.wrap .i64 (j4 + 8)) + (IntKind.wrap .i64 (sb str0 (IntKind.wrap .u8 (Int.fdiv j3 (2 ^ 8)))))))), (24, .int .i64 (IntKind.wrap .i64 ((IntKind.wrap .i64 (j4 + 8)) + (IntKind.wrap .i64 (sb str0 (IntKind.wrap .u8 (Int.fdiv j3 (2 ^ 8)))))))), (23, .int .i64 (IntKind.wrap .i64 (sb str0 (IntKind.wrap .u8 (Int.fdiv j3 (2 ^ 8))))))] ?_
    refine OJ.nil ?_
    exact SJ.ret rfl (Res.run (ys := [.int .i64 (IntKind.wrap .i64 ((IntKind.wrap .i64 (j4 + 8)) + (IntKind.wrap .i64 (sb str0 (IntKind.wrap .u8 (Int.fdiv j3 (2 ^ 8)))))))]) (.tmp (by kernel_rfl) .nil) rfl)
  · refine SJ.skip ?_
    refine SJ.sr 7 ?_
    refine OJ.go 3 [(21, .int .u8 (IntKind.wrap .u8 j3)), (20, .int .u64 j3), (19, .int .i64 j4)] ?_
    refine OJ.idxT (d := 22) (T := 9) (y := .const (.string str0)) (j := .tmp 21) (k := .u8) (fun hb7 hb8 => ?_)
    refine OJ.go 3 [(2, .int .i64 (IntKind.wrap .i64 (j4 + (IntKind.wrap .i64 (sb str0 (IntKind.wrap .u8 j3)))))), (24, .int .i64 (IntKind.wrap .i64 (j4 + (IntKind.wrap .i64 (sb str0 (IntKind.wrap .u8 j3)))))), (23, .int .i64 (IntKind.wrap .i64 (sb str0 (IntKind.wrap .u8 j3))))] ?_
    refine OJ.nil ?_
    exact SJ.ret rfl (Res.run (ys := [.int .i64 (IntKind.wrap .i64 (j4 + (IntKind.wrap .i64 (sb str0 (IntKind.wrap .u8 j3)))))]) (.tmp (by kernel_rfl) .nil) rfl)
noncomputable def bits_Len64.K2 (j1 : Int) (j2 : Int) : M Int :=
  if j1 ≥ 65536 then
    bits_Len64.K1 (Int.fdiv j1 (2 ^ 16)) (IntKind.wrap .i64 (j2 + 16))
  else
    bits_Len64.K1 j1 j2
theorem bits_Len64.K2_ok (j1 : Int) (j2 : Int) :
    SJ bits_Len64.cx [.code (c2 (c2 bits_Len64.B))] [(0, .int .u64 j1), (2, .int .i64 j2)] [] (bits_Len64.K2 j1 j2) bits_Len64.F0 := by
  unfold bits_Len64.K2
  refine SJ.seq ?_
  refine SJ.sr 2 ?_
  refine OJ.go 2 [(8, .bool (decide (j1 ≥ 65536))), (7, .int .u64 j1)] ?_
  refine OJ.nil ?_
  refine SJ.cond (t := (.tmp 8)) (b := decide (j1 ≥ 65536)) decide_eq_true_iff (fun hc10 => ?_) (fun hc10 => ?_)
  · refine SJ.sr 3 ?_
    refine OJ.go 3 [(0, .int .u64 (Int.fdiv j1 (2 ^ 16))), (10, .int .u64 (Int.fdiv j1 (2 ^ 16))), (9, .int .u64 j1)] ?_
    refine OJ.nil ?_
    refine SJ.rg 3 ?_
    refine OJ.go 3 [(2, .int .i64 (IntKind.wrap .i64 (j2 + 16))), (12, .int .i64 (IntKind.wrap .i64 (j2 + 16))), (11, .int .i64 j2)] ?_
    refine OJ.nil ?_
    refine SJ.less [0, 2] (m' := [(0, .int .u64 (Int.fdiv j1 (2 ^ 16))), (2, .int .i64 (IntKind.wrap .i64 (j2 + 16)))]) ?_
    exact bits_Len64.K1_ok (Int.fdiv j1 (2 ^ 16)) (IntKind.wrap .i64 (j2 + 16))
  · refine SJ.skip ?_
    refine SJ.less [0, 2] (m' := [(0, .int .u64 j1), (2, .int .i64 j2)]) ?_
    exact bits_Len64.K1_ok j1 j2
noncomputable def bits_Len64 (a0 : Int) : M Int :=
  if a0 ≥ 4294967296 then
    bits_Len64.K2 (Int.fdiv a0 (2 ^ 32)) 32
  else
    bits_Len64.K2 a0 0
theorem bits_Len64_ok (a0 : Int) : Ref Try.prog 87 [.int .u64 a0] (bits_Len64 a0) bits_Len64.out := by
  refine Ref.of (cd := bits_Len64.B) Try.func87 ?_
  show SJ bits_Len64.cx [.code bits_Len64.B] [(0, .int .u64 a0)] [] (bits_Len64 a0) bits_Len64.F0
  unfold bits_Len64
  refine SJ.sr 1 ?_
  refine OJ.go 1 [(2, .int .i64 0)] ?_
  refine OJ.nil ?_
  refine SJ.seq ?_
  refine SJ.sr 2 ?_
  refine OJ.go 2 [(4, .bool (decide (a0 ≥ 4294967296))), (3, .int .u64 a0)] ?_
  refine OJ.nil ?_
  refine SJ.cond (t := (.tmp 4)) (b := decide (a0 ≥ 4294967296)) decide_eq_true_iff (fun hc11 => ?_) (fun hc11 => ?_)
  · refine SJ.sr 3 ?_
    refine OJ.go 3 [(0, .int .u64 (Int.fdiv a0 (2 ^ 32))), (6, .int .u64 (Int.fdiv a0 (2 ^ 32))), (5, .int .u64 a0)] ?_
    refine OJ.nil ?_
    refine SJ.rg 1 ?_
    refine OJ.go 1 [(2, .int .i64 32)] ?_
    refine OJ.nil ?_
    refine SJ.less [0, 2] (m' := [(0, .int .u64 (Int.fdiv a0 (2 ^ 32))), (2, .int .i64 32)]) ?_
    exact bits_Len64.K2_ok (Int.fdiv a0 (2 ^ 32)) 32
  · refine SJ.skip ?_
    refine SJ.less [0, 2] (m' := [(0, .int .u64 a0), (2, .int .i64 0)]) ?_
    exact bits_Len64.K2_ok a0 0

/-! ### math/bits.Len: function 70 -/
noncomputable def bits_Len.B : Code := (Try.f70.body).getD .skip
noncomputable def bits_Len.cx : Fx := ⟨Try.prog, 70, Try.f70⟩
noncomputable def bits_Len.out (r_ : Int) : Value := .int .i64 r_
noncomputable def bits_Len.F0 (r_ : Int) : Reach := .ret (bits_Len.out r_)
noncomputable def bits_Len (a0 : Int) : M Int :=
  bits_Len64 a0 >>= fun r1 =>
  pure r1
theorem bits_Len_ok (a0 : Int) : Ref Try.prog 70 [.int .u64 a0] (bits_Len a0) bits_Len.out := by
  refine Ref.of (cd := bits_Len.B) Try.func70 ?_
  show SJ bits_Len.cx [.code bits_Len.B] [(0, .int .u64 a0)] [] (bits_Len a0) bits_Len.F0
  unfold bits_Len
  refine SJ.sr 1 ?_
  refine OJ.go 1 [(2, .int .i64 0)] ?_
  refine OJ.nil ?_
  refine SJ.seq ?_
  refine SJ.cond0 (t := (.const (.bool false))) ?_
  refine SJ.skip ?_
  refine SJ.sr 3 ?_
  refine OJ.go 1 [(6, .int .u64 a0)] ?_
  refine OJ.call (d := 7) (g := 87) (ats := #[159]) (args := [.tmp 6]) (owed := []) F87 (bits_Len64_ok a0) (fun r1 => ?_)
  refine OW.nil ?_
  refine OJ.go 1 [(2, .int .i64 r1)] ?_
  refine OJ.nil ?_
  exact SJ.ret rfl (Res.run (ys := [.int .i64 r1]) (.tmp (by kernel_rfl) .nil) rfl)

/-! ### slices.insertionSortCmpFunc[*weir/neigh.entry]: function 78 -/
noncomputable def slices_insertionSortCmpFunc_neigh_entry.B : Code := (Try.f78.body).getD .skip
noncomputable def slices_insertionSortCmpFunc_neigh_entry.cx : Fx := ⟨Try.prog, 78, Try.f78⟩
noncomputable def slices_insertionSortCmpFunc_neigh_entry.out (r_ : Unit) : Value := .tuple #[]
noncomputable def slices_insertionSortCmpFunc_neigh_entry.F0 (r_ : Unit) : Reach := .ret (slices_insertionSortCmpFunc_neigh_entry.out r_)
noncomputable def slices_insertionSortCmpFunc_neigh_entry.F1 (a0 : Sl) (a1 : Int) (a2 : Int) (a3v : Any) : (LS Int Unit) → Reach := loopF [.inLoop (c1 (c1 (c2 slices_insertionSortCmpFunc_neigh_entry.B))), .inBlock 0] (fun s_ : Int => [(0, Sl.v a0), (1, .int .i64 a1), (2, .int .i64 a2), (3, a3v.v), (8, .int .i64 s_)]) (fun s_ : Int => []) slices_insertionSortCmpFunc_neigh_entry.F0
noncomputable def slices_insertionSortCmpFunc_neigh_entry.F2 (a0 : Sl) (a1 : Int) (a2 : Int) (a3v : Any) (s1 : Int) : (LS Int (LS Int Unit)) → Reach := loopF [.inLoop (c1 (c1 (c2 (c1 (c1 (c2 (c1 (c1 (c2 slices_insertionSortCmpFunc_neigh_entry.B))))))))), .inBlock 2, .inBlock 1, .code (c2 (c2 (c1 (c1 (c2 slices_insertionSortCmpFunc_neigh_entry.B))))), .inLoop (c1 (c1 (c2 slices_insertionSortCmpFunc_neigh_entry.B))), .inBlock 0] (fun s_ : Int => [(0, Sl.v a0), (1, .int .i64 a1), (2, .int .i64 a2), (3, a3v.v), (8, .int .i64 s1), (9, .int .i64 s_)]) (fun s_ : Int => []) (slices_insertionSortCmpFunc_neigh_entry.F1 a0 a1 a2 a3v)
noncomputable def slices_insertionSortCmpFunc_neigh_entry.L2 (a0 : Sl) (a1 : Int) (a3 : (Option Addr) → (Option Addr) → M Int) (s1 : Int) (s2 : Int) : M (LS Int (LS Int Unit)) :=
  draw >>= fun _ =>
  (if s2 > a1 then
      idx a0.a a0.len s2 1 >>= fun p16 =>
      ld cP p16 >>= fun x17 =>
      idx a0.a a0.len (IntKind.wrap .i64 (s2 - 1)) 1 >>= fun p18 =>
      ld cP p18 >>= fun x19 =>
      a3 x17 x19 >>= fun r20 =>
      pure (decide (r20 < 0))
    else
      pure false) >>= fun y21 =>
  if y21 = true then
    draw >>= fun _ =>
    idx a0.a a0.len (IntKind.wrap .i64 (s2 - 1)) 1 >>= fun p22 =>
    ld cP p22 >>= fun x23 =>
    idx a0.a a0.len s2 1 >>= fun p24 =>
    ld cP p24 >>= fun x25 =>
    idx a0.a a0.len s2 1 >>= fun p26 =>
    st cP p26 x23 >>= fun _ =>
    idx a0.a a0.len (IntKind.wrap .i64 (s2 - 1)) 1 >>= fun p27 =>
    st cP p27 x25 >>= fun _ =>
    pure (LS.next (IntKind.wrap .i64 (s2 - 1)))
  else
    pure (LS.done (LS.next (IntKind.wrap .i64 (s1 + 1))))
theorem slices_insertionSortCmpFunc_neigh_entry.L2_ok (a0 : Sl) (a1 : Int) (a2 : Int) (a3v : Any) (a3 : (Option Addr) → (Option Addr) → M Int) (h_a3 : ∀ (x0_ : (Option Addr)), ∀ (x1_ : (Option Addr)), RefV Try.prog a3v.v [.pointer x0_, .pointer x1_] (a3 x0_ x1_) (fun r_ : Int => .int .i64 r_)) (s1 : Int) (s2 : Int) :
    SJ slices_insertionSortCmpFunc_neigh_entry.cx [.code (c1 (c1 (c2 (c1 (c1 (c2 (c1 (c1 (c2 slices_insertionSortCmpFunc_neigh_entry.B))))))))), .inLoop (c1 (c1 (c2 (c1 (c1 (c2 (c1 (c1 (c2 slices_insertionSortCmpFunc_neigh_entry.B))))))))), .inBlock 2, .inBlock 1, .code (c2 (c2 (c1 (c1 (c2 slices_insertionSortCmpFunc_neigh_entry.B))))), .inLoop (c1 (c1 (c2 slices_insertionSortCmpFunc_neigh_entry.B))), .inBlock 0] [(0, Sl.v a0), (1, .int .i64 a1), (2, .int .i64 a2), (3, a3v.v), (8, .int .i64 s1), (9, .int .i64 s2)] [] (slices_insertionSortCmpFunc_neigh_entry.L2 a0 a1 a3 s1 s2) (slices_insertionSortCmpFunc_neigh_entry.F2 a0 a1 a2 a3v s1) := by
  unfold slices_insertionSortCmpFunc_neigh_entry.L2
  refine SJ.seq ?_
  refine SJ.seq ?_
  refine SJ.draw (id := 4) (kd := [0, 0, 0, 0, 0, 0, 0, 0, 1, 0, 0, 0, 0, 1, 2, 0, 0]) (bef := [0, 0, 3, 7, 15, 15, 15, 111, 239, 15, 15, 1039, 3599, 7695, 16383, 32767, 65535]) (ord := [0, 1, 2, 3, 4, 5, 6, 7, 8, 9, 10, 11, 12, 13, 14, 15, 16]) mixed ?_
  refine OJ.go 4 [(21, .bool (decide (s2 > a1))), (20, .bool (decide (s2 > a1))), (19, .int .i64 a1), (18, .int .i64 s2)] ?_
  refine OJ.join (b := decide (s2 > a1)) [4, 5, 6, 7, 8, 9, 10, 11, 12, 13, 14, 15, 16] [] [0, 1, 2, 3, 8, 9, 34] (fun y21 => [(0, Sl.v a0), (1, .int .i64 a1), (2, .int .i64 a2), (3, a3v.v), (8, .int .i64 s1), (9, .int .i64 s2), (34, .bool y21)]) [] [8, 13] (t := 21) decide_eq_true_iff (fun hp_ => ?_) (fun hp_ => ?_) (fun _ _ _ _ _ _ h_ => h_) (fun y21 => ?_)
  · refine OJ.go 3 [(24, .int .i64 s2), (23, Sl.v a0), (22, a3v.v)] ?_
    refine OJ.idxS (d := 25) (T := 108) (y := .tmp 23) (j := .tmp 24) (E := 100) (cap := a0.cap) (k := .i64) (fun p16 => ?_)
    refine OJ.ld (d := 26) (y := .tmp 25) (pend2 := fun x17 => [⟨8, 100, p16, cP.val x17⟩]) Ty100 (fun _ => rfl) (fun x17 => ?_)
    refine OJ.go 3 [(29, .int .i64 (IntKind.wrap .i64 (s2 - 1))), (28, .int .i64 s2), (27, Sl.v a0)] ?_
    refine OJ.idxS (d := 30) (T := 108) (y := .tmp 27) (j := .tmp 29) (E := 100) (cap := a0.cap) (k := .i64) (fun p18 => ?_)
    refine OJ.ld (d := 31) (y := .tmp 30) (pend2 := fun x19 => [⟨13, 100, p18, cP.val x19⟩, ⟨8, 100, p16, cP.val x17⟩]) Ty100 (fun _ => rfl) (fun x19 => ?_)
    refine OJ.callV1 (d := 32) (ats := #[100, 100]) (args := [.tmp 26, .tmp 31]) (fo := .tmp 22) (vals := [.pointer x17, .pointer x19]) (owed := []) (h_a3 x17 x19) (fun r20 => ?_)
    refine OW.nil ?_
    refine OJ.go 2 [(34, .bool (decide (r20 < 0))), (33, .bool (decide (r20 < 0)))] ?_
    exact OJ.nil ⟨(Cov.mem (Cov.drop (List.mem_of_getElem? (i := 1) rfl) (Cov.drop (List.mem_of_getElem? (i := 0) rfl) Cov.nil))), rfl, _, rfl, by kernel_rfl⟩
  · refine OJ.go 13 [(34, .bool false), (33, undef), (32, undef), (31, undef), (30, undef), (29, undef), (28, undef), (27, undef), (26, undef), (25, undef), (24, undef), (23, undef), (22, undef)] ?_
    exact OJ.nil ⟨(Cov.mem Cov.nil), rfl, _, rfl, by kernel_rfl⟩
  · refine OJ.nil ?_
    refine SJ.cond (t := (.tmp 34)) (b := y21) Iff.rfl (fun hc28 => ?_) (fun hc28 => ?_)
    · refine SJ.skip ?_
      refine SJ.seq ?_
      refine SJ.block (id := 3) ?_
      refine SJ.draw (id := 6) (kd := [0, 0, 0, 0, 0, 0, 0, 0, 0, 1, 0, 0, 0, 1, 0, 2, 0, 2]) (bef := [0, 0, 0, 0, 8, 0, 0, 64, 224, 480, 0, 0, 3072, 7168, 16355, 32739, 65535, 131071]) (ord := [0, 1, 2, 3, 4, 5, 6, 7, 8, 9, 10, 11, 12, 13, 14, 15, 16, 17]) mixed ?_
      refine OJ.go 8 [(44, .int .i64 (IntKind.wrap .i64 (s2 - 1))), (43, .int .i64 s2), (42, Sl.v a0), (41, .int .i64 (IntKind.wrap .i64 (s2 - 1))), (40, .int .i64 s2), (39, Sl.v a0), (38, .int .i64 s2), (37, Sl.v a0)] ?_
      refine OJ.idxS (d := 45) (T := 108) (y := .tmp 42) (j := .tmp 44) (E := 100) (cap := a0.cap) (k := .i64) (fun p22 => ?_)
      refine OJ.ld (d := 46) (y := .tmp 45) (pend2 := fun x23 => [⟨9, 100, p22, cP.val x23⟩]) Ty100 (fun _ => rfl) (fun x23 => ?_)
      refine OJ.go 2 [(48, .int .i64 s2), (47, Sl.v a0)] ?_
      refine OJ.idxS (d := 49) (T := 108) (y := .tmp 47) (j := .tmp 48) (E := 100) (cap := a0.cap) (k := .i64) (fun p24 => ?_)
      refine OJ.ld (d := 50) (y := .tmp 49) (pend2 := fun x25 => [⟨13, 100, p24, cP.val x25⟩, ⟨9, 100, p22, cP.val x23⟩]) Ty100 (fun _ => rfl) (fun x25 => ?_)
      refine OJ.idxS (d := 51) (T := 108) (y := .tmp 37) (j := .tmp 38) (E := 100) (cap := a0.cap) (k := .i64) (fun p26 => ?_)
      refine OJ.st (y := .tmp 51) (z := .tmp 46) (owed := []) Ty100 ?_
      refine OW.nil ?_
      refine OJ.idxS (d := 52) (T := 108) (y := .tmp 39) (j := .tmp 41) (E := 100) (cap := a0.cap) (k := .i64) (fun p27 => ?_)
      refine OJ.st (y := .tmp 52) (z := .tmp 50) (owed := []) Ty100 ?_
      refine OW.nil ?_
      refine OJ.nil ?_
      refine SJ.inBlock ?_
      refine SJ.rg 3 ?_
      refine OJ.go 3 [(9, .int .i64 (IntKind.wrap .i64 (s2 - 1))), (36, .int .i64 (IntKind.wrap .i64 (s2 - 1))), (35, .int .i64 s2)] ?_
      refine OJ.nil ?_
      exact SJ.at_ [0, 1, 2, 3, 8, 9] rfl
    · refine SJ.exit (id := 2) (by rfl) ?_
      refine SJ.inBlock ?_
      refine SJ.rg 3 ?_
      refine OJ.go 3 [(8, .int .i64 (IntKind.wrap .i64 (s1 + 1))), (16, .int .i64 (IntKind.wrap .i64 (s1 + 1))), (15, .int .i64 s1)] ?_
      refine OJ.nil ?_
      exact SJ.at_ [0, 1, 2, 3, 8] rfl
noncomputable def slices_insertionSortCmpFunc_neigh_entry.L1 (a0 : Sl) (a1 : Int) (a2 : Int) (a3 : (Option Addr) → (Option Addr) → M Int) (s1 : Int) : M (LS Int Unit) :=
  if s1 < a2 then
    loopM (fun s_ : Int => slices_insertionSortCmpFunc_neigh_entry.L2 a0 a1 a3 s1 s_) s1
  else
    pure (LS.done ())
theorem slices_insertionSortCmpFunc_neigh_entry.L1_ok (a0 : Sl) (a1 : Int) (a2 : Int) (a3v : Any) (a3 : (Option Addr) → (Option Addr) → M Int) (h_a3 : ∀ (x0_ : (Option Addr)), ∀ (x1_ : (Option Addr)), RefV Try.prog a3v.v [.pointer x0_, .pointer x1_] (a3 x0_ x1_) (fun r_ : Int => .int .i64 r_)) (s1 : Int) :
    SJ slices_insertionSortCmpFunc_neigh_entry.cx [.code (c1 (c1 (c2 slices_insertionSortCmpFunc_neigh_entry.B))), .inLoop (c1 (c1 (c2 slices_insertionSortCmpFunc_neigh_entry.B))), .inBlock 0] [(0, Sl.v a0), (1, .int .i64 a1), (2, .int .i64 a2), (3, a3v.v), (8, .int .i64 s1)] [] (slices_insertionSortCmpFunc_neigh_entry.L1 a0 a1 a2 a3 s1) (slices_insertionSortCmpFunc_neigh_entry.F1 a0 a1 a2 a3v) := by
  unfold slices_insertionSortCmpFunc_neigh_entry.L1
  refine SJ.seq ?_
  refine SJ.sr 3 ?_
  refine OJ.go 3 [(14, .bool (decide (s1 < a2))), (13, .int .i64 a2), (12, .int .i64 s1)] ?_
  refine OJ.nil ?_
  refine SJ.cond (t := (.tmp 14)) (b := decide (s1 < a2)) decide_eq_true_iff (fun hc29 => ?_) (fun hc29 => ?_)
  · refine SJ.skip ?_
    refine SJ.seq ?_
    refine SJ.block (id := 1) ?_
    refine SJ.sr 2 ?_
    refine OJ.go 2 [(9, .int .i64 s1), (17, .int .i64 s1)] ?_
    refine OJ.nil ?_
    refine SJ.block (id := 2) ?_
    exact SJ.loop (fun s_ : Int => [(0, Sl.v a0), (1, .int .i64 a1), (2, .int .i64 a2), (3, a3v.v), (8, .int .i64 s1), (9, .int .i64 s_)]) (fun s_ : Int => []) [0, 1, 2, 3, 8, 9] rfl (fun _ _ => rfl) (fun s_ => slices_insertionSortCmpFunc_neigh_entry.L2_ok a0 a1 a2 a3v a3 h_a3 s1 s_)
  · refine SJ.exit (id := 0) (by rfl) ?_
    exact SJ.end_ rfl (Res.run (ys := []) .nil rfl)
noncomputable def slices_insertionSortCmpFunc_neigh_entry (a0 : Sl) (a1 : Int) (a2 : Int) (a3 : (Option Addr) → (Option Addr) → M Int) : M Unit :=
  loopM (fun s_ : Int => slices_insertionSortCmpFunc_neigh_entry.L1 a0 a1 a2 a3 s_) (IntKind.wrap .i64 (a1 + 1))
theorem slices_insertionSortCmpFunc_neigh_entry_ok (a0 : Sl) (a1 : Int) (a2 : Int) (a3v : Any) (a3 : (Option Addr) → (Option Addr) → M Int) (h_a3 : ∀ (x0_ : (Option Addr)), ∀ (x1_ : (Option Addr)), RefV Try.prog a3v.v [.pointer x0_, .pointer x1_] (a3 x0_ x1_) (fun r_ : Int => .int .i64 r_)) : Ref Try.prog 78 [Sl.v a0, .int .i64 a1, .int .i64 a2, a3v.v] (slices_insertionSortCmpFunc_neigh_entry a0 a1 a2 a3) slices_insertionSortCmpFunc_neigh_entry.out := by
  refine Ref.of (cd := slices_insertionSortCmpFunc_neigh_entry.B) Try.func78 ?_
  show SJ slices_insertionSortCmpFunc_neigh_entry.cx [.code slices_insertionSortCmpFunc_neigh_entry.B] [(0, Sl.v a0), (1, .int .i64 a1), (2, .int .i64 a2), (3, a3v.v)] [] (slices_insertionSortCmpFunc_neigh_entry a0 a1 a2 a3) slices_insertionSortCmpFunc_neigh_entry.F0
  unfold slices_insertionSortCmpFunc_neigh_entry
  refine SJ.sr 3 ?_
  refine OJ.go 3 [(8, .int .i64 (IntKind.wrap .i64 (a1 + 1))), (11, .int .i64 (IntKind.wrap .i64 (a1 + 1))), (10, .int .i64 a1)] ?_
  refine OJ.nil ?_
  refine SJ.block (id := 0) ?_
  exact SJ.loop (fun s_ : Int => [(0, Sl.v a0), (1, .int .i64 a1), (2, .int .i64 a2), (3, a3v.v), (8, .int .i64 s_)]) (fun s_ : Int => []) [0, 1, 2, 3, 8] rfl (fun _ _ => rfl) (fun s_ => slices_insertionSortCmpFunc_neigh_entry.L1_ok a0 a1 a2 a3v a3 h_a3 s_)

/-! ### slices.siftDownCmpFunc[*weir/neigh.entry]: function 91 -/
noncomputable def slices_siftDownCmpFunc_neigh_entry.B : Code := (Try.f91.body).getD .skip
noncomputable def slices_siftDownCmpFunc_neigh_entry.cx : Fx := ⟨Try.prog, 91, Try.f91⟩
noncomputable def slices_siftDownCmpFunc_neigh_entry.out (r_ : Unit) : Value := .tuple #[]
noncomputable def slices_siftDownCmpFunc_neigh_entry.F0 (r_ : Unit) : Reach := .ret (slices_siftDownCmpFunc_neigh_entry.out r_)
noncomputable def slices_siftDownCmpFunc_neigh_entry.F1 (a0 : Sl) (a2 : Int) (a3 : Int) (a4v : Any) : (LS Int Unit) → Reach := loopF [.inLoop (c1 (c1 (c2 slices_siftDownCmpFunc_neigh_entry.B))), .inBlock 0] (fun s_ : Int => [(0, Sl.v a0), (2, .int .i64 a2), (3, .int .i64 a3), (4, a4v.v), (10, .int .i64 s_)]) (fun s_ : Int => []) slices_siftDownCmpFunc_neigh_entry.F0
noncomputable def slices_siftDownCmpFunc_neigh_entry.K1 (a0 : Sl) (a3 : Int) (a4 : (Option Addr) → (Option Addr) → M Int) (s1 : Int) (j8 : Int) : M (LS Int Unit) :=
  draw >>= fun _ =>
  idx a0.a a0.len (IntKind.wrap .i64 (a3 + s1)) 1 >>= fun p9 =>
  ld cP p9 >>= fun x10 =>
  idx a0.a a0.len (IntKind.wrap .i64 (a3 + j8)) 1 >>= fun p11 =>
  ld cP p11 >>= fun x12 =>
  a4 x10 x12 >>= fun r13 =>
  if ¬ (r13 < 0) then
    pure (LS.done ())
  else
    draw >>= fun _ =>
    idx a0.a a0.len (IntKind.wrap .i64 (a3 + j8)) 1 >>= fun p14 =>
    ld cP p14 >>= fun x15 =>
    idx a0.a a0.len (IntKind.wrap .i64 (a3 + s1)) 1 >>= fun p16 =>
    ld cP p16 >>= fun x17 =>
    idx a0.a a0.len (IntKind.wrap .i64 (a3 + s1)) 1 >>= fun p18 =>
    st cP p18 x15 >>= fun _ =>
    idx a0.a a0.len (IntKind.wrap .i64 (a3 + j8)) 1 >>= fun p19 =>
    st cP p19 x17 >>= fun _ =>
    pure (LS.next j8)
theorem slices_siftDownCmpFunc_neigh_entry.K1_ok (a0 : Sl) (a2 : Int) (a3 : Int) (a4v : Any) (a4 : (Option Addr) → (Option Addr) → M Int) (h_a4 : ∀ (x0_ : (Option Addr)), ∀ (x1_ : (Option Addr)), RefV Try.prog a4v.v [.pointer x0_, .pointer x1_] (a4 x0_ x1_) (fun r_ : Int => .int .i64 r_)) (s1 : Int) (j8 : Int) :
    SJ slices_siftDownCmpFunc_neigh_entry.cx [.code (c2 (c2 (c2 (c1 (c1 (c1 (c2 slices_siftDownCmpFunc_neigh_entry.B))))))), .inBlock 1, .inLoop (c1 (c1 (c2 slices_siftDownCmpFunc_neigh_entry.B))), .inBlock 0] [(0, Sl.v a0), (2, .int .i64 a2), (3, .int .i64 a3), (4, a4v.v), (10, .int .i64 s1), (11, .int .i64 j8)] [] (slices_siftDownCmpFunc_neigh_entry.K1 a0 a3 a4 s1 j8) (slices_siftDownCmpFunc_neigh_entry.F1 a0 a2 a3 a4v) := by
  unfold slices_siftDownCmpFunc_neigh_entry.K1
  refine SJ.seq ?_
  refine SJ.seq ?_
  refine SJ.draw (id := 5) (kd := [0, 0, 0, 0, 0, 0, 1, 0, 0, 0, 0, 0, 1, 2, 0, 0]) (bef := [0, 0, 0, 0, 12, 30, 62, 0, 0, 0, 768, 1920, 3968, 8191, 16383, 32767]) (ord := [0, 1, 2, 3, 4, 5, 6, 7, 8, 9, 10, 11, 12, 13, 14, 15]) mixed ?_
  refine OJ.go 5 [(47, .int .i64 (IntKind.wrap .i64 (a3 + s1))), (46, .int .i64 s1), (45, .int .i64 a3), (44, Sl.v a0), (43, a4v.v)] ?_
  refine OJ.idxS (d := 48) (T := 108) (y := .tmp 44) (j := .tmp 47) (E := 100) (cap := a0.cap) (k := .i64) (fun p9 => ?_)
  refine OJ.ld (d := 49) (y := .tmp 48) (pend2 := fun x10 => [⟨6, 100, p9, cP.val x10⟩]) Ty100 (fun _ => rfl) (fun x10 => ?_)
  refine OJ.go 4 [(53, .int .i64 (IntKind.wrap .i64 (a3 + j8))), (52, .int .i64 j8), (51, .int .i64 a3), (50, Sl.v a0)] ?_
  refine OJ.idxS (d := 54) (T := 108) (y := .tmp 50) (j := .tmp 53) (E := 100) (cap := a0.cap) (k := .i64) (fun p11 => ?_)
  refine OJ.ld (d := 55) (y := .tmp 54) (pend2 := fun x12 => [⟨12, 100, p11, cP.val x12⟩, ⟨6, 100, p9, cP.val x10⟩]) Ty100 (fun _ => rfl) (fun x12 => ?_)
  refine OJ.callV1 (d := 56) (ats := #[100, 100]) (args := [.tmp 49, .tmp 55]) (fo := .tmp 43) (vals := [.pointer x10, .pointer x12]) (owed := []) (h_a4 x10 x12) (fun r13 => ?_)
  refine OW.nil ?_
  refine OJ.go 2 [(58, .bool (!(decide (r13 < 0)))), (57, .bool (decide (r13 < 0)))] ?_
  refine OJ.nil ?_
  refine SJ.cond (t := (.tmp 58)) (b := (!(decide (r13 < 0)))) (bnot_iff decide_eq_true_iff) (fun hc20 => ?_) (fun hc20 => ?_)
  · exact SJ.ret rfl (Res.run (ys := []) .nil rfl)
  · refine SJ.skip ?_
    refine SJ.seq ?_
    refine SJ.draw (id := 6) (kd := [0, 0, 0, 0, 0, 0, 0, 0, 0, 0, 0, 0, 0, 1, 0, 0, 0, 0, 0, 1, 0, 2, 0, 2]) (bef := [0, 0, 0, 6, 0, 0, 0, 96, 0, 0, 0, 1536, 3840, 7936, 0, 0, 0, 98304, 245760, 507904, 1048335, 2096911, 4194303, 8388607]) (ord := [0, 1, 2, 3, 4, 5, 6, 7, 8, 9, 10, 11, 12, 13, 14, 15, 16, 17, 18, 19, 20, 21, 22, 23]) mixed ?_
    refine OJ.go 12 [(70, .int .i64 (IntKind.wrap .i64 (a3 + j8))), (69, .int .i64 j8), (68, .int .i64 a3), (67, Sl.v a0), (66, .int .i64 (IntKind.wrap .i64 (a3 + j8))), (65, .int .i64 j8), (64, .int .i64 a3), (63, Sl.v a0), (62, .int .i64 (IntKind.wrap .i64 (a3 + s1))), (61, .int .i64 s1), (60, .int .i64 a3), (59, Sl.v a0)] ?_
    refine OJ.idxS (d := 71) (T := 108) (y := .tmp 67) (j := .tmp 70) (E := 100) (cap := a0.cap) (k := .i64) (fun p14 => ?_)
    refine OJ.ld (d := 72) (y := .tmp 71) (pend2 := fun x15 => [⟨13, 100, p14, cP.val x15⟩]) Ty100 (fun _ => rfl) (fun x15 => ?_)
    refine OJ.go 4 [(76, .int .i64 (IntKind.wrap .i64 (a3 + s1))), (75, .int .i64 s1), (74, .int .i64 a3), (73, Sl.v a0)] ?_
    refine OJ.idxS (d := 77) (T := 108) (y := .tmp 73) (j := .tmp 76) (E := 100) (cap := a0.cap) (k := .i64) (fun p16 => ?_)
    refine OJ.ld (d := 78) (y := .tmp 77) (pend2 := fun x17 => [⟨19, 100, p16, cP.val x17⟩, ⟨13, 100, p14, cP.val x15⟩]) Ty100 (fun _ => rfl) (fun x17 => ?_)
    refine OJ.idxS (d := 79) (T := 108) (y := .tmp 59) (j := .tmp 62) (E := 100) (cap := a0.cap) (k := .i64) (fun p18 => ?_)
    refine OJ.st (y := .tmp 79) (z := .tmp 72) (owed := []) Ty100 ?_
    refine OW.nil ?_
    refine OJ.idxS (d := 80) (T := 108) (y := .tmp 63) (j := .tmp 66) (E := 100) (cap := a0.cap) (k := .i64) (fun p19 => ?_)
    refine OJ.st (y := .tmp 80) (z := .tmp 78) (owed := []) Ty100 ?_
    refine OW.nil ?_
    refine OJ.nil ?_
    refine SJ.rg 2 ?_
    refine OJ.go 2 [(10, .int .i64 j8), (81, .int .i64 j8)] ?_
    refine OJ.nil ?_
    refine SJ.inBlock ?_
    exact SJ.at_ [0, 2, 3, 4, 10] rfl
noncomputable def slices_siftDownCmpFunc_neigh_entry.L1 (a0 : Sl) (a2 : Int) (a3 : Int) (a4 : (Option Addr) → (Option Addr) → M Int) (s1 : Int) : M (LS Int Unit) :=
  if (IntKind.wrap .i64 ((IntKind.wrap .i64 (2 * s1)) + 1)) ≥ a2 then
    pure (LS.done ())
  else
    draw >>= fun _ =>
    (if (IntKind.wrap .i64 ((IntKind.wrap .i64 ((IntKind.wrap .i64 (2 * s1)) + 1)) + 1)) < a2 then
        idx a0.a a0.len (IntKind.wrap .i64 (a3 + (IntKind.wrap .i64 ((IntKind.wrap .i64 (2 * s1)) + 1)))) 1 >>= fun p2 =>
        ld cP p2 >>= fun x3 =>
        idx a0.a a0.len (IntKind.wrap .i64 ((IntKind.wrap .i64 (a3 + (IntKind.wrap .i64 ((IntKind.wrap .i64 (2 * s1)) + 1)))) + 1)) 1 >>= fun p4 =>
        ld cP p4 >>= fun x5 =>
        a4 x3 x5 >>= fun r6 =>
        pure (decide (r6 < 0))
      else
        pure false) >>= fun y7 =>
    if y7 = true then
      slices_siftDownCmpFunc_neigh_entry.K1 a0 a3 a4 s1 (IntKind.wrap .i64 ((IntKind.wrap .i64 ((IntKind.wrap .i64 (2 * s1)) + 1)) + 1))
    else
      slices_siftDownCmpFunc_neigh_entry.K1 a0 a3 a4 s1 (IntKind.wrap .i64 ((IntKind.wrap .i64 (2 * s1)) + 1))
theorem slices_siftDownCmpFunc_neigh_entry.L1_ok (a0 : Sl) (a2 : Int) (a3 : Int) (a4v : Any) (a4 : (Option Addr) → (Option Addr) → M Int) (h_a4 : ∀ (x0_ : (Option Addr)), ∀ (x1_ : (Option Addr)), RefV Try.prog a4v.v [.pointer x0_, .pointer x1_] (a4 x0_ x1_) (fun r_ : Int => .int .i64 r_)) (s1 : Int) :
    SJ slices_siftDownCmpFunc_neigh_entry.cx [.code (c1 (c1 (c2 slices_siftDownCmpFunc_neigh_entry.B))), .inLoop (c1 (c1 (c2 slices_siftDownCmpFunc_neigh_entry.B))), .inBlock 0] [(0, Sl.v a0), (2, .int .i64 a2), (3, .int .i64 a3), (4, a4v.v), (10, .int .i64 s1)] [] (slices_siftDownCmpFunc_neigh_entry.L1 a0 a2 a3 a4 s1) (slices_siftDownCmpFunc_neigh_entry.F1 a0 a2 a3 a4v) := by
  unfold slices_siftDownCmpFunc_neigh_entry.L1
  refine SJ.block (id := 1) ?_
  refine SJ.sr 4 ?_
  refine OJ.go 4 [(11, .int .i64 (IntKind.wrap .i64 ((IntKind.wrap .i64 (2 * s1)) + 1))), (15, .int .i64 (IntKind.wrap .i64 ((IntKind.wrap .i64 (2 * s1)) + 1))), (14, .int .i64 (IntKind.wrap .i64 (2 * s1))), (13, .int .i64 s1)] ?_
  refine OJ.nil ?_
  refine SJ.seq ?_
  refine SJ.sr 3 ?_
  refine OJ.go 3 [(18, .bool (decide ((IntKind.wrap .i64 ((IntKind.wrap .i64 (2 * s1)) + 1)) ≥ a2))), (17, .int .i64 a2), (16, .int .i64 (IntKind.wrap .i64 ((IntKind.wrap .i64 (2 * s1)) + 1)))] ?_
  refine OJ.nil ?_
  refine SJ.cond (t := (.tmp 18)) (b := decide ((IntKind.wrap .i64 ((IntKind.wrap .i64 (2 * s1)) + 1)) ≥ a2)) decide_eq_true_iff (fun hc22 => ?_) (fun hc22 => ?_)
  · refine SJ.exit (id := 0) (by rfl) ?_
    exact SJ.end_ rfl (Res.run (ys := []) .nil rfl)
  · refine SJ.skip ?_
    refine SJ.seq ?_
    refine SJ.seq ?_
    refine SJ.draw (id := 3) (kd := [0, 0, 0, 0, 0, 0, 0, 0, 0, 0, 0, 1, 0, 0, 0, 0, 0, 0, 1, 2, 0, 0]) (bef := [0, 1, 0, 7, 15, 31, 31, 31, 31, 415, 991, 2015, 31, 31, 31, 24607, 57375, 127007, 258079, 524287, 1048575, 2097151]) (ord := [0, 1, 2, 3, 4, 5, 6, 7, 8, 9, 10, 11, 12, 13, 14, 15, 16, 17, 18, 19, 20, 21]) mixed ?_
    refine OJ.go 5 [(23, .bool (decide ((IntKind.wrap .i64 ((IntKind.wrap .i64 ((IntKind.wrap .i64 (2 * s1)) + 1)) + 1)) < a2))), (22, .bool (decide ((IntKind.wrap .i64 ((IntKind.wrap .i64 ((IntKind.wrap .i64 (2 * s1)) + 1)) + 1)) < a2))), (21, .int .i64 a2), (20, .int .i64 (IntKind.wrap .i64 ((IntKind.wrap .i64 ((IntKind.wrap .i64 (2 * s1)) + 1)) + 1))), (19, .int .i64 (IntKind.wrap .i64 ((IntKind.wrap .i64 (2 * s1)) + 1)))] ?_
    refine OJ.join (b := decide ((IntKind.wrap .i64 ((IntKind.wrap .i64 ((IntKind.wrap .i64 (2 * s1)) + 1)) + 1)) < a2)) [5, 6, 7, 8, 9, 10, 11, 12, 13, 14, 15, 16, 17, 18, 19, 20, 21] [] [0, 2, 3, 4, 10, 11, 40] (fun y7 => [(0, Sl.v a0), (2, .int .i64 a2), (3, .int .i64 a3), (4, a4v.v), (10, .int .i64 s1), (11, .int .i64 (IntKind.wrap .i64 ((IntKind.wrap .i64 (2 * s1)) + 1))), (40, .bool y7)]) [] [11, 18] (t := 23) decide_eq_true_iff (fun hp_ => ?_) (fun hp_ => ?_) (fun _ _ _ _ _ _ h_ => h_) (fun y7 => ?_)
    · refine OJ.go 5 [(28, .int .i64 (IntKind.wrap .i64 (a3 + (IntKind.wrap .i64 ((IntKind.wrap .i64 (2 * s1)) + 1))))), (27, .int .i64 (IntKind.wrap .i64 ((IntKind.wrap .i64 (2 * s1)) + 1))), (26, .int .i64 a3), (25, Sl.v a0), (24, a4v.v)] ?_
      refine OJ.idxS (d := 29) (T := 108) (y := .tmp 25) (j := .tmp 28) (E := 100) (cap := a0.cap) (k := .i64) (fun p2 => ?_)
      refine OJ.ld (d := 30) (y := .tmp 29) (pend2 := fun x3 => [⟨11, 100, p2, cP.val x3⟩]) Ty100 (fun _ => rfl) (fun x3 => ?_)
      refine OJ.go 5 [(35, .int .i64 (IntKind.wrap .i64 ((IntKind.wrap .i64 (a3 + (IntKind.wrap .i64 ((IntKind.wrap .i64 (2 * s1)) + 1)))) + 1))), (34, .int .i64 (IntKind.wrap .i64 (a3 + (IntKind.wrap .i64 ((IntKind.wrap .i64 (2 * s1)) + 1))))), (33, .int .i64 (IntKind.wrap .i64 ((IntKind.wrap .i64 (2 * s1)) + 1))), (32, .int .i64 a3), (31, Sl.v a0)] ?_
      refine OJ.idxS (d := 36) (T := 108) (y := .tmp 31) (j := .tmp 35) (E := 100) (cap := a0.cap) (k := .i64) (fun p4 => ?_)
      refine OJ.ld (d := 37) (y := .tmp 36) (pend2 := fun x5 => [⟨18, 100, p4, cP.val x5⟩, ⟨11, 100, p2, cP.val x3⟩]) Ty100 (fun _ => rfl) (fun x5 => ?_)
      refine OJ.callV1 (d := 38) (ats := #[100, 100]) (args := [.tmp 30, .tmp 37]) (fo := .tmp 24) (vals := [.pointer x3, .pointer x5]) (owed := []) (h_a4 x3 x5) (fun r6 => ?_)
      refine OW.nil ?_
      refine OJ.go 2 [(40, .bool (decide (r6 < 0))), (39, .bool (decide (r6 < 0)))] ?_
      exact OJ.nil ⟨(Cov.mem (Cov.drop (List.mem_of_getElem? (i := 1) rfl) (Cov.drop (List.mem_of_getElem? (i := 0) rfl) Cov.nil))), rfl, _, rfl, by kernel_rfl⟩
    · refine OJ.go 17 [(40, .bool false), (39, undef), (38, undef), (37, undef), (36, undef), (35, undef), (34, undef), (33, undef), (32, undef), (31, undef), (30, undef), (29, undef), (28, undef), (27, undef), (26, undef), (25, undef), (24, undef)] ?_
      exact OJ.nil ⟨(Cov.mem Cov.nil), rfl, _, rfl, by kernel_rfl⟩
    · refine OJ.nil ?_
      refine SJ.cond (t := (.tmp 40)) (b := y7) Iff.rfl (fun hc21 => ?_) (fun hc21 => ?_)
      · refine SJ.rg 3 ?_
        refine OJ.go 3 [(11, .int .i64 (IntKind.wrap .i64 ((IntKind.wrap .i64 ((IntKind.wrap .i64 (2 * s1)) + 1)) + 1))), (42, .int .i64 (IntKind.wrap .i64 ((IntKind.wrap .i64 ((IntKind.wrap .i64 (2 * s1)) + 1)) + 1))), (41, .int .i64 (IntKind.wrap .i64 ((IntKind.wrap .i64 (2 * s1)) + 1)))] ?_
        refine OJ.nil ?_
        refine SJ.less [0, 2, 3, 4, 10, 11] (m' := [(0, Sl.v a0), (2, .int .i64 a2), (3, .int .i64 a3), (4, a4v.v), (10, .int .i64 s1), (11, .int .i64 (IntKind.wrap .i64 ((IntKind.wrap .i64 ((IntKind.wrap .i64 (2 * s1)) + 1)) + 1)))]) ?_
        exact slices_siftDownCmpFunc_neigh_entry.K1_ok a0 a2 a3 a4v a4 h_a4 s1 (IntKind.wrap .i64 ((IntKind.wrap .i64 ((IntKind.wrap .i64 (2 * s1)) + 1)) + 1))
      · refine SJ.skip ?_
        refine SJ.less [0, 2, 3, 4, 10, 11] (m' := [(0, Sl.v a0), (2, .int .i64 a2), (3, .int .i64 a3), (4, a4v.v), (10, .int .i64 s1), (11, .int .i64 (IntKind.wrap .i64 ((IntKind.wrap .i64 (2 * s1)) + 1)))]) ?_
        exact slices_siftDownCmpFunc_neigh_entry.K1_ok a0 a2 a3 a4v a4 h_a4 s1 (IntKind.wrap .i64 ((IntKind.wrap .i64 (2 * s1)) + 1))
noncomputable def slices_siftDownCmpFunc_neigh_entry (a0 : Sl) (a1 : Int) (a2 : Int) (a3 : Int) (a4 : (Option Addr) → (Option Addr) → M Int) : M Unit :=
  loopM (fun s_ : Int => slices_siftDownCmpFunc_neigh_entry.L1 a0 a2 a3 a4 s_) a1
theorem slices_siftDownCmpFunc_neigh_entry_ok (a0 : Sl) (a1 : Int) (a2 : Int) (a3 : Int) (a4v : Any) (a4 : (Option Addr) → (Option Addr) → M Int) (h_a4 : ∀ (x0_ : (Option Addr)), ∀ (x1_ : (Option Addr)), RefV Try.prog a4v.v [.pointer x0_, .pointer x1_] (a4 x0_ x1_) (fun r_ : Int => .int .i64 r_)) : Ref Try.prog 91 [Sl.v a0, .int .i64 a1, .int .i64 a2, .int .i64 a3, a4v.v] (slices_siftDownCmpFunc_neigh_entry a0 a1 a2 a3 a4) slices_siftDownCmpFunc_neigh_entry.out := by
  refine Ref.of (cd := slices_siftDownCmpFunc_neigh_entry.B) Try.func91 ?_
  show SJ slices_siftDownCmpFunc_neigh_entry.cx [.code slices_siftDownCmpFunc_neigh_entry.B] [(0, Sl.v a0), (1, .int .i64 a1), (2, .int .i64 a2), (3, .int .i64 a3), (4, a4v.v)] [] (slices_siftDownCmpFunc_neigh_entry a0 a1 a2 a3 a4) slices_siftDownCmpFunc_neigh_entry.F0
  unfold slices_siftDownCmpFunc_neigh_entry
  refine SJ.sr 2 ?_
  refine OJ.go 2 [(10, .int .i64 a1), (12, .int .i64 a1)] ?_
  refine OJ.nil ?_
  refine SJ.block (id := 0) ?_
  exact SJ.loop (fun s_ : Int => [(0, Sl.v a0), (2, .int .i64 a2), (3, .int .i64 a3), (4, a4v.v), (10, .int .i64 s_)]) (fun s_ : Int => []) [0, 2, 3, 4, 10] rfl (fun _ _ => rfl) (fun s_ => slices_siftDownCmpFunc_neigh_entry.L1_ok a0 a2 a3 a4v a4 h_a4 s_)

/-! ### slices.heapSortCmpFunc[*weir/neigh.entry]: function 79 -/
noncomputable def slices_heapSortCmpFunc_neigh_entry.B : Code := (Try.f79.body).getD .skip
noncomputable def slices_heapSortCmpFunc_neigh_entry.cx : Fx := ⟨Try.prog, 79, Try.f79⟩
noncomputable def slices_heapSortCmpFunc_neigh_entry.out (r_ : Unit) : Value := .tuple #[]
noncomputable def slices_heapSortCmpFunc_neigh_entry.F0 (r_ : Unit) : Reach := .ret (slices_heapSortCmpFunc_neigh_entry.out r_)
noncomputable def slices_heapSortCmpFunc_neigh_entry.F1 (a0 : Sl) (a1 : Int) (a3v : Any) : (LS Int Unit) → Reach := loopF [.inLoop (c1 (c1 (c2 (c2 (c2 (c2 (c2 slices_heapSortCmpFunc_neigh_entry.B))))))), .inBlock 2] (fun s_ : Int => [(0, Sl.v a0), (3, a3v.v), (8, .int .i64 a1), (9, .int .i64 0), (12, .int .i64 s_)]) (fun s_ : Int => []) slices_heapSortCmpFunc_neigh_entry.F0
noncomputable def slices_heapSortCmpFunc_neigh_entry.L1 (a0 : Sl) (a1 : Int) (a3 : (Option Addr) → (Option Addr) → M Int) (s4 : Int) : M (LS Int Unit) :=
  if s4 ≥ 0 then
    draw >>= fun _ =>
    idx a0.a a0.len (IntKind.wrap .i64 (a1 + s4)) 1 >>= fun p5 =>
    ld cP p5 >>= fun x6 =>
    idx a0.a a0.len a1 1 >>= fun p7 =>
    ld cP p7 >>= fun x8 =>
    idx a0.a a0.len a1 1 >>= fun p9 =>
    st cP p9 x6 >>= fun _ =>
    idx a0.a a0.len (IntKind.wrap .i64 (a1 + s4)) 1 >>= fun p10 =>
    st cP p10 x8 >>= fun _ =>
    slices_siftDownCmpFunc_neigh_entry a0 0 s4 a1 a3 >>= fun r11 =>
    pure (LS.next (IntKind.wrap .i64 (s4 - 1)))
  else
    pure (LS.done ())
theorem slices_heapSortCmpFunc_neigh_entry.L1_ok (a0 : Sl) (a1 : Int) (a3v : Any) (a3 : (Option Addr) → (Option Addr) → M Int) (h_a3 : ∀ (x0_ : (Option Addr)), ∀ (x1_ : (Option Addr)), RefV Try.prog a3v.v [.pointer x0_, .pointer x1_] (a3 x0_ x1_) (fun r_ : Int => .int .i64 r_)) (s4 : Int) :
    SJ slices_heapSortCmpFunc_neigh_entry.cx [.code (c1 (c1 (c2 (c2 (c2 (c2 (c2 slices_heapSortCmpFunc_neigh_entry.B))))))), .inLoop (c1 (c1 (c2 (c2 (c2 (c2 (c2 slices_heapSortCmpFunc_neigh_entry.B))))))), .inBlock 2] [(0, Sl.v a0), (3, a3v.v), (8, .int .i64 a1), (9, .int .i64 0), (12, .int .i64 s4)] [] (slices_heapSortCmpFunc_neigh_entry.L1 a0 a1 a3 s4) (slices_heapSortCmpFunc_neigh_entry.F1 a0 a1 a3v) := by
  unfold slices_heapSortCmpFunc_neigh_entry.L1
  refine SJ.seq ?_
  refine SJ.sr 2 ?_
  refine OJ.go 2 [(33, .bool (decide (s4 ≥ 0))), (32, .int .i64 s4)] ?_
  refine OJ.nil ?_
  refine SJ.cond (t := (.tmp 33)) (b := decide (s4 ≥ 0)) decide_eq_true_iff (fun hc12 => ?_) (fun hc12 => ?_)
  · refine SJ.skip ?_
    refine SJ.seq ?_
    refine SJ.block (id := 3) ?_
    refine SJ.seq ?_
    refine SJ.draw (id := 10) (kd := [0, 0, 0, 0, 0, 0, 0, 0, 0, 0, 0, 1, 0, 0, 0, 1, 0, 2, 0, 2]) (bef := [0, 0, 0, 0, 0, 24, 0, 0, 0, 384, 960, 1984, 0, 0, 12288, 28672, 65475, 131011, 262143, 524287]) (ord := [0, 1, 2, 3, 4, 5, 6, 7, 8, 9, 10, 11, 12, 13, 14, 15, 16, 17, 18, 19]) mixed ?_
    refine OJ.go 10 [(45, .int .i64 (IntKind.wrap .i64 (a1 + s4))), (44, .int .i64 s4), (43, .int .i64 a1), (42, Sl.v a0), (41, .int .i64 (IntKind.wrap .i64 (a1 + s4))), (40, .int .i64 s4), (39, .int .i64 a1), (38, Sl.v a0), (37, .int .i64 a1), (36, Sl.v a0)] ?_
    refine OJ.idxS (d := 46) (T := 108) (y := .tmp 42) (j := .tmp 45) (E := 100) (cap := a0.cap) (k := .i64) (fun p5 => ?_)
    refine OJ.ld (d := 47) (y := .tmp 46) (pend2 := fun x6 => [⟨11, 100, p5, cP.val x6⟩]) Ty100 (fun _ => rfl) (fun x6 => ?_)
    refine OJ.go 2 [(49, .int .i64 a1), (48, Sl.v a0)] ?_
    refine OJ.idxS (d := 50) (T := 108) (y := .tmp 48) (j := .tmp 49) (E := 100) (cap := a0.cap) (k := .i64) (fun p7 => ?_)
    refine OJ.ld (d := 51) (y := .tmp 50) (pend2 := fun x8 => [⟨15, 100, p7, cP.val x8⟩, ⟨11, 100, p5, cP.val x6⟩]) Ty100 (fun _ => rfl) (fun x8 => ?_)
    refine OJ.idxS (d := 52) (T := 108) (y := .tmp 36) (j := .tmp 37) (E := 100) (cap := a0.cap) (k := .i64) (fun p9 => ?_)
    refine OJ.st (y := .tmp 52) (z := .tmp 47) (owed := []) Ty100 ?_
    refine OW.nil ?_
    refine OJ.idxS (d := 53) (T := 108) (y := .tmp 38) (j := .tmp 41) (E := 100) (cap := a0.cap) (k := .i64) (fun p10 => ?_)
    refine OJ.st (y := .tmp 53) (z := .tmp 51) (owed := []) Ty100 ?_
    refine OW.nil ?_
    refine OJ.nil ?_
    refine SJ.rg 6 ?_
    refine OJ.go 5 [(58, a3v.v), (57, .int .i64 a1), (56, .int .i64 s4), (55, .int .i64 0), (54, Sl.v a0)] ?_
    refine OJ.call (d := 59) (g := 91) (ats := #[108, 3, 3, 3, 124]) (args := [.tmp 54, .tmp 55, .tmp 56, .tmp 57, .tmp 58]) (owed := []) F91 (slices_siftDownCmpFunc_neigh_entry_ok a0 0 s4 a1 a3v a3 h_a3) (fun r11 => ?_)
    refine OW.nil ?_
    refine OJ.nil ?_
    refine SJ.inBlock ?_
    refine SJ.rg 3 ?_
    refine OJ.go 3 [(12, .int .i64 (IntKind.wrap .i64 (s4 - 1))), (35, .int .i64 (IntKind.wrap .i64 (s4 - 1))), (34, .int .i64 s4)] ?_
    refine OJ.nil ?_
    exact SJ.at_ [0, 3, 8, 9, 12] rfl
  · refine SJ.exit (id := 2) (by rfl) ?_
    exact SJ.end_ rfl (Res.run (ys := []) .nil rfl)
noncomputable def slices_heapSortCmpFunc_neigh_entry.K1 (a0 : Sl) (a1 : Int) (a2 : Int) (a3 : (Option Addr) → (Option Addr) → M Int) : M Unit :=
  loopM (fun s_ : Int => slices_heapSortCmpFunc_neigh_entry.L1 a0 a1 a3 s_) (IntKind.wrap .i64 ((IntKind.wrap .i64 (a2 - a1)) - 1))
theorem slices_heapSortCmpFunc_neigh_entry.K1_ok (a0 : Sl) (a1 : Int) (a2 : Int) (a3v : Any) (a3 : (Option Addr) → (Option Addr) → M Int) (h_a3 : ∀ (x0_ : (Option Addr)), ∀ (x1_ : (Option Addr)), RefV Try.prog a3v.v [.pointer x0_, .pointer x1_] (a3 x0_ x1_) (fun r_ : Int => .int .i64 r_)) :
    SJ slices_heapSortCmpFunc_neigh_entry.cx [.code (c2 (c2 (c2 (c2 slices_heapSortCmpFunc_neigh_entry.B))))] [(0, Sl.v a0), (3, a3v.v), (8, .int .i64 a1), (9, .int .i64 0), (10, .int .i64 (IntKind.wrap .i64 (a2 - a1)))] [] (slices_heapSortCmpFunc_neigh_entry.K1 a0 a1 a2 a3) slices_heapSortCmpFunc_neigh_entry.F0 := by
  unfold slices_heapSortCmpFunc_neigh_entry.K1
  refine SJ.sr 3 ?_
  refine OJ.go 3 [(12, .int .i64 (IntKind.wrap .i64 ((IntKind.wrap .i64 (a2 - a1)) - 1))), (31, .int .i64 (IntKind.wrap .i64 ((IntKind.wrap .i64 (a2 - a1)) - 1))), (30, .int .i64 (IntKind.wrap .i64 (a2 - a1)))] ?_
  refine OJ.nil ?_
  refine SJ.block (id := 2) ?_
  exact SJ.loop (fun s_ : Int => [(0, Sl.v a0), (3, a3v.v), (8, .int .i64 a1), (9, .int .i64 0), (12, .int .i64 s_)]) (fun s_ : Int => []) [0, 3, 8, 9, 12] rfl (fun _ _ => rfl) (fun s_ => slices_heapSortCmpFunc_neigh_entry.L1_ok a0 a1 a3v a3 h_a3 s_)
noncomputable def slices_heapSortCmpFunc_neigh_entry.F2 (a0 : Sl) (a1 : Int) (a2 : Int) (a3v : Any) : (LS Int Unit) → Reach := loopF [.inLoop (c1 (c1 (c2 (c1 (c2 (c2 (c2 slices_heapSortCmpFunc_neigh_entry.B))))))), .inBlock 0, .code (c2 (c2 (c2 (c2 slices_heapSortCmpFunc_neigh_entry.B))))] (fun s_ : Int => [(0, Sl.v a0), (3, a3v.v), (8, .int .i64 a1), (9, .int .i64 0), (10, .int .i64 (IntKind.wrap .i64 (a2 - a1))), (11, .int .i64 s_)]) (fun s_ : Int => []) slices_heapSortCmpFunc_neigh_entry.F0
noncomputable def slices_heapSortCmpFunc_neigh_entry.L2 (a0 : Sl) (a1 : Int) (a2 : Int) (a3 : (Option Addr) → (Option Addr) → M Int) (s1 : Int) : M (LS Int Unit) :=
  if s1 ≥ 0 then
    slices_siftDownCmpFunc_neigh_entry a0 s1 (IntKind.wrap .i64 (a2 - a1)) a1 a3 >>= fun r13 =>
    pure (LS.next (IntKind.wrap .i64 (s1 - 1)))
  else
    (slices_heapSortCmpFunc_neigh_entry.K1 a0 a1 a2 a3) >>= fun b => pure (LS.done b)
theorem slices_heapSortCmpFunc_neigh_entry.L2_ok (a0 : Sl) (a1 : Int) (a2 : Int) (a3v : Any) (a3 : (Option Addr) → (Option Addr) → M Int) (h_a3 : ∀ (x0_ : (Option Addr)), ∀ (x1_ : (Option Addr)), RefV Try.prog a3v.v [.pointer x0_, .pointer x1_] (a3 x0_ x1_) (fun r_ : Int => .int .i64 r_)) (s1 : Int) :
    SJ slices_heapSortCmpFunc_neigh_entry.cx [.code (c1 (c1 (c2 (c1 (c2 (c2 (c2 slices_heapSortCmpFunc_neigh_entry.B))))))), .inLoop (c1 (c1 (c2 (c1 (c2 (c2 (c2 slices_heapSortCmpFunc_neigh_entry.B))))))), .inBlock 0, .code (c2 (c2 (c2 (c2 slices_heapSortCmpFunc_neigh_entry.B))))] [(0, Sl.v a0), (3, a3v.v), (8, .int .i64 a1), (9, .int .i64 0), (10, .int .i64 (IntKind.wrap .i64 (a2 - a1))), (11, .int .i64 s1)] [] (slices_heapSortCmpFunc_neigh_entry.L2 a0 a1 a2 a3 s1) (slices_heapSortCmpFunc_neigh_entry.F2 a0 a1 a2 a3v) := by
  unfold slices_heapSortCmpFunc_neigh_entry.L2
  refine SJ.seq ?_
  refine SJ.sr 2 ?_
  refine OJ.go 2 [(21, .bool (decide (s1 ≥ 0))), (20, .int .i64 s1)] ?_
  refine OJ.nil ?_
  refine SJ.cond (t := (.tmp 21)) (b := decide (s1 ≥ 0)) decide_eq_true_iff (fun hc14 => ?_) (fun hc14 => ?_)
  · refine SJ.skip ?_
    refine SJ.seq ?_
    refine SJ.block (id := 1) ?_
    refine SJ.rg 6 ?_
    refine OJ.go 5 [(28, a3v.v), (27, .int .i64 a1), (26, .int .i64 (IntKind.wrap .i64 (a2 - a1))), (25, .int .i64 s1), (24, Sl.v a0)] ?_
    refine OJ.call (d := 29) (g := 91) (ats := #[108, 3, 3, 3, 124]) (args := [.tmp 24, .tmp 25, .tmp 26, .tmp 27, .tmp 28]) (owed := []) F91 (slices_siftDownCmpFunc_neigh_entry_ok a0 s1 (IntKind.wrap .i64 (a2 - a1)) a1 a3v a3 h_a3) (fun r13 => ?_)
    refine OW.nil ?_
    refine OJ.nil ?_
    refine SJ.inBlock ?_
    refine SJ.rg 3 ?_
    refine OJ.go 3 [(11, .int .i64 (IntKind.wrap .i64 (s1 - 1))), (23, .int .i64 (IntKind.wrap .i64 (s1 - 1))), (22, .int .i64 s1)] ?_
    refine OJ.nil ?_
    exact SJ.at_ [0, 3, 8, 9, 10, 11] rfl
  · refine SJ.exit (id := 0) (by rfl) ?_
    refine SJ.less [0, 3, 8, 9, 10] (m' := [(0, Sl.v a0), (3, a3v.v), (8, .int .i64 a1), (9, .int .i64 0), (10, .int .i64 (IntKind.wrap .i64 (a2 - a1)))]) ?_
    refine SJ.done ?_
    exact slices_heapSortCmpFunc_neigh_entry.K1_ok a0 a1 a2 a3v a3 h_a3
noncomputable def slices_heapSortCmpFunc_neigh_entry (a0 : Sl) (a1 : Int) (a2 : Int) (a3 : (Option Addr) → (Option Addr) → M Int) : M Unit :=
  loopM (fun s_ : Int => slices_heapSortCmpFunc_neigh_entry.L2 a0 a1 a2 a3 s_) (IntKind.wrap .i64 (Int.tdiv (IntKind.wrap .i64 ((IntKind.wrap .i64 (a2 - a1)) - 1)) 2))
theorem slices_heapSortCmpFunc_neigh_entry_ok (a0 : Sl) (a1 : Int) (a2 : Int) (a3v : Any) (a3 : (Option Addr) → (Option Addr) → M Int) (h_a3 : ∀ (x0_ : (Option Addr)), ∀ (x1_ : (Option Addr)), RefV Try.prog a3v.v [.pointer x0_, .pointer x1_] (a3 x0_ x1_) (fun r_ : Int => .int .i64 r_)) : Ref Try.prog 79 [Sl.v a0, .int .i64 a1, .int .i64 a2, a3v.v] (slices_heapSortCmpFunc_neigh_entry a0 a1 a2 a3) slices_heapSortCmpFunc_neigh_entry.out := by
  refine Ref.of (cd := slices_heapSortCmpFunc_neigh_entry.B) Try.func79 ?_
  show SJ slices_heapSortCmpFunc_neigh_entry.cx [.code slices_heapSortCmpFunc_neigh_entry.B] [(0, Sl.v a0), (1, .int .i64 a1), (2, .int .i64 a2), (3, a3v.v)] [] (slices_heapSortCmpFunc_neigh_entry a0 a1 a2 a3) slices_heapSortCmpFunc_neigh_entry.F0
  unfold slices_heapSortCmpFunc_neigh_entry
  refine SJ.sr 2 ?_
  refine OJ.go 2 [(8, .int .i64 a1), (13, .int .i64 a1)] ?_
  refine OJ.nil ?_
  refine SJ.sr 1 ?_
  refine OJ.go 1 [(9, .int .i64 0)] ?_
  refine OJ.nil ?_
  refine SJ.sr 4 ?_
  refine OJ.go 4 [(10, .int .i64 (IntKind.wrap .i64 (a2 - a1))), (16, .int .i64 (IntKind.wrap .i64 (a2 - a1))), (15, .int .i64 a1), (14, .int .i64 a2)] ?_
  refine OJ.nil ?_
  refine SJ.seq ?_
  refine SJ.sr 4 ?_
  refine OJ.go 4 [(11, .int .i64 (IntKind.wrap .i64 (Int.tdiv (IntKind.wrap .i64 ((IntKind.wrap .i64 (a2 - a1)) - 1)) 2))), (19, .int .i64 (IntKind.wrap .i64 (Int.tdiv (IntKind.wrap .i64 ((IntKind.wrap .i64 (a2 - a1)) - 1)) 2))), (18, .int .i64 (IntKind.wrap .i64 ((IntKind.wrap .i64 (a2 - a1)) - 1))), (17, .int .i64 (IntKind.wrap .i64 (a2 - a1)))] ?_
  refine OJ.nil ?_
  refine SJ.block (id := 0) ?_
  exact SJ.loop (fun s_ : Int => [(0, Sl.v a0), (3, a3v.v), (8, .int .i64 a1), (9, .int .i64 0), (10, .int .i64 (IntKind.wrap .i64 (a2 - a1))), (11, .int .i64 s_)]) (fun s_ : Int => []) [0, 3, 8, 9, 10, 11] rfl (fun _ _ => rfl) (fun s_ => slices_heapSortCmpFunc_neigh_entry.L2_ok a0 a1 a2 a3v a3 h_a3 s_)

/-! ### slices.nextPowerOfTwo: function 92 -/
noncomputable def slices_nextPowerOfTwo.B : Code := (Try.f92.body).getD .skip
noncomputable def slices_nextPowerOfTwo.cx : Fx := ⟨Try.prog, 92, Try.f92⟩
noncomputable def slices_nextPowerOfTwo.out (r_ : Int) : Value := .int .u64 r_
noncomputable def slices_nextPowerOfTwo.F0 (r_ : Int) : Reach := .ret (slices_nextPowerOfTwo.out r_)
noncomputable def slices_nextPowerOfTwo (a0 : Int) : M Int :=
  bits_Len (IntKind.wrap .u64 a0) >>= fun r1 =>
  chk (0 ≤ r1) >>= fun _ =>
  pure (IntKind.wrap .u64 (1 * 2 ^ min (Int.toNat r1) 64))
theorem slices_nextPowerOfTwo_ok (a0 : Int) : Ref Try.prog 92 [.int .i64 a0] (slices_nextPowerOfTwo a0) slices_nextPowerOfTwo.out := by
  refine Ref.of (cd := slices_nextPowerOfTwo.B) Try.func92 ?_
  show SJ slices_nextPowerOfTwo.cx [.code slices_nextPowerOfTwo.B] [(0, .int .i64 a0)] [] (slices_nextPowerOfTwo a0) slices_nextPowerOfTwo.F0
  unfold slices_nextPowerOfTwo
  refine SJ.sr 1 ?_
  refine OJ.go 1 [(2, .int .u64 0)] ?_
  refine OJ.nil ?_
  refine SJ.sr 5 ?_
  refine OJ.go 2 [(4, .int .u64 (IntKind.wrap .u64 a0)), (3, .int .i64 a0)] ?_
  refine OJ.call (d := 5) (g := 70) (ats := #[137]) (args := [.tmp 4]) (owed := []) F70 (bits_Len_ok (IntKind.wrap .u64 a0)) (fun r1 => ?_)
  refine OW.nil ?_
  refine OJ.shl (d := 6) (T := 137) (yT := 3) (y := .const (.int .u64 1)) (z := .tmp 5) (k := .u64) (yk := .i64) (p := 1) (q := r1) (fun hq2 => ?_)
  refine OJ.go 1 [(2, .int .u64 (IntKind.wrap .u64 (1 * 2 ^ min (Int.toNat r1) 64)))] ?_
  refine OJ.nil ?_
  exact SJ.ret rfl (Res.run (ys := [.int .u64 (IntKind.wrap .u64 (1 * 2 ^ min (Int.toNat r1) 64))]) (.tmp (by kernel_rfl) .nil) rfl)

/-! ### (*slices.xorshift).Next: function 93 -/
noncomputable def slices_xorshift_Next.B : Code := (Try.f93.body).getD .skip
noncomputable def slices_xorshift_Next.cx : Fx := ⟨Try.prog, 93, Try.f93⟩
noncomputable def slices_xorshift_Next.out (r_ : Int) : Value := .int .u64 r_
noncomputable def slices_xorshift_Next.F0 (r_ : Int) : Reach := .ret (slices_xorshift_Next.out r_)
noncomputable def slices_xorshift_Next (a0 : (Option Addr)) : M Int :=
  draw >>= fun _ =>
  nilck a0 >>= fun p1 =>
  ld (cI .u64) p1 >>= fun x2 =>
  nilck a0 >>= fun p3 =>
  ld (cI .u64) p3 >>= fun x4 =>
  nilck a0 >>= fun p5 =>
  st (cI .u64) p5 (bxor .u64 x2 (IntKind.wrap .u64 (x4 * 2 ^ 13))) >>= fun _ =>
  draw >>= fun _ =>
  nilck a0 >>= fun p6 =>
  ld (cI .u64) p6 >>= fun x7 =>
  nilck a0 >>= fun p8 =>
  ld (cI .u64) p8 >>= fun x9 =>
  nilck a0 >>= fun p10 =>
  st (cI .u64) p10 (bxor .u64 x7 (Int.fdiv x9 (2 ^ 7))) >>= fun _ =>
  draw >>= fun _ =>
  nilck a0 >>= fun p11 =>
  ld (cI .u64) p11 >>= fun x12 =>
  nilck a0 >>= fun p13 =>
  ld (cI .u64) p13 >>= fun x14 =>
  nilck a0 >>= fun p15 =>
  st (cI .u64) p15 (bxor .u64 x12 (IntKind.wrap .u64 (x14 * 2 ^ 17))) >>= fun _ =>
  nilck a0 >>= fun p16 =>
  ld (cI .u64) p16 >>= fun x17 =>
  pure x17
theorem slices_xorshift_Next_ok (a0 : (Option Addr)) : Ref Try.prog 93 [.pointer a0] (slices_xorshift_Next a0) slices_xorshift_Next.out := by
  refine Ref.of (cd := slices_xorshift_Next.B) Try.func93 ?_
  show SJ slices_xorshift_Next.cx [.code slices_xorshift_Next.B] [(0, .pointer a0)] [] (slices_xorshift_Next a0) slices_xorshift_Next.F0
  unfold slices_xorshift_Next
  refine SJ.sr 1 ?_
  refine OJ.go 1 [(2, .int .u64 0)] ?_
  refine OJ.nil ?_
  refine SJ.seq ?_
  refine SJ.draw (id := 1) (kd := [0, 0, 1, 0, 0, 1, 0, 0, 0, 2]) (bef := [0, 1, 3, 0, 8, 24, 56, 127, 255, 511]) (ord := [0, 1, 2, 3, 4, 5, 6, 7, 8, 9]) mixed ?_
  refine OJ.go 1 [(3, .pointer a0)] ?_
  refine OJ.nilck (d := 4) (y := .tmp 3) (fun p1 => ?_)
  refine OJ.ld (d := 5) (y := .tmp 4) (pend2 := fun x2 => [⟨2, 162, p1, (cI .u64).val x2⟩]) Ty162 (fun _ => rfl) (fun x2 => ?_)
  refine OJ.go 1 [(6, .pointer a0)] ?_
  refine OJ.nilck (d := 7) (y := .tmp 6) (fun p3 => ?_)
  refine OJ.ld (d := 8) (y := .tmp 7) (pend2 := fun x4 => [⟨5, 162, p3, (cI .u64).val x4⟩, ⟨2, 162, p1, (cI .u64).val x2⟩]) Ty162 (fun _ => rfl) (fun x4 => ?_)
  refine OJ.go 2 [(10, .int .u64 (bxor .u64 x2 (IntKind.wrap .u64 (x4 * 2 ^ 13)))), (9, .int .u64 (IntKind.wrap .u64 (x4 * 2 ^ 13)))] ?_
  refine OJ.nilck (d := 11) (y := .tmp 3) (fun p5 => ?_)
  refine OJ.st (y := .tmp 11) (z := .tmp 10) (owed := []) Ty162 ?_
  refine OW.nil ?_
  refine OJ.nil ?_
  refine SJ.seq ?_
  refine SJ.draw (id := 2) (kd := [0, 0, 1, 0, 0, 1, 0, 0, 0, 2]) (bef := [0, 1, 3, 0, 8, 24, 56, 127, 255, 511]) (ord := [0, 1, 2, 3, 4, 5, 6, 7, 8, 9]) mixed ?_
  refine OJ.go 1 [(12, .pointer a0)] ?_
  refine OJ.nilck (d := 13) (y := .tmp 12) (fun p6 => ?_)
  refine OJ.ld (d := 14) (y := .tmp 13) (pend2 := fun x7 => [⟨2, 162, p6, (cI .u64).val x7⟩]) Ty162 (fun _ => rfl) (fun x7 => ?_)
  refine OJ.go 1 [(15, .pointer a0)] ?_
  refine OJ.nilck (d := 16) (y := .tmp 15) (fun p8 => ?_)
  refine OJ.ld (d := 17) (y := .tmp 16) (pend2 := fun x9 => [⟨5, 162, p8, (cI .u64).val x9⟩, ⟨2, 162, p6, (cI .u64).val x7⟩]) Ty162 (fun _ => rfl) (fun x9 => ?_)
  refine OJ.go 2 [(19, .int .u64 (bxor .u64 x7 (Int.fdiv x9 (2 ^ 7)))), (18, .int .u64 (Int.fdiv x9 (2 ^ 7)))] ?_
  refine OJ.nilck (d := 20) (y := .tmp 12) (fun p10 => ?_)
  refine OJ.st (y := .tmp 20) (z := .tmp 19) (owed := []) Ty162 ?_
  refine OW.nil ?_
  refine OJ.nil ?_
  refine SJ.seq ?_
  refine SJ.draw (id := 3) (kd := [0, 0, 1, 0, 0, 1, 0, 0, 0, 2]) (bef := [0, 1, 3, 0, 8, 24, 56, 127, 255, 511]) (ord := [0, 1, 2, 3, 4, 5, 6, 7, 8, 9]) mixed ?_
  refine OJ.go 1 [(21, .pointer a0)] ?_
  refine OJ.nilck (d := 22) (y := .tmp 21) (fun p11 => ?_)
  refine OJ.ld (d := 23) (y := .tmp 22) (pend2 := fun x12 => [⟨2, 162, p11, (cI .u64).val x12⟩]) Ty162 (fun _ => rfl) (fun x12 => ?_)
  refine OJ.go 1 [(24, .pointer a0)] ?_
  refine OJ.nilck (d := 25) (y := .tmp 24) (fun p13 => ?_)
  refine OJ.ld (d := 26) (y := .tmp 25) (pend2 := fun x14 => [⟨5, 162, p13, (cI .u64).val x14⟩, ⟨2, 162, p11, (cI .u64).val x12⟩]) Ty162 (fun _ => rfl) (fun x14 => ?_)
  refine OJ.go 2 [(28, .int .u64 (bxor .u64 x12 (IntKind.wrap .u64 (x14 * 2 ^ 17)))), (27, .int .u64 (IntKind.wrap .u64 (x14 * 2 ^ 17)))] ?_
  refine OJ.nilck (d := 29) (y := .tmp 21) (fun p15 => ?_)
  refine OJ.st (y := .tmp 29) (z := .tmp 28) (owed := []) Ty162 ?_
  refine OW.nil ?_
  refine OJ.nil ?_
  refine SJ.sr 4 ?_
  refine OJ.go 1 [(30, .pointer a0)] ?_
  refine OJ.nilck (d := 31) (y := .tmp 30) (fun p16 => ?_)
  refine OJ.ld (d := 32) (y := .tmp 31) (pend2 := fun x17 => []) Ty162 (fun _ => rfl) (fun x17 => ?_)
  refine OJ.go 1 [(2, .int .u64 x17)] ?_
  refine OJ.nil ?_
  exact SJ.ret rfl (Res.run (ys := [.int .u64 x17]) (.tmp (by kernel_rfl) .nil) rfl)

/-! ### slices.breakPatternsCmpFunc[*weir/neigh.entry]: function 80 -/
noncomputable def slices_breakPatternsCmpFunc_neigh_entry.B : Code := (Try.f80.body).getD .skip
noncomputable def slices_breakPatternsCmpFunc_neigh_entry.cx : Fx := ⟨Try.prog, 80, Try.f80⟩
noncomputable def slices_breakPatternsCmpFunc_neigh_entry.out (r_ : Unit) : Value := .tuple #[]
noncomputable def slices_breakPatternsCmpFunc_neigh_entry.F0 (r_ : Unit) : Reach := .ret (slices_breakPatternsCmpFunc_neigh_entry.out r_)
noncomputable def slices_breakPatternsCmpFunc_neigh_entry.F1 (a0 : Sl) (a1 : Int) (a2 : Int) (b24 : Nat) (r25 : Int) : (LS Int Unit) → Reach := loopF [.inLoop (c1 (c1 (c2 (c2 (c2 (c1 (c2 (c2 slices_breakPatternsCmpFunc_neigh_entry.B)))))))), .inBlock 0] (fun s_ : Int => [(0, Sl.v a0), (1, .int .i64 a1), (8, .int .i64 (IntKind.wrap .i64 (a2 - a1))), (9, .pointer (some (pt b24 0))), (10, .int .u64 r25), (11, .int .i64 s_)]) (fun s_ : Int => []) slices_breakPatternsCmpFunc_neigh_entry.F0
noncomputable def slices_breakPatternsCmpFunc_neigh_entry.K1 (a0 : Sl) (a1 : Int) (s26 : Int) (j38 : Int) : M (LS Int Unit) :=
  draw >>= fun _ =>
  idx a0.a a0.len (IntKind.wrap .i64 (a1 + j38)) 1 >>= fun p39 =>
  ld cP p39 >>= fun x40 =>
  idx a0.a a0.len s26 1 >>= fun p41 =>
  ld cP p41 >>= fun x42 =>
  idx a0.a a0.len s26 1 >>= fun p43 =>
  st cP p43 x40 >>= fun _ =>
  idx a0.a a0.len (IntKind.wrap .i64 (a1 + j38)) 1 >>= fun p44 =>
  st cP p44 x42 >>= fun _ =>
  pure (LS.next (IntKind.wrap .i64 (s26 + 1)))
theorem slices_breakPatternsCmpFunc_neigh_entry.K1_ok (a0 : Sl) (a1 : Int) (a2 : Int) (b24 : Nat) (r25 : Int) (s26 : Int) (j38 : Int) :
    SJ slices_breakPatternsCmpFunc_neigh_entry.cx [.code (c2 (c2 (c1 (c1 (c2 (c1 (c1 (c2 (c2 (c2 (c1 (c2 (c2 slices_breakPatternsCmpFunc_neigh_entry.B))))))))))))), .inBlock 1, .code (c2 (c2 (c1 (c1 (c2 (c2 (c2 (c1 (c2 (c2 slices_breakPatternsCmpFunc_neigh_entry.B)))))))))), .inLoop (c1 (c1 (c2 (c2 (c2 (c1 (c2 (c2 slices_breakPatternsCmpFunc_neigh_entry.B)))))))), .inBlock 0] [(0, Sl.v a0), (1, .int .i64 a1), (8, .int .i64 (IntKind.wrap .i64 (a2 - a1))), (9, .pointer (some (pt b24 0))), (10, .int .u64 r25), (11, .int .i64 s26), (12, .int .i64 j38)] [] (slices_breakPatternsCmpFunc_neigh_entry.K1 a0 a1 s26 j38) (slices_breakPatternsCmpFunc_neigh_entry.F1 a0 a1 a2 b24 r25) := by
  unfold slices_breakPatternsCmpFunc_neigh_entry.K1
  refine SJ.draw (id := 10) (kd := [0, 0, 0, 0, 0, 0, 0, 0, 0, 0, 0, 1, 0, 0, 0, 1, 0, 2, 0, 2]) (bef := [0, 0, 0, 0, 0, 24, 0, 0, 0, 384, 960, 1984, 0, 0, 12288, 28672, 65475, 131011, 262143, 524287]) (ord := [0, 1, 2, 3, 4, 5, 6, 7, 8, 9, 10, 11, 12, 13, 14, 15, 16, 17, 18, 19]) mixed ?_
  refine OJ.go 10 [(58, .int .i64 (IntKind.wrap .i64 (a1 + j38))), (57, .int .i64 j38), (56, .int .i64 a1), (55, Sl.v a0), (54, .int .i64 (IntKind.wrap .i64 (a1 + j38))), (53, .int .i64 j38), (52, .int .i64 a1), (51, Sl.v a0), (50, .int .i64 s26), (49, Sl.v a0)] ?_
  refine OJ.idxS (d := 59) (T := 108) (y := .tmp 55) (j := .tmp 58) (E := 100) (cap := a0.cap) (k := .i64) (fun p39 => ?_)
  refine OJ.ld (d := 60) (y := .tmp 59) (pend2 := fun x40 => [⟨11, 100, p39, cP.val x40⟩]) Ty100 (fun _ => rfl) (fun x40 => ?_)
  refine OJ.go 2 [(62, .int .i64 s26), (61, Sl.v a0)] ?_
  refine OJ.idxS (d := 63) (T := 108) (y := .tmp 61) (j := .tmp 62) (E := 100) (cap := a0.cap) (k := .i64) (fun p41 => ?_)
  refine OJ.ld (d := 64) (y := .tmp 63) (pend2 := fun x42 => [⟨15, 100, p41, cP.val x42⟩, ⟨11, 100, p39, cP.val x40⟩]) Ty100 (fun _ => rfl) (fun x42 => ?_)
  refine OJ.idxS (d := 65) (T := 108) (y := .tmp 49) (j := .tmp 50) (E := 100) (cap := a0.cap) (k := .i64) (fun p43 => ?_)
  refine OJ.st (y := .tmp 65) (z := .tmp 60) (owed := []) Ty100 ?_
  refine OW.nil ?_
  refine OJ.idxS (d := 66) (T := 108) (y := .tmp 51) (j := .tmp 54) (E := 100) (cap := a0.cap) (k := .i64) (fun p44 => ?_)
  refine OJ.st (y := .tmp 66) (z := .tmp 64) (owed := []) Ty100 ?_
  refine OW.nil ?_
  refine OJ.nil ?_
  refine SJ.inBlock ?_
  refine SJ.rg 3 ?_
  refine OJ.go 3 [(11, .int .i64 (IntKind.wrap .i64 (s26 + 1))), (37, .int .i64 (IntKind.wrap .i64 (s26 + 1))), (36, .int .i64 s26)] ?_
  refine OJ.nil ?_
  exact SJ.at_ [0, 1, 8, 9, 10, 11] rfl
noncomputable def slices_breakPatternsCmpFunc_neigh_entry.L1 (a0 : Sl) (a1 : Int) (a2 : Int) (b24 : Nat) (r25 : Int) (s26 : Int) : M (LS Int Unit) :=
  if s26 ≤ (IntKind.wrap .i64 ((IntKind.wrap .i64 (a1 + (IntKind.wrap .i64 ((IntKind.wrap .i64 (Int.tdiv (IntKind.wrap .i64 (a2 - a1)) 4)) * 2)))) + 1)) then
    slices_xorshift_Next (some (pt b24 0)) >>= fun r37 =>
    if (IntKind.wrap .i64 (band .u64 r37 (IntKind.wrap .u64 (r25 - 1)))) ≥ (IntKind.wrap .i64 (a2 - a1)) then
      slices_breakPatternsCmpFunc_neigh_entry.K1 a0 a1 s26 (IntKind.wrap .i64 ((IntKind.wrap .i64 (band .u64 r37 (IntKind.wrap .u64 (r25 - 1)))) - (IntKind.wrap .i64 (a2 - a1))))
    else
      slices_breakPatternsCmpFunc_neigh_entry.K1 a0 a1 s26 (IntKind.wrap .i64 (band .u64 r37 (IntKind.wrap .u64 (r25 - 1))))
  else
    pure (LS.done ())
theorem slices_breakPatternsCmpFunc_neigh_entry.L1_ok (a0 : Sl) (a1 : Int) (a2 : Int) (b24 : Nat) (r25 : Int) (s26 : Int) :
    SJ slices_breakPatternsCmpFunc_neigh_entry.cx [.code (c1 (c1 (c2 (c2 (c2 (c1 (c2 (c2 slices_breakPatternsCmpFunc_neigh_entry.B)))))))), .inLoop (c1 (c1 (c2 (c2 (c2 (c1 (c2 (c2 slices_breakPatternsCmpFunc_neigh_entry.B)))))))), .inBlock 0] [(0, Sl.v a0), (1, .int .i64 a1), (8, .int .i64 (IntKind.wrap .i64 (a2 - a1))), (9, .pointer (some (pt b24 0))), (10, .int .u64 r25), (11, .int .i64 s26)] [] (slices_breakPatternsCmpFunc_neigh_entry.L1 a0 a1 a2 b24 r25 s26) (slices_breakPatternsCmpFunc_neigh_entry.F1 a0 a1 a2 b24 r25) := by
  unfold slices_breakPatternsCmpFunc_neigh_entry.L1
  refine SJ.seq ?_
  refine SJ.sr 8 ?_
  refine OJ.go 8 [(35, .bool (decide (s26 ≤ (IntKind.wrap .i64 ((IntKind.wrap .i64 (a1 + (IntKind.wrap .i64 ((IntKind.wrap .i64 (Int.tdiv (IntKind.wrap .i64 (a2 - a1)) 4)) * 2)))) + 1))))), (34, .int .i64 (IntKind.wrap .i64 ((IntKind.wrap .i64 (a1 + (IntKind.wrap .i64 ((IntKind.wrap .i64 (Int.tdiv (IntKind.wrap .i64 (a2 - a1)) 4)) * 2)))) + 1))), (33, .int .i64 (IntKind.wrap .i64 (a1 + (IntKind.wrap .i64 ((IntKind.wrap .i64 (Int.tdiv (IntKind.wrap .i64 (a2 - a1)) 4)) * 2))))), (32, .int .i64 (IntKind.wrap .i64 ((IntKind.wrap .i64 (Int.tdiv (IntKind.wrap .i64 (a2 - a1)) 4)) * 2))), (31, .int .i64 (IntKind.wrap .i64 (Int.tdiv (IntKind.wrap .i64 (a2 - a1)) 4))), (30, .int .i64 (IntKind.wrap .i64 (a2 - a1))), (29, .int .i64 a1), (28, .int .i64 s26)] ?_
  refine OJ.nil ?_
  refine SJ.cond (t := (.tmp 35)) (b := decide (s26 ≤ (IntKind.wrap .i64 ((IntKind.wrap .i64 (a1 + (IntKind.wrap .i64 ((IntKind.wrap .i64 (Int.tdiv (IntKind.wrap .i64 (a2 - a1)) 4)) * 2)))) + 1)))) decide_eq_true_iff (fun hc46 => ?_) (fun hc46 => ?_)
  · refine SJ.skip ?_
    refine SJ.seq ?_
    refine SJ.block (id := 1) ?_
    refine SJ.sr 6 ?_
    refine OJ.call (d := 38) (g := 93) (ats := #[162]) (args := [.tmp 9]) (owed := []) F93 (slices_xorshift_Next_ok (some (pt b24 0))) (fun r37 => ?_)
    refine OW.nil ?_
    refine OJ.go 5 [(12, .int .i64 (IntKind.wrap .i64 (band .u64 r37 (IntKind.wrap .u64 (r25 - 1))))), (42, .int .i64 (IntKind.wrap .i64 (band .u64 r37 (IntKind.wrap .u64 (r25 - 1))))), (41, .int .u64 (band .u64 r37 (IntKind.wrap .u64 (r25 - 1)))), (40, .int .u64 (IntKind.wrap .u64 (r25 - 1))), (39, .int .u64 r25)] ?_
    refine OJ.nil ?_
    refine SJ.seq ?_
    refine SJ.sr 3 ?_
    refine OJ.go 3 [(45, .bool (decide ((IntKind.wrap .i64 (band .u64 r37 (IntKind.wrap .u64 (r25 - 1)))) ≥ (IntKind.wrap .i64 (a2 - a1))))), (44, .int .i64 (IntKind.wrap .i64 (a2 - a1))), (43, .int .i64 (IntKind.wrap .i64 (band .u64 r37 (IntKind.wrap .u64 (r25 - 1)))))] ?_
    refine OJ.nil ?_
    refine SJ.cond (t := (.tmp 45)) (b := decide ((IntKind.wrap .i64 (band .u64 r37 (IntKind.wrap .u64 (r25 - 1)))) ≥ (IntKind.wrap .i64 (a2 - a1)))) decide_eq_true_iff (fun hc45 => ?_) (fun hc45 => ?_)
    · refine SJ.rg 4 ?_
      refine OJ.go 4 [(12, .int .i64 (IntKind.wrap .i64 ((IntKind.wrap .i64 (band .u64 r37 (IntKind.wrap .u64 (r25 - 1)))) - (IntKind.wrap .i64 (a2 - a1))))), (48, .int .i64 (IntKind.wrap .i64 ((IntKind.wrap .i64 (band .u64 r37 (IntKind.wrap .u64 (r25 - 1)))) - (IntKind.wrap .i64 (a2 - a1))))), (47, .int .i64 (IntKind.wrap .i64 (a2 - a1))), (46, .int .i64 (IntKind.wrap .i64 (band .u64 r37 (IntKind.wrap .u64 (r25 - 1)))))] ?_
      refine OJ.nil ?_
      refine SJ.less [0, 1, 8, 9, 10, 11, 12] (m' := [(0, Sl.v a0), (1, .int .i64 a1), (8, .int .i64 (IntKind.wrap .i64 (a2 - a1))), (9, .pointer (some (pt b24 0))), (10, .int .u64 r25), (11, .int .i64 s26), (12, .int .i64 (IntKind.wrap .i64 ((IntKind.wrap .i64 (band .u64 r37 (IntKind.wrap .u64 (r25 - 1)))) - (IntKind.wrap .i64 (a2 - a1)))))]) ?_
      exact slices_breakPatternsCmpFunc_neigh_entry.K1_ok a0 a1 a2 b24 r25 s26 (IntKind.wrap .i64 ((IntKind.wrap .i64 (band .u64 r37 (IntKind.wrap .u64 (r25 - 1)))) - (IntKind.wrap .i64 (a2 - a1))))
    · refine SJ.skip ?_
      refine SJ.less [0, 1, 8, 9, 10, 11, 12] (m' := [(0, Sl.v a0), (1, .int .i64 a1), (8, .int .i64 (IntKind.wrap .i64 (a2 - a1))), (9, .pointer (some (pt b24 0))), (10, .int .u64 r25), (11, .int .i64 s26), (12, .int .i64 (IntKind.wrap .i64 (band .u64 r37 (IntKind.wrap .u64 (r25 - 1)))))]) ?_
      exact slices_breakPatternsCmpFunc_neigh_entry.K1_ok a0 a1 a2 b24 r25 s26 (IntKind.wrap .i64 (band .u64 r37 (IntKind.wrap .u64 (r25 - 1))))
  · refine SJ.exit (id := 0) (by rfl) ?_
    exact SJ.end_ rfl (Res.run (ys := []) .nil rfl)
noncomputable def slices_breakPatternsCmpFunc_neigh_entry (a0 : Sl) (a1 : Int) (a2 : Int) (a3 : (Option Addr) → (Option Addr) → M Int) : M Unit :=
  if (IntKind.wrap .i64 (a2 - a1)) ≥ 8 then
    newv 162 (cI .u64) 0 >>= fun b24 =>
    st (cI .u64) (pt b24 0) (IntKind.wrap .u64 (IntKind.wrap .i64 (a2 - a1))) >>= fun _ =>
    slices_nextPowerOfTwo (IntKind.wrap .i64 (a2 - a1)) >>= fun r25 =>
    loopM (fun s_ : Int => slices_breakPatternsCmpFunc_neigh_entry.L1 a0 a1 a2 b24 r25 s_) (IntKind.wrap .i64 ((IntKind.wrap .i64 (a1 + (IntKind.wrap .i64 ((IntKind.wrap .i64 (Int.tdiv (IntKind.wrap .i64 (a2 - a1)) 4)) * 2)))) - 1))
  else
    pure ()
theorem slices_breakPatternsCmpFunc_neigh_entry_ok (a0 : Sl) (a1 : Int) (a2 : Int) (a3v : Any) (a3 : (Option Addr) → (Option Addr) → M Int) (h_a3 : ∀ (x0_ : (Option Addr)), ∀ (x1_ : (Option Addr)), RefV Try.prog a3v.v [.pointer x0_, .pointer x1_] (a3 x0_ x1_) (fun r_ : Int => .int .i64 r_)) : Ref Try.prog 80 [Sl.v a0, .int .i64 a1, .int .i64 a2, a3v.v] (slices_breakPatternsCmpFunc_neigh_entry a0 a1 a2 a3) slices_breakPatternsCmpFunc_neigh_entry.out := by
  refine Ref.of (cd := slices_breakPatternsCmpFunc_neigh_entry.B) Try.func80 ?_
  show SJ slices_breakPatternsCmpFunc_neigh_entry.cx [.code slices_breakPatternsCmpFunc_neigh_entry.B] [(0, Sl.v a0), (1, .int .i64 a1), (2, .int .i64 a2), (3, a3v.v)] [] (slices_breakPatternsCmpFunc_neigh_entry a0 a1 a2 a3) slices_breakPatternsCmpFunc_neigh_entry.F0
  unfold slices_breakPatternsCmpFunc_neigh_entry
  refine SJ.sr 4 ?_
  refine OJ.go 4 [(8, .int .i64 (IntKind.wrap .i64 (a2 - a1))), (15, .int .i64 (IntKind.wrap .i64 (a2 - a1))), (14, .int .i64 a1), (13, .int .i64 a2)] ?_
  refine OJ.nil ?_
  refine SJ.sr 2 ?_
  refine OJ.go 2 [(17, .bool (decide ((IntKind.wrap .i64 (a2 - a1)) ≥ 8))), (16, .int .i64 (IntKind.wrap .i64 (a2 - a1)))] ?_
  refine OJ.nil ?_
  refine SJ.cond (t := (.tmp 17)) (b := decide ((IntKind.wrap .i64 (a2 - a1)) ≥ 8)) decide_eq_true_iff (fun hc47 => ?_) (fun hc47 => ?_)
  · refine SJ.sr 4 ?_
    refine OJ.go 2 [(19, .int .u64 (IntKind.wrap .u64 (IntKind.wrap .i64 (a2 - a1)))), (18, .int .i64 (IntKind.wrap .i64 (a2 - a1)))] ?_
    refine OJ.newOf (d := 9) (op := (.alloc 162)) (cd := (cI .u64)) (u := 0) (owed := []) (alloc_run Ty162) (fun b24 => ?_)
    refine OW.nil ?_
    refine OJ.st (y := .tmp 9) (z := .tmp 19) (owed := []) Ty162 ?_
    refine OW.nil ?_
    refine OJ.nil ?_
    refine SJ.sr 3 ?_
    refine OJ.go 1 [(20, .int .i64 (IntKind.wrap .i64 (a2 - a1)))] ?_
    refine OJ.call (d := 21) (g := 92) (ats := #[3]) (args := [.tmp 20]) (owed := []) F92 (slices_nextPowerOfTwo_ok (IntKind.wrap .i64 (a2 - a1))) (fun r25 => ?_)
    refine OW.nil ?_
    refine OJ.go 1 [(10, .int .u64 r25)] ?_
    refine OJ.nil ?_
    refine SJ.sr 7 ?_
    refine OJ.go 7 [(11, .int .i64 (IntKind.wrap .i64 ((IntKind.wrap .i64 (a1 + (IntKind.wrap .i64 ((IntKind.wrap .i64 (Int.tdiv (IntKind.wrap .i64 (a2 - a1)) 4)) * 2)))) - 1))), (27, .int .i64 (IntKind.wrap .i64 ((IntKind.wrap .i64 (a1 + (IntKind.wrap .i64 ((IntKind.wrap .i64 (Int.tdiv (IntKind.wrap .i64 (a2 - a1)) 4)) * 2)))) - 1))), (26, .int .i64 (IntKind.wrap .i64 (a1 + (IntKind.wrap .i64 ((IntKind.wrap .i64 (Int.tdiv (IntKind.wrap .i64 (a2 - a1)) 4)) * 2))))), (25, .int .i64 (IntKind.wrap .i64 ((IntKind.wrap .i64 (Int.tdiv (IntKind.wrap .i64 (a2 - a1)) 4)) * 2))), (24, .int .i64 (IntKind.wrap .i64 (Int.tdiv (IntKind.wrap .i64 (a2 - a1)) 4))), (23, .int .i64 (IntKind.wrap .i64 (a2 - a1))), (22, .int .i64 a1)] ?_
    refine OJ.nil ?_
    refine SJ.block (id := 0) ?_
    exact SJ.loop (fun s_ : Int => [(0, Sl.v a0), (1, .int .i64 a1), (8, .int .i64 (IntKind.wrap .i64 (a2 - a1))), (9, .pointer (some (pt b24 0))), (10, .int .u64 r25), (11, .int .i64 s_)]) (fun s_ : Int => []) [0, 1, 8, 9, 10, 11] rfl (fun _ _ => rfl) (fun s_ => slices_breakPatternsCmpFunc_neigh_entry.L1_ok a0 a1 a2 b24 r25 s_)
  · refine SJ.skip ?_
    exact SJ.end_ rfl (Res.run (ys := []) .nil rfl)

/-! ### slices.order2CmpFunc[*weir/neigh.entry]: function 96 -/
noncomputable def slices_order2CmpFunc_neigh_entry.B : Code := (Try.f96.body).getD .skip
noncomputable def slices_order2CmpFunc_neigh_entry.cx : Fx := ⟨Try.prog, 96, Try.f96⟩
noncomputable def slices_order2CmpFunc_neigh_entry.out (r_ : (Int × Int)) : Value := .tuple #[.int .i64 r_.1, .int .i64 r_.2]
noncomputable def slices_order2CmpFunc_neigh_entry.F0 (r_ : (Int × Int)) : Reach := .ret (slices_order2CmpFunc_neigh_entry.out r_)
noncomputable def slices_order2CmpFunc_neigh_entry (a0 : Sl) (a1 : Int) (a2 : Int) (a3 : (Option Addr)) (a4 : (Option Addr) → (Option Addr) → M Int) : M (Int × Int) :=
  draw >>= fun _ =>
  idx a0.a a0.len a2 1 >>= fun p1 =>
  ld cP p1 >>= fun x2 =>
  idx a0.a a0.len a1 1 >>= fun p3 =>
  ld cP p3 >>= fun x4 =>
  a4 x2 x4 >>= fun r5 =>
  if r5 < 0 then
    nilck a3 >>= fun p9 =>
    ld (cI .i64) p9 >>= fun x10 =>
    nilck a3 >>= fun p11 =>
    st (cI .i64) p11 (IntKind.wrap .i64 (x10 + 1)) >>= fun _ =>
    pure (a2, a1)
  else
    pure (a1, a2)
theorem slices_order2CmpFunc_neigh_entry_ok (a0 : Sl) (a1 : Int) (a2 : Int) (a3 : (Option Addr)) (a4v : Any) (a4 : (Option Addr) → (Option Addr) → M Int) (h_a4 : ∀ (x0_ : (Option Addr)), ∀ (x1_ : (Option Addr)), RefV Try.prog a4v.v [.pointer x0_, .pointer x1_] (a4 x0_ x1_) (fun r_ : Int => .int .i64 r_)) : Ref Try.prog 96 [Sl.v a0, .int .i64 a1, .int .i64 a2, .pointer a3, a4v.v] (slices_order2CmpFunc_neigh_entry a0 a1 a2 a3 a4) slices_order2CmpFunc_neigh_entry.out := by
  refine Ref.of (cd := slices_order2CmpFunc_neigh_entry.B) Try.func96 ?_
  show SJ slices_order2CmpFunc_neigh_entry.cx [.code slices_order2CmpFunc_neigh_entry.B] [(0, Sl.v a0), (1, .int .i64 a1), (2, .int .i64 a2), (3, .pointer a3), (4, a4v.v)] [] (slices_order2CmpFunc_neigh_entry a0 a1 a2 a3 a4) slices_order2CmpFunc_neigh_entry.F0
  unfold slices_order2CmpFunc_neigh_entry
  refine SJ.sr 2 ?_
  refine OJ.go 2 [(11, .int .i64 0), (10, .int .i64 0)] ?_
  refine OJ.nil ?_
  refine SJ.seq ?_
  refine SJ.seq ?_
  refine SJ.draw (id := 1) (kd := [0, 0, 0, 0, 1, 0, 0, 0, 1, 2, 0]) (bef := [0, 0, 0, 6, 14, 0, 0, 96, 224, 511, 1023]) (ord := [0, 1, 2, 3, 4, 5, 6, 7, 8, 9, 10]) mixed ?_
  refine OJ.go 3 [(14, .int .i64 a2), (13, Sl.v a0), (12, a4v.v)] ?_
  refine OJ.idxS (d := 15) (T := 108) (y := .tmp 13) (j := .tmp 14) (E := 100) (cap := a0.cap) (k := .i64) (fun p1 => ?_)
  refine OJ.ld (d := 16) (y := .tmp 15) (pend2 := fun x2 => [⟨4, 100, p1, cP.val x2⟩]) Ty100 (fun _ => rfl) (fun x2 => ?_)
  refine OJ.go 2 [(18, .int .i64 a1), (17, Sl.v a0)] ?_
  refine OJ.idxS (d := 19) (T := 108) (y := .tmp 17) (j := .tmp 18) (E := 100) (cap := a0.cap) (k := .i64) (fun p3 => ?_)
  refine OJ.ld (d := 20) (y := .tmp 19) (pend2 := fun x4 => [⟨8, 100, p3, cP.val x4⟩, ⟨4, 100, p1, cP.val x2⟩]) Ty100 (fun _ => rfl) (fun x4 => ?_)
  refine OJ.callV1 (d := 21) (ats := #[100, 100]) (args := [.tmp 16, .tmp 20]) (fo := .tmp 12) (vals := [.pointer x2, .pointer x4]) (owed := []) (h_a4 x2 x4) (fun r5 => ?_)
  refine OW.nil ?_
  refine OJ.go 1 [(22, .bool (decide (r5 < 0)))] ?_
  refine OJ.nil ?_
  refine SJ.cond (t := (.tmp 22)) (b := decide (r5 < 0)) decide_eq_true_iff (fun hc12 => ?_) (fun hc12 => ?_)
  · refine SJ.sr 6 ?_
    refine OJ.go 1 [(23, .pointer a3)] ?_
    refine OJ.nilck (d := 24) (y := .tmp 23) (fun p9 => ?_)
    refine OJ.ld (d := 25) (y := .tmp 24) (pend2 := fun x10 => []) Ty3 (fun _ => rfl) (fun x10 => ?_)
    refine OJ.go 1 [(26, .int .i64 (IntKind.wrap .i64 (x10 + 1)))] ?_
    refine OJ.nilck (d := 27) (y := .tmp 23) (fun p11 => ?_)
    refine OJ.st (y := .tmp 27) (z := .tmp 26) (owed := []) Ty3 ?_
    refine OW.nil ?_
    refine OJ.nil ?_
    refine SJ.sr 4 ?_
    refine OJ.go 4 [(11, .int .i64 a1), (10, .int .i64 a2), (29, .int .i64 a1), (28, .int .i64 a2)] ?_
    refine OJ.nil ?_
    exact SJ.ret rfl (Res.run (ys := [.int .i64 a2, .int .i64 a1]) (.tmp (by kernel_rfl) (.tmp (by kernel_rfl) .nil)) rfl)
  · refine SJ.skip ?_
    refine SJ.sr 4 ?_
    refine OJ.go 4 [(11, .int .i64 a2), (10, .int .i64 a1), (31, .int .i64 a2), (30, .int .i64 a1)] ?_
    refine OJ.nil ?_
    exact SJ.ret rfl (Res.run (ys := [.int .i64 a1, .int .i64 a2]) (.tmp (by kernel_rfl) (.tmp (by kernel_rfl) .nil)) rfl)

/-! ### slices.medianCmpFunc[*weir/neigh.entry]: function 95 -/
noncomputable def slices_medianCmpFunc_neigh_entry.B : Code := (Try.f95.body).getD .skip
noncomputable def slices_medianCmpFunc_neigh_entry.cx : Fx := ⟨Try.prog, 95, Try.f95⟩
noncomputable def slices_medianCmpFunc_neigh_entry.out (r_ : Int) : Value := .int .i64 r_
noncomputable def slices_medianCmpFunc_neigh_entry.F0 (r_ : Int) : Reach := .ret (slices_medianCmpFunc_neigh_entry.out r_)
noncomputable def slices_medianCmpFunc_neigh_entry (a0 : Sl) (a1 : Int) (a2 : Int) (a3 : Int) (a4 : (Option Addr)) (a5 : (Option Addr) → (Option Addr) → M Int) : M Int :=
  slices_order2CmpFunc_neigh_entry a0 a1 a2 a4 a5 >>= fun r1 =>
  slices_order2CmpFunc_neigh_entry a0 r1.2 a3 a4 a5 >>= fun r2 =>
  slices_order2CmpFunc_neigh_entry a0 r1.1 r2.1 a4 a5 >>= fun r3 =>
  pure r3.2
theorem slices_medianCmpFunc_neigh_entry_ok (a0 : Sl) (a1 : Int) (a2 : Int) (a3 : Int) (a4 : (Option Addr)) (a5v : Any) (a5 : (Option Addr) → (Option Addr) → M Int) (h_a5 : ∀ (x0_ : (Option Addr)), ∀ (x1_ : (Option Addr)), RefV Try.prog a5v.v [.pointer x0_, .pointer x1_] (a5 x0_ x1_) (fun r_ : Int => .int .i64 r_)) : Ref Try.prog 95 [Sl.v a0, .int .i64 a1, .int .i64 a2, .int .i64 a3, .pointer a4, a5v.v] (slices_medianCmpFunc_neigh_entry a0 a1 a2 a3 a4 a5) slices_medianCmpFunc_neigh_entry.out := by
  refine Ref.of (cd := slices_medianCmpFunc_neigh_entry.B) Try.func95 ?_
  show SJ slices_medianCmpFunc_neigh_entry.cx [.code slices_medianCmpFunc_neigh_entry.B] [(0, Sl.v a0), (1, .int .i64 a1), (2, .int .i64 a2), (3, .int .i64 a3), (4, .pointer a4), (5, a5v.v)] [] (slices_medianCmpFunc_neigh_entry a0 a1 a2 a3 a4 a5) slices_medianCmpFunc_neigh_entry.F0
  unfold slices_medianCmpFunc_neigh_entry
  refine SJ.sr 1 ?_
  refine OJ.go 1 [(12, .int .i64 0)] ?_
  refine OJ.nil ?_
  refine SJ.sr 11 ?_
  refine OJ.go 5 [(18, a5v.v), (17, .pointer a4), (16, .int .i64 a2), (15, .int .i64 a1), (14, Sl.v a0)] ?_
  refine OJ.call (d := 19) (g := 96) (ats := #[108, 3, 3, 166, 124]) (args := [.tmp 14, .tmp 15, .tmp 16, .tmp 17, .tmp 18]) (owed := []) F96 (slices_order2CmpFunc_neigh_entry_ok a0 a1 a2 a4 a5v a5 h_a5) (fun r1 => ?_)
  refine OW.nil ?_
  refine OJ.go 5 [(2, .int .i64 r1.2), (1, .int .i64 r1.1), (21, .int .i64 r1.2), (20, .int .i64 r1.1), (13, .tuple #[.int .i64 r1.1, .int .i64 r1.2])] ?_
  refine OJ.nil ?_
  refine SJ.sr 11 ?_
  refine OJ.go 5 [(27, a5v.v), (26, .pointer a4), (25, .int .i64 a3), (24, .int .i64 r1.2), (23, Sl.v a0)] ?_
  refine OJ.call (d := 28) (g := 96) (ats := #[108, 3, 3, 166, 124]) (args := [.tmp 23, .tmp 24, .tmp 25, .tmp 26, .tmp 27]) (owed := []) F96 (slices_order2CmpFunc_neigh_entry_ok a0 r1.2 a3 a4 a5v a5 h_a5) (fun r2 => ?_)
  refine OW.nil ?_
  refine OJ.go 5 [(3, .int .i64 r2.2), (2, .int .i64 r2.1), (30, .int .i64 r2.2), (29, .int .i64 r2.1), (22, .tuple #[.int .i64 r2.1, .int .i64 r2.2])] ?_
  refine OJ.nil ?_
  refine SJ.sr 11 ?_
  refine OJ.go 5 [(36, a5v.v), (35, .pointer a4), (34, .int .i64 r2.1), (33, .int .i64 r1.1), (32, Sl.v a0)] ?_
  refine OJ.call (d := 37) (g := 96) (ats := #[108, 3, 3, 166, 124]) (args := [.tmp 32, .tmp 33, .tmp 34, .tmp 35, .tmp 36]) (owed := []) F96 (slices_order2CmpFunc_neigh_entry_ok a0 r1.1 r2.1 a4 a5v a5 h_a5) (fun r3 => ?_)
  refine OW.nil ?_
  refine OJ.go 5 [(2, .int .i64 r3.2), (1, .int .i64 r3.1), (39, .int .i64 r3.2), (38, .int .i64 r3.1), (31, .tuple #[.int .i64 r3.1, .int .i64 r3.2])] ?_
  refine OJ.nil ?_
  refine SJ.sr 2 ?_
  refine OJ.go 2 [(12, .int .i64 r3.2), (40, .int .i64 r3.2)] ?_
  refine OJ.nil ?_
  exact SJ.ret rfl (Res.run (ys := [.int .i64 r3.2]) (.tmp (by kernel_rfl) .nil) rfl)

/-! ### slices.medianAdjacentCmpFunc[*weir/neigh.entry]: function 94 -/
noncomputable def slices_medianAdjacentCmpFunc_neigh_entry.B : Code := (Try.f94.body).getD .skip
noncomputable def slices_medianAdjacentCmpFunc_neigh_entry.cx : Fx := ⟨Try.prog, 94, Try.f94⟩
noncomputable def slices_medianAdjacentCmpFunc_neigh_entry.out (r_ : Int) : Value := .int .i64 r_
noncomputable def slices_medianAdjacentCmpFunc_neigh_entry.F0 (r_ : Int) : Reach := .ret (slices_medianAdjacentCmpFunc_neigh_entry.out r_)
noncomputable def slices_medianAdjacentCmpFunc_neigh_entry (a0 : Sl) (a1 : Int) (a2 : (Option Addr)) (a3 : (Option Addr) → (Option Addr) → M Int) : M Int :=
  slices_medianCmpFunc_neigh_entry a0 (IntKind.wrap .i64 (a1 - 1)) a1 (IntKind.wrap .i64 (a1 + 1)) a2 a3 >>= fun r1 =>
  pure r1
theorem slices_medianAdjacentCmpFunc_neigh_entry_ok (a0 : Sl) (a1 : Int) (a2 : (Option Addr)) (a3v : Any) (a3 : (Option Addr) → (Option Addr) → M Int) (h_a3 : ∀ (x0_ : (Option Addr)), ∀ (x1_ : (Option Addr)), RefV Try.prog a3v.v [.pointer x0_, .pointer x1_] (a3 x0_ x1_) (fun r_ : Int => .int .i64 r_)) : Ref Try.prog 94 [Sl.v a0, .int .i64 a1, .pointer a2, a3v.v] (slices_medianAdjacentCmpFunc_neigh_entry a0 a1 a2 a3) slices_medianAdjacentCmpFunc_neigh_entry.out := by
  refine Ref.of (cd := slices_medianAdjacentCmpFunc_neigh_entry.B) Try.func94 ?_
  show SJ slices_medianAdjacentCmpFunc_neigh_entry.cx [.code slices_medianAdjacentCmpFunc_neigh_entry.B] [(0, Sl.v a0), (1, .int .i64 a1), (2, .pointer a2), (3, a3v.v)] [] (slices_medianAdjacentCmpFunc_neigh_entry a0 a1 a2 a3) slices_medianAdjacentCmpFunc_neigh_entry.F0
  unfold slices_medianAdjacentCmpFunc_neigh_entry
  refine SJ.sr 1 ?_
  refine OJ.go 1 [(8, .int .i64 0)] ?_
  refine OJ.nil ?_
  refine SJ.sr 10 ?_
  refine OJ.go 8 [(16, a3v.v), (15, .pointer a2), (14, .int .i64 (IntKind.wrap .i64 (a1 + 1))), (13, .int .i64 a1), (12, .int .i64 a1), (11, .int .i64 (IntKind.wrap .i64 (a1 - 1))), (10, .int .i64 a1), (9, Sl.v a0)] ?_
  refine OJ.call (d := 17) (g := 95) (ats := #[108, 3, 3, 3, 166, 124]) (args := [.tmp 9, .tmp 11, .tmp 12, .tmp 14, .tmp 15, .tmp 16]) (owed := []) F95 (slices_medianCmpFunc_neigh_entry_ok a0 (IntKind.wrap .i64 (a1 - 1)) a1 (IntKind.wrap .i64 (a1 + 1)) a2 a3v a3 h_a3) (fun r1 => ?_)
  refine OW.nil ?_
  refine OJ.go 1 [(8, .int .i64 r1)] ?_
  refine OJ.nil ?_
  exact SJ.ret rfl (Res.run (ys := [.int .i64 r1]) (.tmp (by kernel_rfl) .nil) rfl)

/-! ### slices.choosePivotCmpFunc[*weir/neigh.entry]: function 81 -/
noncomputable def slices_choosePivotCmpFunc_neigh_entry.B : Code := (Try.f81.body).getD .skip
noncomputable def slices_choosePivotCmpFunc_neigh_entry.cx : Fx := ⟨Try.prog, 81, Try.f81⟩
noncomputable def slices_choosePivotCmpFunc_neigh_entry.out (r_ : (Int × Int)) : Value := .tuple #[.int .i64 r_.1, .int .i64 r_.2]
noncomputable def slices_choosePivotCmpFunc_neigh_entry.F0 (r_ : (Int × Int)) : Reach := .ret (slices_choosePivotCmpFunc_neigh_entry.out r_)
noncomputable def slices_choosePivotCmpFunc_neigh_entry (a0 : Sl) (a1 : Int) (a2 : Int) (a3 : (Option Addr) → (Option Addr) → M Int) : M (Int × Int) :=
  newv 3 (cI .i64) 0 >>= fun b1 =>
  if (IntKind.wrap .i64 (a2 - a1)) ≥ 8 then
    if (IntKind.wrap .i64 (a2 - a1)) ≥ 50 then
      slices_medianAdjacentCmpFunc_neigh_entry a0 (IntKind.wrap .i64 (a1 + (IntKind.wrap .i64 ((IntKind.wrap .i64 (Int.tdiv (IntKind.wrap .i64 (a2 - a1)) 4)) * 1)))) (some (pt b1 0)) a3 >>= fun r14 =>
      slices_medianAdjacentCmpFunc_neigh_entry a0 (IntKind.wrap .i64 (a1 + (IntKind.wrap .i64 ((IntKind.wrap .i64 (Int.tdiv (IntKind.wrap .i64 (a2 - a1)) 4)) * 2)))) (some (pt b1 0)) a3 >>= fun r15 =>
      slices_medianAdjacentCmpFunc_neigh_entry a0 (IntKind.wrap .i64 (a1 + (IntKind.wrap .i64 ((IntKind.wrap .i64 (Int.tdiv (IntKind.wrap .i64 (a2 - a1)) 4)) * 3)))) (some (pt b1 0)) a3 >>= fun r16 =>
      slices_medianCmpFunc_neigh_entry a0 r14 r15 r16 (some (pt b1 0)) a3 >>= fun r17 =>
      ld (cI .i64) (pt b1 0) >>= fun x18 =>
      if x18 = 0 then
        pure (r17, 1)
      else
        if x18 = 12 then
          pure (r17, 2)
        else
          pure (r17, 0)
    else
      slices_medianCmpFunc_neigh_entry a0 (IntKind.wrap .i64 (a1 + (IntKind.wrap .i64 ((IntKind.wrap .i64 (Int.tdiv (IntKind.wrap .i64 (a2 - a1)) 4)) * 1)))) (IntKind.wrap .i64 (a1 + (IntKind.wrap .i64 ((IntKind.wrap .i64 (Int.tdiv (IntKind.wrap .i64 (a2 - a1)) 4)) * 2)))) (IntKind.wrap .i64 (a1 + (IntKind.wrap .i64 ((IntKind.wrap .i64 (Int.tdiv (IntKind.wrap .i64 (a2 - a1)) 4)) * 3)))) (some (pt b1 0)) a3 >>= fun r22 =>
      ld (cI .i64) (pt b1 0) >>= fun x23 =>
      if x23 = 0 then
        pure (r22, 1)
      else
        if x23 = 12 then
          pure (r22, 2)
        else
          pure (r22, 0)
  else
    ld (cI .i64) (pt b1 0) >>= fun x28 =>
    if x28 = 0 then
      pure (IntKind.wrap .i64 (a1 + (IntKind.wrap .i64 ((IntKind.wrap .i64 (Int.tdiv (IntKind.wrap .i64 (a2 - a1)) 4)) * 2))), 1)
    else
      if x28 = 12 then
        pure (IntKind.wrap .i64 (a1 + (IntKind.wrap .i64 ((IntKind.wrap .i64 (Int.tdiv (IntKind.wrap .i64 (a2 - a1)) 4)) * 2))), 2)
      else
        pure (IntKind.wrap .i64 (a1 + (IntKind.wrap .i64 ((IntKind.wrap .i64 (Int.tdiv (IntKind.wrap .i64 (a2 - a1)) 4)) * 2))), 0)
theorem slices_choosePivotCmpFunc_neigh_entry_ok (a0 : Sl) (a1 : Int) (a2 : Int) (a3v : Any) (a3 : (Option Addr) → (Option Addr) → M Int) (h_a3 : ∀ (x0_ : (Option Addr)), ∀ (x1_ : (Option Addr)), RefV Try.prog a3v.v [.pointer x0_, .pointer x1_] (a3 x0_ x1_) (fun r_ : Int => .int .i64 r_)) : Ref Try.prog 81 [Sl.v a0, .int .i64 a1, .int .i64 a2, a3v.v] (slices_choosePivotCmpFunc_neigh_entry a0 a1 a2 a3) slices_choosePivotCmpFunc_neigh_entry.out := by
  refine Ref.of (cd := slices_choosePivotCmpFunc_neigh_entry.B) Try.func81 ?_
  show SJ slices_choosePivotCmpFunc_neigh_entry.cx [.code slices_choosePivotCmpFunc_neigh_entry.B] [(0, Sl.v a0), (1, .int .i64 a1), (2, .int .i64 a2), (3, a3v.v)] [] (slices_choosePivotCmpFunc_neigh_entry a0 a1 a2 a3) slices_choosePivotCmpFunc_neigh_entry.F0
  unfold slices_choosePivotCmpFunc_neigh_entry
  refine SJ.sr 2 ?_
  refine OJ.go 2 [(9, .int .i64 0), (8, .int .i64 0)] ?_
  refine OJ.nil ?_
  refine SJ.sr 4 ?_
  refine OJ.go 4 [(10, .int .i64 (IntKind.wrap .i64 (a2 - a1))), (17, .int .i64 (IntKind.wrap .i64 (a2 - a1))), (16, .int .i64 a1), (15, .int .i64 a2)] ?_
  refine OJ.nil ?_
  refine SJ.sr 1 ?_
  refine OJ.newOf (d := 11) (op := (.alloc 3)) (cd := (cI .i64)) (u := 0) (owed := []) (alloc_run Ty3) (fun b1 => ?_)
  refine OW.nil ?_
  refine OJ.nil ?_
  refine SJ.sr 6 ?_
  refine OJ.go 6 [(12, .int .i64 (IntKind.wrap .i64 (a1 + (IntKind.wrap .i64 ((IntKind.wrap .i64 (Int.tdiv (IntKind.wrap .i64 (a2 - a1)) 4)) * 1))))), (22, .int .i64 (IntKind.wrap .i64 (a1 + (IntKind.wrap .i64 ((IntKind.wrap .i64 (Int.tdiv (IntKind.wrap .i64 (a2 - a1)) 4)) * 1))))), (21, .int .i64 (IntKind.wrap .i64 ((IntKind.wrap .i64 (Int.tdiv (IntKind.wrap .i64 (a2 - a1)) 4)) * 1))), (20, .int .i64 (IntKind.wrap .i64 (Int.tdiv (IntKind.wrap .i64 (a2 - a1)) 4))), (19, .int .i64 (IntKind.wrap .i64 (a2 - a1))), (18, .int .i64 a1)] ?_
  refine OJ.nil ?_
  refine SJ.sr 6 ?_
  refine OJ.go 6 [(13, .int .i64 (IntKind.wrap .i64 (a1 + (IntKind.wrap .i64 ((IntKind.wrap .i64 (Int.tdiv (IntKind.wrap .i64 (a2 - a1)) 4)) * 2))))), (27, .int .i64 (IntKind.wrap .i64 (a1 + (IntKind.wrap .i64 ((IntKind.wrap .i64 (Int.tdiv (IntKind.wrap .i64 (a2 - a1)) 4)) * 2))))), (26, .int .i64 (IntKind.wrap .i64 ((IntKind.wrap .i64 (Int.tdiv (IntKind.wrap .i64 (a2 - a1)) 4)) * 2))), (25, .int .i64 (IntKind.wrap .i64 (Int.tdiv (IntKind.wrap .i64 (a2 - a1)) 4))), (24, .int .i64 (IntKind.wrap .i64 (a2 - a1))), (23, .int .i64 a1)] ?_
  refine OJ.nil ?_
  refine SJ.sr 6 ?_
  refine OJ.go 6 [(14, .int .i64 (IntKind.wrap .i64 (a1 + (IntKind.wrap .i64 ((IntKind.wrap .i64 (Int.tdiv (IntKind.wrap .i64 (a2 - a1)) 4)) * 3))))), (32, .int .i64 (IntKind.wrap .i64 (a1 + (IntKind.wrap .i64 ((IntKind.wrap .i64 (Int.tdiv (IntKind.wrap .i64 (a2 - a1)) 4)) * 3))))), (31, .int .i64 (IntKind.wrap .i64 ((IntKind.wrap .i64 (Int.tdiv (IntKind.wrap .i64 (a2 - a1)) 4)) * 3))), (30, .int .i64 (IntKind.wrap .i64 (Int.tdiv (IntKind.wrap .i64 (a2 - a1)) 4))), (29, .int .i64 (IntKind.wrap .i64 (a2 - a1))), (28, .int .i64 a1)] ?_
  refine OJ.nil ?_
  refine SJ.seq ?_
  refine SJ.sr 2 ?_
  refine OJ.go 2 [(34, .bool (decide ((IntKind.wrap .i64 (a2 - a1)) ≥ 8))), (33, .int .i64 (IntKind.wrap .i64 (a2 - a1)))] ?_
  refine OJ.nil ?_
  refine SJ.cond (t := (.tmp 34)) (b := decide ((IntKind.wrap .i64 (a2 - a1)) ≥ 8)) decide_eq_true_iff (fun hc32 => ?_) (fun hc32 => ?_)
  · refine SJ.seq ?_
    refine SJ.sr 2 ?_
    refine OJ.go 2 [(36, .bool (decide ((IntKind.wrap .i64 (a2 - a1)) ≥ 50))), (35, .int .i64 (IntKind.wrap .i64 (a2 - a1)))] ?_
    refine OJ.nil ?_
    refine SJ.cond (t := (.tmp 36)) (b := decide ((IntKind.wrap .i64 (a2 - a1)) ≥ 50)) decide_eq_true_iff (fun hc27 => ?_) (fun hc27 => ?_)
    · refine SJ.sr 5 ?_
      refine OJ.go 3 [(39, a3v.v), (38, .int .i64 (IntKind.wrap .i64 (a1 + (IntKind.wrap .i64 ((IntKind.wrap .i64 (Int.tdiv (IntKind.wrap .i64 (a2 - a1)) 4)) * 1))))), (37, Sl.v a0)] ?_
      refine OJ.call (d := 40) (g := 94) (ats := #[108, 3, 166, 124]) (args := [.tmp 37, .tmp 38, .tmp 11, .tmp 39]) (owed := []) F94 (slices_medianAdjacentCmpFunc_neigh_entry_ok a0 (IntKind.wrap .i64 (a1 + (IntKind.wrap .i64 ((IntKind.wrap .i64 (Int.tdiv (IntKind.wrap .i64 (a2 - a1)) 4)) * 1)))) (some (pt b1 0)) a3v a3 h_a3) (fun r14 => ?_)
      refine OW.nil ?_
      refine OJ.go 1 [(12, .int .i64 r14)] ?_
      refine OJ.nil ?_
      refine SJ.sr 5 ?_
      refine OJ.go 3 [(43, a3v.v), (42, .int .i64 (IntKind.wrap .i64 (a1 + (IntKind.wrap .i64 ((IntKind.wrap .i64 (Int.tdiv (IntKind.wrap .i64 (a2 - a1)) 4)) * 2))))), (41, Sl.v a0)] ?_
      refine OJ.call (d := 44) (g := 94) (ats := #[108, 3, 166, 124]) (args := [.tmp 41, .tmp 42, .tmp 11, .tmp 43]) (owed := []) F94 (slices_medianAdjacentCmpFunc_neigh_entry_ok a0 (IntKind.wrap .i64 (a1 + (IntKind.wrap .i64 ((IntKind.wrap .i64 (Int.tdiv (IntKind.wrap .i64 (a2 - a1)) 4)) * 2)))) (some (pt b1 0)) a3v a3 h_a3) (fun r15 => ?_)
      refine OW.nil ?_
      refine OJ.go 1 [(13, .int .i64 r15)] ?_
      refine OJ.nil ?_
      refine SJ.rg 5 ?_
      refine OJ.go 3 [(47, a3v.v), (46, .int .i64 (IntKind.wrap .i64 (a1 + (IntKind.wrap .i64 ((IntKind.wrap .i64 (Int.tdiv (IntKind.wrap .i64 (a2 - a1)) 4)) * 3))))), (45, Sl.v a0)] ?_
      refine OJ.call (d := 48) (g := 94) (ats := #[108, 3, 166, 124]) (args := [.tmp 45, .tmp 46, .tmp 11, .tmp 47]) (owed := []) F94 (slices_medianAdjacentCmpFunc_neigh_entry_ok a0 (IntKind.wrap .i64 (a1 + (IntKind.wrap .i64 ((IntKind.wrap .i64 (Int.tdiv (IntKind.wrap .i64 (a2 - a1)) 4)) * 3)))) (some (pt b1 0)) a3v a3 h_a3) (fun r16 => ?_)
      refine OW.nil ?_
      refine OJ.go 1 [(14, .int .i64 r16)] ?_
      refine OJ.nil ?_
      refine SJ.rg 7 ?_
      refine OJ.go 5 [(53, a3v.v), (52, .int .i64 r16), (51, .int .i64 r15), (50, .int .i64 r14), (49, Sl.v a0)] ?_
      refine OJ.call (d := 54) (g := 95) (ats := #[108, 3, 3, 3, 166, 124]) (args := [.tmp 49, .tmp 50, .tmp 51, .tmp 52, .tmp 11, .tmp 53]) (owed := []) F95 (slices_medianCmpFunc_neigh_entry_ok a0 r14 r15 r16 (some (pt b1 0)) a3v a3 h_a3) (fun r17 => ?_)
      refine OW.nil ?_
      refine OJ.go 1 [(13, .int .i64 r17)] ?_
      refine OJ.nil ?_
      refine SJ.sr 1 ?_
      refine OJ.ld (d := 55) (y := .tmp 11) (pend2 := fun x18 => []) Ty3 (fun _ => rfl) (fun x18 => ?_)
      refine OJ.nil ?_
      refine SJ.block (id := 0) ?_
      refine SJ.sr 2 ?_
      refine OJ.go 2 [(57, .bool (x18 == 0)), (58, .bool (x18 == 0))] ?_
      refine OJ.nil ?_
      refine SJ.cond (t := (.tmp 57)) (b := (x18 == 0)) beq_iff_eq (fun hc21 => ?_) (fun hc21 => ?_)
      · refine SJ.sr 3 ?_
        refine OJ.go 3 [(9, .int .i64 1), (8, .int .i64 r17), (59, .int .i64 r17)] ?_
        refine OJ.nil ?_
        exact SJ.ret rfl (Res.run (ys := [.int .i64 r17, .int .i64 1]) (.tmp (by kernel_rfl) (.tmp (by kernel_rfl) .nil)) rfl)
      · refine SJ.sr 2 ?_
        refine OJ.go 2 [(60, .bool (x18 == 12)), (61, .bool (x18 == 12))] ?_
        refine OJ.nil ?_
        refine SJ.cond (t := (.tmp 60)) (b := (x18 == 12)) beq_iff_eq (fun hc20 => ?_) (fun hc20 => ?_)
        · refine SJ.sr 3 ?_
          refine OJ.go 3 [(9, .int .i64 2), (8, .int .i64 r17), (62, .int .i64 r17)] ?_
          refine OJ.nil ?_
          exact SJ.ret rfl (Res.run (ys := [.int .i64 r17, .int .i64 2]) (.tmp (by kernel_rfl) (.tmp (by kernel_rfl) .nil)) rfl)
        · refine SJ.sr 3 ?_
          refine OJ.go 3 [(9, .int .i64 0), (8, .int .i64 r17), (56, .int .i64 r17)] ?_
          refine OJ.nil ?_
          exact SJ.ret rfl (Res.run (ys := [.int .i64 r17, .int .i64 0]) (.tmp (by kernel_rfl) (.tmp (by kernel_rfl) .nil)) rfl)
    · refine SJ.skip ?_
      refine SJ.rg 7 ?_
      refine OJ.go 5 [(53, a3v.v), (52, .int .i64 (IntKind.wrap .i64 (a1 + (IntKind.wrap .i64 ((IntKind.wrap .i64 (Int.tdiv (IntKind.wrap .i64 (a2 - a1)) 4)) * 3))))), (51, .int .i64 (IntKind.wrap .i64 (a1 + (IntKind.wrap .i64 ((IntKind.wrap .i64 (Int.tdiv (IntKind.wrap .i64 (a2 - a1)) 4)) * 2))))), (50, .int .i64 (IntKind.wrap .i64 (a1 + (IntKind.wrap .i64 ((IntKind.wrap .i64 (Int.tdiv (IntKind.wrap .i64 (a2 - a1)) 4)) * 1))))), (49, Sl.v a0)] ?_
      refine OJ.call (d := 54) (g := 95) (ats := #[108, 3, 3, 3, 166, 124]) (args := [.tmp 49, .tmp 50, .tmp 51, .tmp 52, .tmp 11, .tmp 53]) (owed := []) F95 (slices_medianCmpFunc_neigh_entry_ok a0 (IntKind.wrap .i64 (a1 + (IntKind.wrap .i64 ((IntKind.wrap .i64 (Int.tdiv (IntKind.wrap .i64 (a2 - a1)) 4)) * 1)))) (IntKind.wrap .i64 (a1 + (IntKind.wrap .i64 ((IntKind.wrap .i64 (Int.tdiv (IntKind.wrap .i64 (a2 - a1)) 4)) * 2)))) (IntKind.wrap .i64 (a1 + (IntKind.wrap .i64 ((IntKind.wrap .i64 (Int.tdiv (IntKind.wrap .i64 (a2 - a1)) 4)) * 3)))) (some (pt b1 0)) a3v a3 h_a3) (fun r22 => ?_)
      refine OW.nil ?_
      refine OJ.go 1 [(13, .int .i64 r22)] ?_
      refine OJ.nil ?_
      refine SJ.sr 1 ?_
      refine OJ.ld (d := 55) (y := .tmp 11) (pend2 := fun x23 => []) Ty3 (fun _ => rfl) (fun x23 => ?_)
      refine OJ.nil ?_
      refine SJ.block (id := 0) ?_
      refine SJ.sr 2 ?_
      refine OJ.go 2 [(57, .bool (x23 == 0)), (58, .bool (x23 == 0))] ?_
      refine OJ.nil ?_
      refine SJ.cond (t := (.tmp 57)) (b := (x23 == 0)) beq_iff_eq (fun hc26 => ?_) (fun hc26 => ?_)
      · refine SJ.sr 3 ?_
        refine OJ.go 3 [(9, .int .i64 1), (8, .int .i64 r22), (59, .int .i64 r22)] ?_
        refine OJ.nil ?_
        exact SJ.ret rfl (Res.run (ys := [.int .i64 r22, .int .i64 1]) (.tmp (by kernel_rfl) (.tmp (by kernel_rfl) .nil)) rfl)
      · refine SJ.sr 2 ?_
        refine OJ.go 2 [(60, .bool (x23 == 12)), (61, .bool (x23 == 12))] ?_
        refine OJ.nil ?_
        refine SJ.cond (t := (.tmp 60)) (b := (x23 == 12)) beq_iff_eq (fun hc25 => ?_) (fun hc25 => ?_)
        · refine SJ.sr 3 ?_
          refine OJ.go 3 [(9, .int .i64 2), (8, .int .i64 r22), (62, .int .i64 r22)] ?_
          refine OJ.nil ?_
          exact SJ.ret rfl (Res.run (ys := [.int .i64 r22, .int .i64 2]) (.tmp (by kernel_rfl) (.tmp (by kernel_rfl) .nil)) rfl)
        · refine SJ.sr 3 ?_
          refine OJ.go 3 [(9, .int .i64 0), (8, .int .i64 r22), (56, .int .i64 r22)] ?_
          refine OJ.nil ?_
          exact SJ.ret rfl (Res.run (ys := [.int .i64 r22, .int .i64 0]) (.tmp (by kernel_rfl) (.tmp (by kernel_rfl) .nil)) rfl)
  · refine SJ.skip ?_
    refine SJ.sr 1 ?_
    refine OJ.ld (d := 55) (y := .tmp 11) (pend2 := fun x28 => []) Ty3 (fun _ => rfl) (fun x28 => ?_)
    refine OJ.nil ?_
    refine SJ.block (id := 0) ?_
    refine SJ.sr 2 ?_
    refine OJ.go 2 [(57, .bool (x28 == 0)), (58, .bool (x28 == 0))] ?_
    refine OJ.nil ?_
    refine SJ.cond (t := (.tmp 57)) (b := (x28 == 0)) beq_iff_eq (fun hc31 => ?_) (fun hc31 => ?_)
    · refine SJ.sr 3 ?_
      refine OJ.go 3 [(9, .int .i64 1), (8, .int .i64 (IntKind.wrap .i64 (a1 + (IntKind.wrap .i64 ((IntKind.wrap .i64 (Int.tdiv (IntKind.wrap .i64 (a2 - a1)) 4)) * 2))))), (59, .int .i64 (IntKind.wrap .i64 (a1 + (IntKind.wrap .i64 ((IntKind.wrap .i64 (Int.tdiv (IntKind.wrap .i64 (a2 - a1)) 4)) * 2)))))] ?_
      refine OJ.nil ?_
      exact SJ.ret rfl (Res.run (ys := [.int .i64 (IntKind.wrap .i64 (a1 + (IntKind.wrap .i64 ((IntKind.wrap .i64 (Int.tdiv (IntKind.wrap .i64 (a2 - a1)) 4)) * 2)))), .int .i64 1]) (.tmp (by kernel_rfl) (.tmp (by kernel_rfl) .nil)) rfl)
    · refine SJ.sr 2 ?_
      refine OJ.go 2 [(60, .bool (x28 == 12)), (61, .bool (x28 == 12))] ?_
      refine OJ.nil ?_
      refine SJ.cond (t := (.tmp 60)) (b := (x28 == 12)) beq_iff_eq (fun hc30 => ?_) (fun hc30 => ?_)
      · refine SJ.sr 3 ?_
        refine OJ.go 3 [(9, .int .i64 2), (8, .int .i64 (IntKind.wrap .i64 (a1 + (IntKind.wrap .i64 ((IntKind.wrap .i64 (Int.tdiv (IntKind.wrap .i64 (a2 - a1)) 4)) * 2))))), (62, .int .i64 (IntKind.wrap .i64 (a1 + (IntKind.wrap .i64 ((IntKind.wrap .i64 (Int.tdiv (IntKind.wrap .i64 (a2 - a1)) 4)) * 2)))))] ?_
        refine OJ.nil ?_
        exact SJ.ret rfl (Res.run (ys := [.int .i64 (IntKind.wrap .i64 (a1 + (IntKind.wrap .i64 ((IntKind.wrap .i64 (Int.tdiv (IntKind.wrap .i64 (a2 - a1)) 4)) * 2)))), .int .i64 2]) (.tmp (by kernel_rfl) (.tmp (by kernel_rfl) .nil)) rfl)
      · refine SJ.sr 3 ?_
        refine OJ.go 3 [(9, .int .i64 0), (8, .int .i64 (IntKind.wrap .i64 (a1 + (IntKind.wrap .i64 ((IntKind.wrap .i64 (Int.tdiv (IntKind.wrap .i64 (a2 - a1)) 4)) * 2))))), (56, .int .i64 (IntKind.wrap .i64 (a1 + (IntKind.wrap .i64 ((IntKind.wrap .i64 (Int.tdiv (IntKind.wrap .i64 (a2 - a1)) 4)) * 2)))))] ?_
        refine OJ.nil ?_
        exact SJ.ret rfl (Res.run (ys := [.int .i64 (IntKind.wrap .i64 (a1 + (IntKind.wrap .i64 ((IntKind.wrap .i64 (Int.tdiv (IntKind.wrap .i64 (a2 - a1)) 4)) * 2)))), .int .i64 0]) (.tmp (by kernel_rfl) (.tmp (by kernel_rfl) .nil)) rfl)

/-! ### slices.reverseRangeCmpFunc[*weir/neigh.entry]: function 82 -/
noncomputable def slices_reverseRangeCmpFunc_neigh_entry.B : Code := (Try.f82.body).getD .skip
noncomputable def slices_reverseRangeCmpFunc_neigh_entry.cx : Fx := ⟨Try.prog, 82, Try.f82⟩
noncomputable def slices_reverseRangeCmpFunc_neigh_entry.out (r_ : Unit) : Value := .tuple #[]
noncomputable def slices_reverseRangeCmpFunc_neigh_entry.F0 (r_ : Unit) : Reach := .ret (slices_reverseRangeCmpFunc_neigh_entry.out r_)
noncomputable def slices_reverseRangeCmpFunc_neigh_entry.F1 (a0 : Sl) : (LS (Int × Int) Unit) → Reach := loopF [.inLoop (c1 (c1 (c2 (c2 slices_reverseRangeCmpFunc_neigh_entry.B)))), .inBlock 0] (fun s_ : (Int × Int) => [(0, Sl.v a0), (8, .int .i64 s_.1), (9, .int .i64 s_.2)]) (fun s_ : (Int × Int) => []) slices_reverseRangeCmpFunc_neigh_entry.F0
noncomputable def slices_reverseRangeCmpFunc_neigh_entry.L1 (a0 : Sl) (s1 : Int) (s2 : Int) : M (LS (Int × Int) Unit) :=
  if s1 < s2 then
    draw >>= fun _ =>
    idx a0.a a0.len s2 1 >>= fun p3 =>
    ld cP p3 >>= fun x4 =>
    idx a0.a a0.len s1 1 >>= fun p5 =>
    ld cP p5 >>= fun x6 =>
    idx a0.a a0.len s1 1 >>= fun p7 =>
    st cP p7 x4 >>= fun _ =>
    idx a0.a a0.len s2 1 >>= fun p8 =>
    st cP p8 x6 >>= fun _ =>
    pure (LS.next (IntKind.wrap .i64 (s1 + 1), IntKind.wrap .i64 (s2 - 1)))
  else
    pure (LS.done ())
theorem slices_reverseRangeCmpFunc_neigh_entry.L1_ok (a0 : Sl) (s1 : Int) (s2 : Int) :
    SJ slices_reverseRangeCmpFunc_neigh_entry.cx [.code (c1 (c1 (c2 (c2 slices_reverseRangeCmpFunc_neigh_entry.B)))), .inLoop (c1 (c1 (c2 (c2 slices_reverseRangeCmpFunc_neigh_entry.B)))), .inBlock 0] [(0, Sl.v a0), (8, .int .i64 s1), (9, .int .i64 s2)] [] (slices_reverseRangeCmpFunc_neigh_entry.L1 a0 s1 s2) (slices_reverseRangeCmpFunc_neigh_entry.F1 a0) := by
  unfold slices_reverseRangeCmpFunc_neigh_entry.L1
  refine SJ.seq ?_
  refine SJ.sr 3 ?_
  refine OJ.go 3 [(15, .bool (decide (s1 < s2))), (14, .int .i64 s2), (13, .int .i64 s1)] ?_
  refine OJ.nil ?_
  refine SJ.cond (t := (.tmp 15)) (b := decide (s1 < s2)) decide_eq_true_iff (fun hc9 => ?_) (fun hc9 => ?_)
  · refine SJ.skip ?_
    refine SJ.block (id := 1) ?_
    refine SJ.seq ?_
    refine SJ.draw (id := 3) (kd := [0, 0, 0, 0, 0, 0, 0, 1, 0, 0, 0, 1, 0, 2, 0, 2]) (bef := [0, 0, 0, 0, 0, 0, 48, 112, 0, 0, 768, 1792, 4083, 8179, 16383, 32767]) (ord := [0, 1, 2, 3, 4, 5, 6, 7, 8, 9, 10, 11, 12, 13, 14, 15]) mixed ?_
    refine OJ.go 6 [(21, .int .i64 s2), (20, Sl.v a0), (19, .int .i64 s2), (18, Sl.v a0), (17, .int .i64 s1), (16, Sl.v a0)] ?_
    refine OJ.idxS (d := 22) (T := 108) (y := .tmp 20) (j := .tmp 21) (E := 100) (cap := a0.cap) (k := .i64) (fun p3 => ?_)
    refine OJ.ld (d := 23) (y := .tmp 22) (pend2 := fun x4 => [⟨7, 100, p3, cP.val x4⟩]) Ty100 (fun _ => rfl) (fun x4 => ?_)
    refine OJ.go 2 [(25, .int .i64 s1), (24, Sl.v a0)] ?_
    refine OJ.idxS (d := 26) (T := 108) (y := .tmp 24) (j := .tmp 25) (E := 100) (cap := a0.cap) (k := .i64) (fun p5 => ?_)
    refine OJ.ld (d := 27) (y := .tmp 26) (pend2 := fun x6 => [⟨11, 100, p5, cP.val x6⟩, ⟨7, 100, p3, cP.val x4⟩]) Ty100 (fun _ => rfl) (fun x6 => ?_)
    refine OJ.idxS (d := 28) (T := 108) (y := .tmp 16) (j := .tmp 17) (E := 100) (cap := a0.cap) (k := .i64) (fun p7 => ?_)
    refine OJ.st (y := .tmp 28) (z := .tmp 23) (owed := []) Ty100 ?_
    refine OW.nil ?_
    refine OJ.idxS (d := 29) (T := 108) (y := .tmp 18) (j := .tmp 19) (E := 100) (cap := a0.cap) (k := .i64) (fun p8 => ?_)
    refine OJ.st (y := .tmp 29) (z := .tmp 27) (owed := []) Ty100 ?_
    refine OW.nil ?_
    refine OJ.nil ?_
    refine SJ.sr 3 ?_
    refine OJ.go 3 [(8, .int .i64 (IntKind.wrap .i64 (s1 + 1))), (31, .int .i64 (IntKind.wrap .i64 (s1 + 1))), (30, .int .i64 s1)] ?_
    refine OJ.nil ?_
    refine SJ.rg 3 ?_
    refine OJ.go 3 [(9, .int .i64 (IntKind.wrap .i64 (s2 - 1))), (33, .int .i64 (IntKind.wrap .i64 (s2 - 1))), (32, .int .i64 s2)] ?_
    refine OJ.nil ?_
    refine SJ.inBlock ?_
    exact SJ.at_ [0, 8, 9] rfl
  · refine SJ.exit (id := 0) (by rfl) ?_
    exact SJ.end_ rfl (Res.run (ys := []) .nil rfl)
noncomputable def slices_reverseRangeCmpFunc_neigh_entry (a0 : Sl) (a1 : Int) (a2 : Int) (a3 : (Option Addr) → (Option Addr) → M Int) : M Unit :=
  loopM (fun s_ : (Int × Int) => slices_reverseRangeCmpFunc_neigh_entry.L1 a0 s_.1 s_.2) (a1, IntKind.wrap .i64 (a2 - 1))
theorem slices_reverseRangeCmpFunc_neigh_entry_ok (a0 : Sl) (a1 : Int) (a2 : Int) (a3v : Any) (a3 : (Option Addr) → (Option Addr) → M Int) (h_a3 : ∀ (x0_ : (Option Addr)), ∀ (x1_ : (Option Addr)), RefV Try.prog a3v.v [.pointer x0_, .pointer x1_] (a3 x0_ x1_) (fun r_ : Int => .int .i64 r_)) : Ref Try.prog 82 [Sl.v a0, .int .i64 a1, .int .i64 a2, a3v.v] (slices_reverseRangeCmpFunc_neigh_entry a0 a1 a2 a3) slices_reverseRangeCmpFunc_neigh_entry.out := by
  refine Ref.of (cd := slices_reverseRangeCmpFunc_neigh_entry.B) Try.func82 ?_
  show SJ slices_reverseRangeCmpFunc_neigh_entry.cx [.code slices_reverseRangeCmpFunc_neigh_entry.B] [(0, Sl.v a0), (1, .int .i64 a1), (2, .int .i64 a2), (3, a3v.v)] [] (slices_reverseRangeCmpFunc_neigh_entry a0 a1 a2 a3) slices_reverseRangeCmpFunc_neigh_entry.F0
  unfold slices_reverseRangeCmpFunc_neigh_entry
  refine SJ.sr 2 ?_
  refine OJ.go 2 [(8, .int .i64 a1), (10, .int .i64 a1)] ?_
  refine OJ.nil ?_
  refine SJ.sr 3 ?_
  refine OJ.go 3 [(9, .int .i64 (IntKind.wrap .i64 (a2 - 1))), (12, .int .i64 (IntKind.wrap .i64 (a2 - 1))), (11, .int .i64 a2)] ?_
  refine OJ.nil ?_
  refine SJ.block (id := 0) ?_
  exact SJ.loop (fun s_ : (Int × Int) => [(0, Sl.v a0), (8, .int .i64 s_.1), (9, .int .i64 s_.2)]) (fun s_ : (Int × Int) => []) [0, 8, 9] rfl (fun _ _ => rfl) (fun s_ => slices_reverseRangeCmpFunc_neigh_entry.L1_ok a0 s_.1 s_.2)
end Go.Proofs.Ytlkhijflgbobjaa.Lx
