/- Programs of the M-world for Go functions, each with the proof that the Go text does what it says. Printed by lxgen.py. -/
import Derived.Test.YtlkhijflgbobjaaLxT
import Derived.Test.YtlkhijflgbobjaaLxP0
import Derived.Test.YtlkhijflgbobjaaLxP1
import Derived.Test.YtlkhijflgbobjaaLxP2
import Derived.Test.YtlkhijflgbobjaaLxP3
import Derived.Test.YtlkhijflgbobjaaLxP4
set_option linter.unusedVariables false
set_option linter.unusedSimpArgs false
namespace Go.Proofs.Ytlkhijflgbobjaa.Lx
open Go Go.Proofs
/-! ### weir/weirlaw15.plays: function 40 -/
noncomputable def weirlaw15_plays.B : Code := (Try.f40.body).getD .skip
noncomputable def weirlaw15_plays.cx : Fx := ⟨Try.prog, 40, Try.f40⟩
noncomputable def weirlaw15_plays.out (r_ : Bool) : Value := .bool r_
noncomputable def weirlaw15_plays.F0 (r_ : Bool) : Reach := .ret (weirlaw15_plays.out r_)
noncomputable def weirlaw15_plays.F1 (a1 : Sl) (a2 : Int) (a3 : Int) (b4 : Nat) (b6 : Nat) : (LS (Bool × Int × weirlaw15_Side × weirlaw15_Side) Bool) → Reach := loopF [.inLoop (c1 (c1 (c2 (c1 (c2 (c2 (c2 (c2 (c2 (c2 weirlaw15_plays.B)))))))))), .inBlock 0, .code (c2 (c2 (c2 (c2 (c2 (c2 (c2 weirlaw15_plays.B)))))))] (fun s_ : (Bool × Int × weirlaw15_Side × weirlaw15_Side) => [(1, Sl.v a1), (2, .int .i64 a2), (3, .int .i64 a3), (10, .pointer (some (pt b4 0))), (11, .pointer (some (pt b6 0))), (9, .bool s_.1), (12, .int .i64 s_.2.1)]) (fun s_ : (Bool × Int × weirlaw15_Side × weirlaw15_Side) => [(b6, c_weirlaw15_Side.enc s_.2.2.1), (b4, c_weirlaw15_Side.enc s_.2.2.2)]) weirlaw15_plays.F0
noncomputable def weirlaw15_plays.L1 (a1 : Sl) (a2 : Int) (a3 : Int) (s7 : Bool) (s8 : Int) (s9 : weirlaw15_Side) (s10 : weirlaw15_Side) : M (LS (Bool × Int × weirlaw15_Side × weirlaw15_Side) Bool) :=
  (if s8 < (a1.len : Int) then
      pure s7
    else
      pure false) >>= fun y25 =>
  if y25 = true then
    idx a1.a a1.len s8 27 >>= fun p26 =>
    ld c_weirlaw15_Op p26 >>= fun x27 =>
    slot 36 >>= fun b28 =>
    (if x27.Kind ≥ 4 then
        pure (decide (x27.Kind ≤ 6))
      else
        pure false) >>= fun y29 =>
    (if y29 = true then
        (if x27.Kind < a2 then
            pure true
          else
            pure (decide (x27.Kind > a3))) >>= fun y30 =>
        pure y30
      else
        pure false) >>= fun y31 =>
    if y31 = true then
      pure (LS.next (s7, IntKind.wrap .i64 (s8 + 1), s9, s10))
    else
      if x27.Two = true then
        weirlaw15_step s9 x27 >>= fun r34 =>
        pure (LS.next (r34.2, IntKind.wrap .i64 (s8 + 1), r34.1, s10))
      else
        weirlaw15_step s10 x27 >>= fun r35 =>
        pure (LS.next (r35.2, IntKind.wrap .i64 (s8 + 1), s9, r35.1))
  else
    pure (LS.done s7)
theorem weirlaw15_plays.L1_ok (a1 : Sl) (a2 : Int) (a3 : Int) (b4 : Nat) (b6 : Nat) (s7 : Bool) (s8 : Int) (s9 : weirlaw15_Side) (s10 : weirlaw15_Side) :
    SJ weirlaw15_plays.cx [.code (c1 (c1 (c2 (c1 (c2 (c2 (c2 (c2 (c2 (c2 weirlaw15_plays.B)))))))))), .inLoop (c1 (c1 (c2 (c1 (c2 (c2 (c2 (c2 (c2 (c2 weirlaw15_plays.B)))))))))), .inBlock 0, .code (c2 (c2 (c2 (c2 (c2 (c2 (c2 weirlaw15_plays.B)))))))] [(1, Sl.v a1), (2, .int .i64 a2), (3, .int .i64 a3), (10, .pointer (some (pt b4 0))), (11, .pointer (some (pt b6 0))), (9, .bool s7), (12, .int .i64 s8)] [(b6, c_weirlaw15_Side.enc s9), (b4, c_weirlaw15_Side.enc s10)] (weirlaw15_plays.L1 a1 a2 a3 s7 s8 s9 s10) (weirlaw15_plays.F1 a1 a2 a3 b4 b6) := by
  unfold weirlaw15_plays.L1
  refine SJ.seq ?_
  refine SJ.sr 7 ?_
  refine OJ.go 5 [(33, .bool (decide (s8 < (a1.len : Int)))), (32, .bool (decide (s8 < (a1.len : Int)))), (31, .int .i64 (a1.len : Int)), (30, Sl.v a1), (29, .int .i64 s8)] ?_
  refine OJ.join (b := decide (s8 < (a1.len : Int))) [5, 6] [] [1, 2, 3, 10, 11, 9, 12, 35] (fun y25 => [(1, Sl.v a1), (2, .int .i64 a2), (3, .int .i64 a3), (10, .pointer (some (pt b4 0))), (11, .pointer (some (pt b6 0))), (9, .bool s7), (12, .int .i64 s8), (35, .bool y25)]) [] [] (t := 33) decide_eq_true_iff (fun hp_ => ?_) (fun hp_ => ?_) (fun _ _ _ _ _ _ h_ => h_) (fun y25 => ?_)
  · refine OJ.go 2 [(35, .bool s7), (34, .bool s7)] ?_
    exact OJ.nil ⟨(Cov.mem Cov.nil), rfl, _, rfl, by kernel_rfl⟩
  · refine OJ.go 2 [(35, .bool false), (34, undef)] ?_
    exact OJ.nil ⟨(Cov.mem Cov.nil), rfl, _, rfl, by kernel_rfl⟩
  · refine OJ.nil ?_
    refine SJ.cond (t := (.tmp 35)) (b := y25) Iff.rfl (fun hc38 => ?_) (fun hc38 => ?_)
    · refine SJ.skip ?_
      refine SJ.seq ?_
      refine SJ.block (id := 1) ?_
      refine SJ.sr 6 ?_
      refine OJ.go 2 [(39, .int .i64 s8), (38, Sl.v a1)] ?_
      refine OJ.idxS (d := 40) (T := 24) (y := .tmp 38) (j := .tmp 39) (E := 36) (cap := a1.cap) (k := .i64) (fun p26 => ?_)
      refine OJ.ld (d := 41) (y := .tmp 40) (pend2 := fun x27 => []) Ty36 (fun _ => rfl) (fun x27 => ?_)
      refine OJ.slotOf (d := 13) (op := (.alloc 36)) (cd := c_weirlaw15_Op) (u := z_weirlaw15_Op) (owed := []) (alloc_run Ty36) (fun b28 => ?_)
      refine OW.nil ?_
      refine OJ.kst (y := .tmp 13) (z := .tmp 41) (cd := c_weirlaw15_Op) (u := x27) (j := 0) (b := b28) (o := 0) (c_weirlaw15_Op.enc x27) (owed := []) Ty36 rfl (Upd.whole ((Cod.len _ _).trans (Cod.len _ _).symm)) rfl ?_
      refine OW.nil ?_
      refine OJ.nil ?_
      refine SJ.seq ?_
      refine SJ.sr 20 ?_
      refine OJ.go 1 [(42, .pointer (some (pt b28 0)))] ?_
      refine OJ.kld (d := 43) (y := .tmp 42) (cd := (cI .i64)) (j := 0) (b := b28) (o := 0) x27.Kind (pend2 := []) Ty3 rfl (At_weirlaw15_Op_Kind x27) rfl ?_
      refine OJ.go 2 [(45, .bool (decide (x27.Kind ≥ 4))), (44, .bool (decide (x27.Kind ≥ 4)))] ?_
      refine OJ.join (b := decide (x27.Kind ≥ 4)) [4, 5, 6, 7] [8, 9, 10, 11, 12, 13, 14, 15, 16, 17, 18, 19] [1, 2, 3, 10, 11, 9, 12, 13, 49] (fun y29 => [(1, Sl.v a1), (2, .int .i64 a2), (3, .int .i64 a3), (10, .pointer (some (pt b4 0))), (11, .pointer (some (pt b6 0))), (9, .bool s7), (12, .int .i64 s8), (13, .pointer (some (pt b28 0))), (49, .bool y29)]) [] [] (t := 45) decide_eq_true_iff (fun hp_ => ?_) (fun hp_ => ?_) (fun _ _ _ _ _ _ h_ => h_) (fun y29 => ?_)
      · refine OJ.go 1 [(46, .pointer (some (pt b28 0)))] ?_
        refine OJ.kld (d := 47) (y := .tmp 46) (cd := (cI .i64)) (j := 0) (b := b28) (o := 0) x27.Kind (pend2 := []) Ty3 rfl (At_weirlaw15_Op_Kind x27) rfl ?_
        refine OJ.go 2 [(49, .bool (decide (x27.Kind ≤ 6))), (48, .bool (decide (x27.Kind ≤ 6)))] ?_
        exact OJ.nil ⟨(Cov.mem Cov.nil), rfl, _, rfl, by kernel_rfl⟩
      · refine OJ.go 4 [(49, .bool false), (48, undef), (47, undef), (46, undef)] ?_
        exact OJ.nil ⟨(Cov.mem Cov.nil), rfl, _, rfl, by kernel_rfl⟩
      · refine OJ.go 1 [(50, .bool y29)] ?_
        refine OJ.join (b := y29) [9, 10, 11, 12, 13, 14, 15, 16, 17, 18, 19] [] [1, 2, 3, 10, 11, 9, 12, 13, 61] (fun y31 => [(1, Sl.v a1), (2, .int .i64 a2), (3, .int .i64 a3), (10, .pointer (some (pt b4 0))), (11, .pointer (some (pt b6 0))), (9, .bool s7), (12, .int .i64 s8), (13, .pointer (some (pt b28 0))), (61, .bool y31)]) [] [] (t := 50) Iff.rfl (fun hp_ => ?_) (fun hp_ => ?_) (fun _ _ _ _ _ _ h_ => h_) (fun y31 => ?_)
        · refine OJ.go 1 [(51, .pointer (some (pt b28 0)))] ?_
          refine OJ.kld (d := 52) (y := .tmp 51) (cd := (cI .i64)) (j := 0) (b := b28) (o := 0) x27.Kind (pend2 := []) Ty3 rfl (At_weirlaw15_Op_Kind x27) rfl ?_
          refine OJ.go 3 [(55, .bool (decide (x27.Kind < a2))), (54, .bool (decide (x27.Kind < a2))), (53, .int .i64 a2)] ?_
          refine OJ.join (b := decide (x27.Kind < a2)) [14, 15, 16, 17, 18] [19] [1, 2, 3, 10, 11, 9, 12, 13, 50, 60] (fun y30 => [(1, Sl.v a1), (2, .int .i64 a2), (3, .int .i64 a3), (10, .pointer (some (pt b4 0))), (11, .pointer (some (pt b6 0))), (9, .bool s7), (12, .int .i64 s8), (13, .pointer (some (pt b28 0))), (50, .bool true), (60, .bool y30)]) [] [] (t := 55) decide_eq_true_iff (fun hp_ => ?_) (fun hp_ => ?_) (fun _ _ _ _ _ hq_ h_ => ⟨fun e_ he_ => (hq_ e_ he_).elim (fun h => h_.1 e_ h) (fun h => nomatch h), h_.2⟩) (fun y30 => ?_)
          · refine OJ.go 5 [(60, .bool true), (59, undef), (58, undef), (57, undef), (56, undef)] ?_
            exact OJ.nil ⟨(Cov.mem Cov.nil), rfl, _, rfl, by kernel_rfl⟩
          · refine OJ.go 1 [(56, .pointer (some (pt b28 0)))] ?_
            refine OJ.kld (d := 57) (y := .tmp 56) (cd := (cI .i64)) (j := 0) (b := b28) (o := 0) x27.Kind (pend2 := []) Ty3 rfl (At_weirlaw15_Op_Kind x27) rfl ?_
            refine OJ.go 3 [(60, .bool (decide (x27.Kind > a3))), (59, .bool (decide (x27.Kind > a3))), (58, .int .i64 a3)] ?_
            exact OJ.nil ⟨(Cov.mem Cov.nil), rfl, _, rfl, by kernel_rfl⟩
          · refine OJ.go 1 [(61, .bool y30)] ?_
            exact OJ.nil ⟨(Cov.mem Cov.nil), rfl, _, rfl, by kernel_rfl⟩
        · refine OJ.go 11 [(61, .bool false), (60, undef), (59, undef), (58, undef), (57, undef), (56, undef), (55, undef), (54, undef), (53, undef), (52, undef), (51, undef)] ?_
          exact OJ.nil ⟨(Cov.mem Cov.nil), rfl, _, rfl, by kernel_rfl⟩
        · refine OJ.nil ?_
          refine SJ.cond (t := (.tmp 61)) (b := y31) Iff.rfl (fun hc37 => ?_) (fun hc37 => ?_)
          · refine SJ.exit (id := 1) (by rfl) ?_
            refine SJ.rg 3 ?_
            refine OJ.go 3 [(12, .int .i64 (IntKind.wrap .i64 (s8 + 1))), (37, .int .i64 (IntKind.wrap .i64 (s8 + 1))), (36, .int .i64 s8)] ?_
            refine OJ.nil ?_
            refine SJ.forget (List.Sublist.cons _ (List.Sublist.cons_cons _ (List.Sublist.cons_cons _ List.Sublist.slnil))) ?_
            exact SJ.at_ [1, 2, 3, 10, 11, 9, 12] rfl
          · refine SJ.skip ?_
            refine SJ.sr 2 ?_
            refine OJ.go 1 [(62, .pointer (some (pt b28 1)))] ?_
            refine OJ.kld (d := 63) (y := .tmp 62) (cd := cB) (j := 0) (b := b28) (o := 1) x27.Two (pend2 := []) Ty4 rfl (At_weirlaw15_Op_Two x27) rfl ?_
            refine OJ.nil ?_
            refine SJ.cond (t := (.tmp 63)) (b := x27.Two) Iff.rfl (fun hc36 => ?_) (fun hc36 => ?_)
            · refine SJ.rg 8 ?_
              refine OJ.kld (d := 65) (y := .tmp 11) (cd := c_weirlaw15_Side) (j := 1) (b := b6) (o := 0) s9 (pend2 := []) Ty88 rfl (At.whole _) rfl ?_
              refine OJ.kld (d := 66) (y := .tmp 13) (cd := c_weirlaw15_Op) (j := 0) (b := b28) (o := 0) x27 (pend2 := []) Ty36 rfl (At.whole _) rfl ?_
              refine OJ.call (d := 67) (g := 56) (ats := #[88, 36]) (args := [.tmp 65, .tmp 66]) (owed := []) F56 (weirlaw15_step_ok s9 x27) (fun r34 => ?_)
              refine OW.nil ?_
              refine OJ.go 3 [(69, .bool r34.2), (68, c_weirlaw15_Side.val r34.1), (64, .tuple #[c_weirlaw15_Side.val r34.1, .bool r34.2])] ?_
              refine OJ.kst (y := .tmp 11) (z := .tmp 68) (cd := c_weirlaw15_Side) (u := r34.1) (j := 1) (b := b6) (o := 0) (c_weirlaw15_Side.enc r34.1) (owed := []) Ty88 rfl (Upd.whole ((Cod.len _ _).trans (Cod.len _ _).symm)) rfl ?_
              refine OW.nil ?_
              refine OJ.go 1 [(9, .bool r34.2)] ?_
              refine OJ.nil ?_
              refine SJ.inBlock ?_
              refine SJ.rg 3 ?_
              refine OJ.go 3 [(12, .int .i64 (IntKind.wrap .i64 (s8 + 1))), (37, .int .i64 (IntKind.wrap .i64 (s8 + 1))), (36, .int .i64 s8)] ?_
              refine OJ.nil ?_
              refine SJ.forget (List.Sublist.cons _ (List.Sublist.cons_cons _ (List.Sublist.cons_cons _ List.Sublist.slnil))) ?_
              exact SJ.at_ [1, 2, 3, 10, 11, 9, 12] rfl
            · refine SJ.rg 8 ?_
              refine OJ.kld (d := 71) (y := .tmp 10) (cd := c_weirlaw15_Side) (j := 2) (b := b4) (o := 0) s10 (pend2 := []) Ty88 rfl (At.whole _) rfl ?_
              refine OJ.kld (d := 72) (y := .tmp 13) (cd := c_weirlaw15_Op) (j := 0) (b := b28) (o := 0) x27 (pend2 := []) Ty36 rfl (At.whole _) rfl ?_
              refine OJ.call (d := 73) (g := 56) (ats := #[88, 36]) (args := [.tmp 71, .tmp 72]) (owed := []) F56 (weirlaw15_step_ok s10 x27) (fun r35 => ?_)
              refine OW.nil ?_
              refine OJ.go 3 [(75, .bool r35.2), (74, c_weirlaw15_Side.val r35.1), (70, .tuple #[c_weirlaw15_Side.val r35.1, .bool r35.2])] ?_
              refine OJ.kst (y := .tmp 10) (z := .tmp 74) (cd := c_weirlaw15_Side) (u := r35.1) (j := 2) (b := b4) (o := 0) (c_weirlaw15_Side.enc r35.1) (owed := []) Ty88 rfl (Upd.whole ((Cod.len _ _).trans (Cod.len _ _).symm)) rfl ?_
              refine OW.nil ?_
              refine OJ.go 1 [(9, .bool r35.2)] ?_
              refine OJ.nil ?_
              refine SJ.inBlock ?_
              refine SJ.rg 3 ?_
              refine OJ.go 3 [(12, .int .i64 (IntKind.wrap .i64 (s8 + 1))), (37, .int .i64 (IntKind.wrap .i64 (s8 + 1))), (36, .int .i64 s8)] ?_
              refine OJ.nil ?_
              refine SJ.forget (List.Sublist.cons _ (List.Sublist.cons_cons _ (List.Sublist.cons_cons _ List.Sublist.slnil))) ?_
              exact SJ.at_ [1, 2, 3, 10, 11, 9, 12] rfl
    · refine SJ.exit (id := 0) (by rfl) ?_
      refine SJ.sr 2 ?_
      refine OJ.go 2 [(8, .bool s7), (76, .bool s7)] ?_
      refine OJ.nil ?_
      exact SJ.ret rfl (Res.run (ys := [.bool s7]) (.tmp (by kernel_rfl) .nil) rfl)
noncomputable def weirlaw15_plays (a0 : api_NeighConfig) (a1 : Sl) (a2 : Int) (a3 : Int) : M Bool :=
  slot 23 >>= fun b1 =>
  weirlaw15_started >>= fun r2 =>
  if ¬ (r2 = true) then
    pure false
  else
    weirlaw15_made a0 >>= fun r3 =>
    slot 88 >>= fun b4 =>
    if ¬ (r3.2 = true) then
      pure false
    else
      weirlaw15_made (⟨3, 2, 2, 3, 2⟩ : api_NeighConfig) >>= fun r5 =>
      slot 88 >>= fun b6 =>
      loopM (fun s_ : (Bool × Int × weirlaw15_Side × weirlaw15_Side) => weirlaw15_plays.L1 a1 a2 a3 s_.1 s_.2.1 s_.2.2.1 s_.2.2.2) (r5.2, 0, r5.1, r3.1)
theorem weirlaw15_plays_ok (a0 : api_NeighConfig) (a1 : Sl) (a2 : Int) (a3 : Int) : Ref Try.prog 40 [c_api_NeighConfig.val a0, Sl.v a1, .int .i64 a2, .int .i64 a3] (weirlaw15_plays a0 a1 a2 a3) weirlaw15_plays.out := by
  refine Ref.of (cd := weirlaw15_plays.B) Try.func40 ?_
  show SJ weirlaw15_plays.cx [.code weirlaw15_plays.B] [(0, c_api_NeighConfig.val a0), (1, Sl.v a1), (2, .int .i64 a2), (3, .int .i64 a3)] [] (weirlaw15_plays a0 a1 a2 a3) weirlaw15_plays.F0
  unfold weirlaw15_plays
  refine SJ.sr 2 ?_
  refine OJ.slotOf (d := 4) (op := (.box 23 (.tmp 0))) (cd := c_api_NeighConfig) (u := a0) (owed := []) (box_run (by kernel_rfl)) (fun b1 => ?_)
  refine OW.nil ?_
  refine OJ.go 1 [(8, .bool false)] ?_
  refine OJ.nil ?_
  refine SJ.sr 2 ?_
  refine OJ.call (d := 14) (g := 41) (ats := #[]) (args := []) (owed := []) F41 (weirlaw15_started_ok ) (fun r2 => ?_)
  refine OW.nil ?_
  refine OJ.go 1 [(9, .bool r2)] ?_
  refine OJ.nil ?_
  refine SJ.seq ?_
  refine SJ.sr 2 ?_
  refine OJ.go 2 [(16, .bool (!r2)), (15, .bool r2)] ?_
  refine OJ.nil ?_
  refine SJ.cond (t := (.tmp 16)) (b := (!r2)) (bnot_iff Iff.rfl) (fun hc40 => ?_) (fun hc40 => ?_)
  · refine SJ.sr 1 ?_
    refine OJ.go 1 [(8, .bool false)] ?_
    refine OJ.nil ?_
    exact SJ.ret rfl (Res.run (ys := [.bool false]) (.tmp (by kernel_rfl) .nil) rfl)
  · refine SJ.skip ?_
    refine SJ.sr 8 ?_
    refine OJ.kld (d := 18) (y := .tmp 4) (cd := c_api_NeighConfig) (j := 0) (b := b1) (o := 0) a0 (pend2 := []) Ty23 rfl (At.whole _) rfl ?_
    refine OJ.call (d := 19) (g := 42) (ats := #[23]) (args := [.tmp 18]) (owed := []) F42 (weirlaw15_made_ok a0) (fun r3 => ?_)
    refine OW.nil ?_
    refine OJ.go 3 [(21, .bool r3.2), (20, c_weirlaw15_Side.val r3.1), (17, .tuple #[c_weirlaw15_Side.val r3.1, .bool r3.2])] ?_
    refine OJ.slotOf (d := 10) (op := (.alloc 88)) (cd := c_weirlaw15_Side) (u := z_weirlaw15_Side) (owed := []) (alloc_run Ty88) (fun b4 => ?_)
    refine OW.nil ?_
    refine OJ.kst (y := .tmp 10) (z := .tmp 20) (cd := c_weirlaw15_Side) (u := r3.1) (j := 0) (b := b4) (o := 0) (c_weirlaw15_Side.enc r3.1) (owed := []) Ty88 rfl (Upd.whole ((Cod.len _ _).trans (Cod.len _ _).symm)) rfl ?_
    refine OW.nil ?_
    refine OJ.go 1 [(9, .bool r3.2)] ?_
    refine OJ.nil ?_
    refine SJ.seq ?_
    refine SJ.sr 2 ?_
    refine OJ.go 2 [(23, .bool (!r3.2)), (22, .bool r3.2)] ?_
    refine OJ.nil ?_
    refine SJ.cond (t := (.tmp 23)) (b := (!r3.2)) (bnot_iff Iff.rfl) (fun hc39 => ?_) (fun hc39 => ?_)
    · refine SJ.sr 1 ?_
      refine OJ.go 1 [(8, .bool false)] ?_
      refine OJ.nil ?_
      exact SJ.ret rfl (Res.run (ys := [.bool false]) (.tmp (by kernel_rfl) .nil) rfl)
    · refine SJ.skip ?_
      refine SJ.sr 8 ?_
      refine OJ.build (d := 25) (T := 23) (parts := [(0, .const (.int .i64 3)), (1, .const (.int .i64 2)), (2, .const (.int .i64 2)), (3, .const (.int .i64 3)), (4, .const (.int .i64 2))]) (ps := [(0, (cI .i64).val 3), (1, (cI .i64).val 2), (2, (cI .i64).val 2), (3, (cI .i64).val 3), (4, (cI .i64).val 2)]) (cd := c_api_NeighConfig) (z0 := z_api_NeighConfig) (⟨3, 2, 2, 3, 2⟩ : api_NeighConfig) Ty23 rfl (Filled.cons (cd := (cI .i64)) (q := 3) (o := 0) (by kernel_rfl) (Up_api_NeighConfig_Max z_api_NeighConfig 3) (Filled.cons (cd := (cI .i64)) (q := 2) (o := 1) (by kernel_rfl) (Up_api_NeighConfig_Line (⟨3, z_api_NeighConfig.Line, z_api_NeighConfig.Every, z_api_NeighConfig.Tries, z_api_NeighConfig.Fresh⟩ : api_NeighConfig) 2) (Filled.cons (cd := (cI .i64)) (q := 2) (o := 2) (by kernel_rfl) (Up_api_NeighConfig_Every (⟨3, 2, z_api_NeighConfig.Every, z_api_NeighConfig.Tries, z_api_NeighConfig.Fresh⟩ : api_NeighConfig) 2) (Filled.cons (cd := (cI .i64)) (q := 3) (o := 3) (by kernel_rfl) (Up_api_NeighConfig_Tries (⟨3, 2, 2, z_api_NeighConfig.Tries, z_api_NeighConfig.Fresh⟩ : api_NeighConfig) 3) (Filled.cons (cd := (cI .i64)) (q := 2) (o := 4) (by kernel_rfl) (Up_api_NeighConfig_Fresh (⟨3, 2, 2, 3, z_api_NeighConfig.Fresh⟩ : api_NeighConfig) 2) Filled.nil))))) ?_
      refine OJ.call (d := 26) (g := 42) (ats := #[23]) (args := [.tmp 25]) (owed := []) F42 (weirlaw15_made_ok (⟨3, 2, 2, 3, 2⟩ : api_NeighConfig)) (fun r5 => ?_)
      refine OW.nil ?_
      refine OJ.go 3 [(28, .bool r5.2), (27, c_weirlaw15_Side.val r5.1), (24, .tuple #[c_weirlaw15_Side.val r5.1, .bool r5.2])] ?_
      refine OJ.slotOf (d := 11) (op := (.alloc 88)) (cd := c_weirlaw15_Side) (u := z_weirlaw15_Side) (owed := []) (alloc_run Ty88) (fun b6 => ?_)
      refine OW.nil ?_
      refine OJ.kst (y := .tmp 11) (z := .tmp 27) (cd := c_weirlaw15_Side) (u := r5.1) (j := 0) (b := b6) (o := 0) (c_weirlaw15_Side.enc r5.1) (owed := []) Ty88 rfl (Upd.whole ((Cod.len _ _).trans (Cod.len _ _).symm)) rfl ?_
      refine OW.nil ?_
      refine OJ.go 1 [(9, .bool r5.2)] ?_
      refine OJ.nil ?_
      refine SJ.seq ?_
      refine SJ.sr 1 ?_
      refine OJ.go 1 [(12, .int .i64 0)] ?_
      refine OJ.nil ?_
      refine SJ.block (id := 0) ?_
      refine SJ.forget (List.Sublist.cons_cons _ (List.Sublist.cons_cons _ (List.Sublist.cons _ List.Sublist.slnil))) ?_
      exact SJ.loop (fun s_ : (Bool × Int × weirlaw15_Side × weirlaw15_Side) => [(1, Sl.v a1), (2, .int .i64 a2), (3, .int .i64 a3), (10, .pointer (some (pt b4 0))), (11, .pointer (some (pt b6 0))), (9, .bool s_.1), (12, .int .i64 s_.2.1)]) (fun s_ : (Bool × Int × weirlaw15_Side × weirlaw15_Side) => [(b6, c_weirlaw15_Side.enc s_.2.2.1), (b4, c_weirlaw15_Side.enc s_.2.2.2)]) [1, 2, 3, 10, 11, 9, 12] rfl (fun _ _ => rfl) (fun s_ => weirlaw15_plays.L1_ok a1 a2 a3 b4 b6 s_.1 s_.2.1 s_.2.2.1 s_.2.2.2)

/-! ### weir/weirlaw15.NeighTells: function 9 -/
noncomputable def weirlaw15_NeighTells.B : Code := (Try.f9.body).getD .skip
noncomputable def weirlaw15_NeighTells.cx : Fx := ⟨Try.prog, 9, Try.f9⟩
noncomputable def weirlaw15_NeighTells.out (r_ : Bool) : Value := .bool r_
noncomputable def weirlaw15_NeighTells.F0 (r_ : Bool) : Reach := .ret (weirlaw15_NeighTells.out r_)
noncomputable def weirlaw15_NeighTells (a0 : api_NeighConfig) (a1 : Sl) : M Bool :=
  slot 23 >>= fun b1 =>
  weirlaw15_plays a0 a1 4 5 >>= fun r2 =>
  pure r2
theorem weirlaw15_NeighTells_ok (a0 : api_NeighConfig) (a1 : Sl) : Ref Try.prog 9 [c_api_NeighConfig.val a0, Sl.v a1] (weirlaw15_NeighTells a0 a1) weirlaw15_NeighTells.out := by
  refine Ref.of (cd := weirlaw15_NeighTells.B) Try.func9 ?_
  show SJ weirlaw15_NeighTells.cx [.code weirlaw15_NeighTells.B] [(0, c_api_NeighConfig.val a0), (1, Sl.v a1)] [] (weirlaw15_NeighTells a0 a1) weirlaw15_NeighTells.F0
  unfold weirlaw15_NeighTells
  refine SJ.sr 2 ?_
  refine OJ.slotOf (d := 2) (op := (.box 23 (.tmp 0))) (cd := c_api_NeighConfig) (u := a0) (owed := []) (box_run (by kernel_rfl)) (fun b1 => ?_)
  refine OW.nil ?_
  refine OJ.go 1 [(4, .bool false)] ?_
  refine OJ.nil ?_
  refine SJ.sr 4 ?_
  refine OJ.kld (d := 5) (y := .tmp 2) (cd := c_api_NeighConfig) (j := 0) (b := b1) (o := 0) a0 (pend2 := []) Ty23 rfl (At.whole _) rfl ?_
  refine OJ.go 1 [(6, Sl.v a1)] ?_
  refine OJ.call (d := 7) (g := 40) (ats := #[23, 24, 3, 3]) (args := [.tmp 5, .tmp 6, .const (.int .i64 4), .const (.int .i64 5)]) (owed := []) F40 (weirlaw15_plays_ok a0 a1 4 5) (fun r2 => ?_)
  refine OW.nil ?_
  refine OJ.go 1 [(4, .bool r2)] ?_
  refine OJ.nil ?_
  exact SJ.ret rfl (Res.run (ys := [.bool r2]) (.tmp (by kernel_rfl) .nil) rfl)
end Go.Proofs.Ytlkhijflgbobjaa.Lx
