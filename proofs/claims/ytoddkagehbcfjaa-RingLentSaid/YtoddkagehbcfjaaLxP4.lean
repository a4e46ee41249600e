/- Programs of the M-world for Go functions, each with the proof that the Go text does what it says. Printed by lxgen.py. -/
import Derived.Test.YtoddkagehbcfjaaLxT
import Derived.Test.YtoddkagehbcfjaaLxP0
import Derived.Test.YtoddkagehbcfjaaLxP1
import Derived.Test.YtoddkagehbcfjaaLxP2
import Derived.Test.YtoddkagehbcfjaaLxP3
set_option linter.unusedVariables false
set_option linter.unusedSimpArgs false
namespace Go.Proofs.Ytoddkagehbcfjaa.Lx
open Go Go.Proofs
/-! ### weir/weirlaw3.plays: function 28 -/
noncomputable def weirlaw3_plays.B : Code := (Try.f28.body).getD .skip
noncomputable def weirlaw3_plays.cx : Fx := ⟨Try.prog, 28, Try.f28⟩
noncomputable def weirlaw3_plays.out (r_ : Bool) : Value := .bool r_
noncomputable def weirlaw3_plays.F0 (r_ : Bool) : Reach := .ret (weirlaw3_plays.out r_)
noncomputable def weirlaw3_plays.F1 (a4 : Sl) (a5 : Int) (a6 : Int) (b3 : Nat) (b5 : Nat) : (LS (Bool × Int × weirlaw3_Side × weirlaw3_Side) Bool) → Reach := loopF [.inLoop (c1 (c1 (c2 (c1 (c2 (c2 (c2 (c2 (c2 (c2 weirlaw3_plays.B)))))))))), .inBlock 0, .code (c2 (c2 (c2 (c2 (c2 (c2 (c2 weirlaw3_plays.B)))))))] (fun s_ : (Bool × Int × weirlaw3_Side × weirlaw3_Side) => [(4, Sl.v a4), (5, .int .i64 a5), (6, .int .i64 a6), (16, .pointer (some (pt b3 0))), (17, .pointer (some (pt b5 0))), (15, .bool s_.1), (18, .int .i64 s_.2.1)]) (fun s_ : (Bool × Int × weirlaw3_Side × weirlaw3_Side) => [(b5, c_weirlaw3_Side.enc s_.2.2.1), (b3, c_weirlaw3_Side.enc s_.2.2.2)]) weirlaw3_plays.F0
noncomputable def weirlaw3_plays.L1 (a4 : Sl) (a5 : Int) (a6 : Int) (s6 : Bool) (s7 : Int) (s8 : weirlaw3_Side) (s9 : weirlaw3_Side) : M (LS (Bool × Int × weirlaw3_Side × weirlaw3_Side) Bool) :=
  (if s7 < (a4.len : Int) then
      pure s6
    else
      pure false) >>= fun y24 =>
  if y24 = true then
    idx a4.a a4.len s7 5 >>= fun p25 =>
    ld c_weirlaw3_Op p25 >>= fun x26 =>
    slot 45 >>= fun b27 =>
    (if x26.Kind = 9 then
        pure true
      else
        pure (x26.Kind == 11)) >>= fun y28 =>
    (if y28 = true then
        (if x26.Kind < a5 then
            pure true
          else
            pure (decide (x26.Kind > a6))) >>= fun y29 =>
        pure y29
      else
        pure false) >>= fun y30 =>
    if y30 = true then
      pure (LS.next (s6, IntKind.wrap .i64 (s7 + 1), s8, s9))
    else
      if x26.Two = true then
        weirlaw3_step s8 x26 >>= fun r33 =>
        pure (LS.next (r33.2, IntKind.wrap .i64 (s7 + 1), r33.1, s9))
      else
        weirlaw3_step s9 x26 >>= fun r34 =>
        pure (LS.next (r34.2, IntKind.wrap .i64 (s7 + 1), s8, r34.1))
  else
    pure (LS.done s6)
theorem weirlaw3_plays.L1_ok (a4 : Sl) (a5 : Int) (a6 : Int) (b3 : Nat) (b5 : Nat) (s6 : Bool) (s7 : Int) (s8 : weirlaw3_Side) (s9 : weirlaw3_Side) :
    SJ weirlaw3_plays.cx [.code (c1 (c1 (c2 (c1 (c2 (c2 (c2 (c2 (c2 (c2 weirlaw3_plays.B)))))))))), .inLoop (c1 (c1 (c2 (c1 (c2 (c2 (c2 (c2 (c2 (c2 weirlaw3_plays.B)))))))))), .inBlock 0, .code (c2 (c2 (c2 (c2 (c2 (c2 (c2 weirlaw3_plays.B)))))))] [(4, Sl.v a4), (5, .int .i64 a5), (6, .int .i64 a6), (16, .pointer (some (pt b3 0))), (17, .pointer (some (pt b5 0))), (15, .bool s6), (18, .int .i64 s7)] [(b5, c_weirlaw3_Side.enc s8), (b3, c_weirlaw3_Side.enc s9)] (weirlaw3_plays.L1 a4 a5 a6 s6 s7 s8 s9) (weirlaw3_plays.F1 a4 a5 a6 b3 b5) := by
  unfold weirlaw3_plays.L1
  refine SJ.seq ?_
  refine SJ.sr 7 ?_
  refine OJ.go 5 [(41, .bool (decide (s7 < (a4.len : Int)))), (40, .bool (decide (s7 < (a4.len : Int)))), (39, .int .i64 (a4.len : Int)), (38, Sl.v a4), (37, .int .i64 s7)] ?_
  refine OJ.join (b := decide (s7 < (a4.len : Int))) [5, 6] [] [4, 5, 6, 16, 17, 15, 18, 43] (fun y24 => [(4, Sl.v a4), (5, .int .i64 a5), (6, .int .i64 a6), (16, .pointer (some (pt b3 0))), (17, .pointer (some (pt b5 0))), (15, .bool s6), (18, .int .i64 s7), (43, .bool y24)]) [] [] (t := 41) decide_eq_true_iff (fun hp_ => ?_) (fun hp_ => ?_) (fun _ _ _ _ _ _ h_ => h_) (fun y24 => ?_)
  · refine OJ.go 2 [(43, .bool s6), (42, .bool s6)] ?_
    exact OJ.nil ⟨(Cov.mem Cov.nil), rfl, _, rfl, by kernel_rfl⟩
  · refine OJ.go 2 [(43, .bool false), (42, undef)] ?_
    exact OJ.nil ⟨(Cov.mem Cov.nil), rfl, _, rfl, by kernel_rfl⟩
  · refine OJ.nil ?_
    refine SJ.cond (t := (.tmp 43)) (b := y24) Iff.rfl (fun hc37 => ?_) (fun hc37 => ?_)
    · refine SJ.skip ?_
      refine SJ.seq ?_
      refine SJ.block (id := 1) ?_
      refine SJ.sr 6 ?_
      refine OJ.go 2 [(47, .int .i64 s7), (46, Sl.v a4)] ?_
      refine OJ.idxS (d := 48) (T := 40) (y := .tmp 46) (j := .tmp 47) (E := 45) (cap := a4.cap) (k := .i64) (fun p25 => ?_)
      refine OJ.ld (d := 49) (y := .tmp 48) (pend2 := fun x26 => []) Ty45 (fun _ => rfl) (fun x26 => ?_)
      refine OJ.slotOf (d := 19) (op := (.alloc 45)) (cd := c_weirlaw3_Op) (u := z_weirlaw3_Op) (owed := []) (alloc_run Ty45) (fun b27 => ?_)
      refine OW.nil ?_
      refine OJ.kst (y := .tmp 19) (z := .tmp 49) (cd := c_weirlaw3_Op) (u := x26) (j := 0) (b := b27) (o := 0) (c_weirlaw3_Op.enc x26) (owed := []) Ty45 rfl (Upd.whole ((Cod.len _ _).trans (Cod.len _ _).symm)) rfl ?_
      refine OW.nil ?_
      refine OJ.nil ?_
      refine SJ.seq ?_
      refine SJ.sr 20 ?_
      refine OJ.go 1 [(50, .pointer (some (pt b27 0)))] ?_
      refine OJ.kld (d := 51) (y := .tmp 50) (cd := (cI .i64)) (j := 0) (b := b27) (o := 0) x26.Kind (pend2 := []) Ty3 rfl (At_weirlaw3_Op_Kind x26) rfl ?_
      refine OJ.go 2 [(53, .bool (x26.Kind == 9)), (52, .bool (x26.Kind == 9))] ?_
      refine OJ.join (b := (x26.Kind == 9)) [4, 5, 6, 7] [8, 9, 10, 11, 12, 13, 14, 15, 16, 17, 18, 19] [4, 5, 6, 16, 17, 15, 18, 19, 57] (fun y28 => [(4, Sl.v a4), (5, .int .i64 a5), (6, .int .i64 a6), (16, .pointer (some (pt b3 0))), (17, .pointer (some (pt b5 0))), (15, .bool s6), (18, .int .i64 s7), (19, .pointer (some (pt b27 0))), (57, .bool y28)]) [] [] (t := 53) beq_iff_eq (fun hp_ => ?_) (fun hp_ => ?_) (fun _ _ _ _ _ _ h_ => h_) (fun y28 => ?_)
      · refine OJ.go 4 [(57, .bool true), (56, undef), (55, undef), (54, undef)] ?_
        exact OJ.nil ⟨(Cov.mem Cov.nil), rfl, _, rfl, by kernel_rfl⟩
      · refine OJ.go 1 [(54, .pointer (some (pt b27 0)))] ?_
        refine OJ.kld (d := 55) (y := .tmp 54) (cd := (cI .i64)) (j := 0) (b := b27) (o := 0) x26.Kind (pend2 := []) Ty3 rfl (At_weirlaw3_Op_Kind x26) rfl ?_
        refine OJ.go 2 [(57, .bool (x26.Kind == 11)), (56, .bool (x26.Kind == 11))] ?_
        exact OJ.nil ⟨(Cov.mem Cov.nil), rfl, _, rfl, by kernel_rfl⟩
      · refine OJ.go 1 [(58, .bool y28)] ?_
        refine OJ.join (b := y28) [9, 10, 11, 12, 13, 14, 15, 16, 17, 18, 19] [] [4, 5, 6, 16, 17, 15, 18, 19, 69] (fun y30 => [(4, Sl.v a4), (5, .int .i64 a5), (6, .int .i64 a6), (16, .pointer (some (pt b3 0))), (17, .pointer (some (pt b5 0))), (15, .bool s6), (18, .int .i64 s7), (19, .pointer (some (pt b27 0))), (69, .bool y30)]) [] [] (t := 58) Iff.rfl (fun hp_ => ?_) (fun hp_ => ?_) (fun _ _ _ _ _ _ h_ => h_) (fun y30 => ?_)
        · refine OJ.go 1 [(59, .pointer (some (pt b27 0)))] ?_
          refine OJ.kld (d := 60) (y := .tmp 59) (cd := (cI .i64)) (j := 0) (b := b27) (o := 0) x26.Kind (pend2 := []) Ty3 rfl (At_weirlaw3_Op_Kind x26) rfl ?_
          refine OJ.go 3 [(63, .bool (decide (x26.Kind < a5))), (62, .bool (decide (x26.Kind < a5))), (61, .int .i64 a5)] ?_
          refine OJ.join (b := decide (x26.Kind < a5)) [14, 15, 16, 17, 18] [19] [4, 5, 6, 16, 17, 15, 18, 19, 58, 68] (fun y29 => [(4, Sl.v a4), (5, .int .i64 a5), (6, .int .i64 a6), (16, .pointer (some (pt b3 0))), (17, .pointer (some (pt b5 0))), (15, .bool s6), (18, .int .i64 s7), (19, .pointer (some (pt b27 0))), (58, .bool true), (68, .bool y29)]) [] [] (t := 63) decide_eq_true_iff (fun hp_ => ?_) (fun hp_ => ?_) (fun _ _ _ _ _ hq_ h_ => ⟨fun e_ he_ => (hq_ e_ he_).elim (fun h => h_.1 e_ h) (fun h => nomatch h), h_.2⟩) (fun y29 => ?_)
          · refine OJ.go 5 [(68, .bool true), (67, undef), (66, undef), (65, undef), (64, undef)] ?_
            exact OJ.nil ⟨(Cov.mem Cov.nil), rfl, _, rfl, by kernel_rfl⟩
          · refine OJ.go 1 [(64, .pointer (some (pt b27 0)))] ?_
            refine OJ.kld (d := 65) (y := .tmp 64) (cd := (cI .i64)) (j := 0) (b := b27) (o := 0) x26.Kind (pend2 := []) Ty3 rfl (At_weirlaw3_Op_Kind x26) rfl ?_
            refine OJ.go 3 [(68, .bool (decide (x26.Kind > a6))), (67, .bool (decide (x26.Kind > a6))), (66, .int .i64 a6)] ?_
            exact OJ.nil ⟨(Cov.mem Cov.nil), rfl, _, rfl, by kernel_rfl⟩
          · refine OJ.go 1 [(69, .bool y29)] ?_
            exact OJ.nil ⟨(Cov.mem Cov.nil), rfl, _, rfl, by kernel_rfl⟩
        · refine OJ.go 11 [(69, .bool false), (68, undef), (67, undef), (66, undef), (65, undef), (64, undef), (63, undef), (62, undef), (61, undef), (60, undef), (59, undef)] ?_
          exact OJ.nil ⟨(Cov.mem Cov.nil), rfl, _, rfl, by kernel_rfl⟩
        · refine OJ.nil ?_
          refine SJ.cond (t := (.tmp 69)) (b := y30) Iff.rfl (fun hc36 => ?_) (fun hc36 => ?_)
          · refine SJ.exit (id := 1) (by rfl) ?_
            refine SJ.rg 3 ?_
            refine OJ.go 3 [(18, .int .i64 (IntKind.wrap .i64 (s7 + 1))), (45, .int .i64 (IntKind.wrap .i64 (s7 + 1))), (44, .int .i64 s7)] ?_
            refine OJ.nil ?_
            refine SJ.forget (List.Sublist.cons _ (List.Sublist.cons_cons _ (List.Sublist.cons_cons _ List.Sublist.slnil))) ?_
            exact SJ.at_ [4, 5, 6, 16, 17, 15, 18] rfl
          · refine SJ.skip ?_
            refine SJ.sr 2 ?_
            refine OJ.go 1 [(70, .pointer (some (pt b27 1)))] ?_
            refine OJ.kld (d := 71) (y := .tmp 70) (cd := cB) (j := 0) (b := b27) (o := 1) x26.Two (pend2 := []) Ty4 rfl (At_weirlaw3_Op_Two x26) rfl ?_
            refine OJ.nil ?_
            refine SJ.cond (t := (.tmp 71)) (b := x26.Two) Iff.rfl (fun hc35 => ?_) (fun hc35 => ?_)
            · refine SJ.rg 8 ?_
              refine OJ.kld (d := 73) (y := .tmp 17) (cd := c_weirlaw3_Side) (j := 1) (b := b5) (o := 0) s8 (pend2 := []) Ty62 rfl (At.whole _) rfl ?_
              refine OJ.kld (d := 74) (y := .tmp 19) (cd := c_weirlaw3_Op) (j := 0) (b := b27) (o := 0) x26 (pend2 := []) Ty45 rfl (At.whole _) rfl ?_
              refine OJ.call (d := 75) (g := 50) (ats := #[62, 45]) (args := [.tmp 73, .tmp 74]) (owed := []) F50 (weirlaw3_step_ok s8 x26) (fun r33 => ?_)
              refine OW.nil ?_
              refine OJ.go 3 [(77, .bool r33.2), (76, c_weirlaw3_Side.val r33.1), (72, .tuple #[c_weirlaw3_Side.val r33.1, .bool r33.2])] ?_
              refine OJ.kst (y := .tmp 17) (z := .tmp 76) (cd := c_weirlaw3_Side) (u := r33.1) (j := 1) (b := b5) (o := 0) (c_weirlaw3_Side.enc r33.1) (owed := []) Ty62 rfl (Upd.whole ((Cod.len _ _).trans (Cod.len _ _).symm)) rfl ?_
              refine OW.nil ?_
              refine OJ.go 1 [(15, .bool r33.2)] ?_
              refine OJ.nil ?_
              refine SJ.inBlock ?_
              refine SJ.rg 3 ?_
              refine OJ.go 3 [(18, .int .i64 (IntKind.wrap .i64 (s7 + 1))), (45, .int .i64 (IntKind.wrap .i64 (s7 + 1))), (44, .int .i64 s7)] ?_
              refine OJ.nil ?_
              refine SJ.forget (List.Sublist.cons _ (List.Sublist.cons_cons _ (List.Sublist.cons_cons _ List.Sublist.slnil))) ?_
              exact SJ.at_ [4, 5, 6, 16, 17, 15, 18] rfl
            · refine SJ.rg 8 ?_
              refine OJ.kld (d := 79) (y := .tmp 16) (cd := c_weirlaw3_Side) (j := 2) (b := b3) (o := 0) s9 (pend2 := []) Ty62 rfl (At.whole _) rfl ?_
              refine OJ.kld (d := 80) (y := .tmp 19) (cd := c_weirlaw3_Op) (j := 0) (b := b27) (o := 0) x26 (pend2 := []) Ty45 rfl (At.whole _) rfl ?_
              refine OJ.call (d := 81) (g := 50) (ats := #[62, 45]) (args := [.tmp 79, .tmp 80]) (owed := []) F50 (weirlaw3_step_ok s9 x26) (fun r34 => ?_)
              refine OW.nil ?_
              refine OJ.go 3 [(83, .bool r34.2), (82, c_weirlaw3_Side.val r34.1), (78, .tuple #[c_weirlaw3_Side.val r34.1, .bool r34.2])] ?_
              refine OJ.kst (y := .tmp 16) (z := .tmp 82) (cd := c_weirlaw3_Side) (u := r34.1) (j := 2) (b := b3) (o := 0) (c_weirlaw3_Side.enc r34.1) (owed := []) Ty62 rfl (Upd.whole ((Cod.len _ _).trans (Cod.len _ _).symm)) rfl ?_
              refine OW.nil ?_
              refine OJ.go 1 [(15, .bool r34.2)] ?_
              refine OJ.nil ?_
              refine SJ.inBlock ?_
              refine SJ.rg 3 ?_
              refine OJ.go 3 [(18, .int .i64 (IntKind.wrap .i64 (s7 + 1))), (45, .int .i64 (IntKind.wrap .i64 (s7 + 1))), (44, .int .i64 s7)] ?_
              refine OJ.nil ?_
              refine SJ.forget (List.Sublist.cons _ (List.Sublist.cons_cons _ (List.Sublist.cons_cons _ List.Sublist.slnil))) ?_
              exact SJ.at_ [4, 5, 6, 16, 17, 15, 18] rfl
    · refine SJ.exit (id := 0) (by rfl) ?_
      refine SJ.sr 2 ?_
      refine OJ.go 2 [(14, .bool s6), (84, .bool s6)] ?_
      refine OJ.nil ?_
      exact SJ.ret rfl (Res.run (ys := [.bool s6]) (.tmp (by kernel_rfl) .nil) rfl)
noncomputable def weirlaw3_plays (a0 : Int) (a1 : Int) (a2 : Int) (a3 : Int) (a4 : Sl) (a5 : Int) (a6 : Int) : M Bool :=
  weirlaw3_started >>= fun r1 =>
  if ¬ (r1 = true) then
    pure false
  else
    weirlaw3_made a0 a1 a2 a3 >>= fun r2 =>
    slot 62 >>= fun b3 =>
    if ¬ (r2.2 = true) then
      pure false
    else
      weirlaw3_made 3 2 4 70 >>= fun r4 =>
      slot 62 >>= fun b5 =>
      loopM (fun s_ : (Bool × Int × weirlaw3_Side × weirlaw3_Side) => weirlaw3_plays.L1 a4 a5 a6 s_.1 s_.2.1 s_.2.2.1 s_.2.2.2) (r4.2, 0, r4.1, r2.1)
theorem weirlaw3_plays_ok (a0 : Int) (a1 : Int) (a2 : Int) (a3 : Int) (a4 : Sl) (a5 : Int) (a6 : Int) : Ref Try.prog 28 [.int .i64 a0, .int .i64 a1, .int .i64 a2, .int .i64 a3, Sl.v a4, .int .i64 a5, .int .i64 a6] (weirlaw3_plays a0 a1 a2 a3 a4 a5 a6) weirlaw3_plays.out := by
  refine Ref.of (cd := weirlaw3_plays.B) Try.func28 ?_
  show SJ weirlaw3_plays.cx [.code weirlaw3_plays.B] [(0, .int .i64 a0), (1, .int .i64 a1), (2, .int .i64 a2), (3, .int .i64 a3), (4, Sl.v a4), (5, .int .i64 a5), (6, .int .i64 a6)] [] (weirlaw3_plays a0 a1 a2 a3 a4 a5 a6) weirlaw3_plays.F0
  unfold weirlaw3_plays
  refine SJ.sr 1 ?_
  refine OJ.go 1 [(14, .bool false)] ?_
  refine OJ.nil ?_
  refine SJ.sr 2 ?_
  refine OJ.call (d := 20) (g := 29) (ats := #[]) (args := []) (owed := []) F29 (weirlaw3_started_ok ) (fun r1 => ?_)
  refine OW.nil ?_
  refine OJ.go 1 [(15, .bool r1)] ?_
  refine OJ.nil ?_
  refine SJ.seq ?_
  refine SJ.sr 2 ?_
  refine OJ.go 2 [(22, .bool (!r1)), (21, .bool r1)] ?_
  refine OJ.nil ?_
  refine SJ.cond (t := (.tmp 22)) (b := (!r1)) (bnot_iff Iff.rfl) (fun hc39 => ?_) (fun hc39 => ?_)
  · refine SJ.sr 1 ?_
    refine OJ.go 1 [(14, .bool false)] ?_
    refine OJ.nil ?_
    exact SJ.ret rfl (Res.run (ys := [.bool false]) (.tmp (by kernel_rfl) .nil) rfl)
  · refine SJ.skip ?_
    refine SJ.sr 11 ?_
    refine OJ.go 4 [(27, .int .i64 a3), (26, .int .i64 a2), (25, .int .i64 a1), (24, .int .i64 a0)] ?_
    refine OJ.call (d := 28) (g := 30) (ats := #[3, 3, 3, 3]) (args := [.tmp 24, .tmp 25, .tmp 26, .tmp 27]) (owed := []) F30 (weirlaw3_made_ok a0 a1 a2 a3) (fun r2 => ?_)
    refine OW.nil ?_
    refine OJ.go 3 [(30, .bool r2.2), (29, c_weirlaw3_Side.val r2.1), (23, .tuple #[c_weirlaw3_Side.val r2.1, .bool r2.2])] ?_
    refine OJ.slotOf (d := 16) (op := (.alloc 62)) (cd := c_weirlaw3_Side) (u := z_weirlaw3_Side) (owed := []) (alloc_run Ty62) (fun b3 => ?_)
    refine OW.nil ?_
    refine OJ.kst (y := .tmp 16) (z := .tmp 29) (cd := c_weirlaw3_Side) (u := r2.1) (j := 0) (b := b3) (o := 0) (c_weirlaw3_Side.enc r2.1) (owed := []) Ty62 rfl (Upd.whole ((Cod.len _ _).trans (Cod.len _ _).symm)) rfl ?_
    refine OW.nil ?_
    refine OJ.go 1 [(15, .bool r2.2)] ?_
    refine OJ.nil ?_
    refine SJ.seq ?_
    refine SJ.sr 2 ?_
    refine OJ.go 2 [(32, .bool (!r2.2)), (31, .bool r2.2)] ?_
    refine OJ.nil ?_
    refine SJ.cond (t := (.tmp 32)) (b := (!r2.2)) (bnot_iff Iff.rfl) (fun hc38 => ?_) (fun hc38 => ?_)
    · refine SJ.sr 1 ?_
      refine OJ.go 1 [(14, .bool false)] ?_
      refine OJ.nil ?_
      exact SJ.ret rfl (Res.run (ys := [.bool false]) (.tmp (by kernel_rfl) .nil) rfl)
    · refine SJ.skip ?_
      refine SJ.sr 7 ?_
      refine OJ.call (d := 34) (g := 30) (ats := #[3, 3, 3, 3]) (args := [.const (.int .i64 3), .const (.int .i64 2), .const (.int .i64 4), .const (.int .i64 70)]) (owed := []) F30 (weirlaw3_made_ok 3 2 4 70) (fun r4 => ?_)
      refine OW.nil ?_
      refine OJ.go 3 [(36, .bool r4.2), (35, c_weirlaw3_Side.val r4.1), (33, .tuple #[c_weirlaw3_Side.val r4.1, .bool r4.2])] ?_
      refine OJ.slotOf (d := 17) (op := (.alloc 62)) (cd := c_weirlaw3_Side) (u := z_weirlaw3_Side) (owed := []) (alloc_run Ty62) (fun b5 => ?_)
      refine OW.nil ?_
      refine OJ.kst (y := .tmp 17) (z := .tmp 35) (cd := c_weirlaw3_Side) (u := r4.1) (j := 0) (b := b5) (o := 0) (c_weirlaw3_Side.enc r4.1) (owed := []) Ty62 rfl (Upd.whole ((Cod.len _ _).trans (Cod.len _ _).symm)) rfl ?_
      refine OW.nil ?_
      refine OJ.go 1 [(15, .bool r4.2)] ?_
      refine OJ.nil ?_
      refine SJ.seq ?_
      refine SJ.sr 1 ?_
      refine OJ.go 1 [(18, .int .i64 0)] ?_
      refine OJ.nil ?_
      refine SJ.block (id := 0) ?_
      exact SJ.loop (fun s_ : (Bool × Int × weirlaw3_Side × weirlaw3_Side) => [(4, Sl.v a4), (5, .int .i64 a5), (6, .int .i64 a6), (16, .pointer (some (pt b3 0))), (17, .pointer (some (pt b5 0))), (15, .bool s_.1), (18, .int .i64 s_.2.1)]) (fun s_ : (Bool × Int × weirlaw3_Side × weirlaw3_Side) => [(b5, c_weirlaw3_Side.enc s_.2.2.1), (b3, c_weirlaw3_Side.enc s_.2.2.2)]) [4, 5, 6, 16, 17, 15, 18] rfl (fun _ _ => rfl) (fun s_ => weirlaw3_plays.L1_ok a4 a5 a6 b3 b5 s_.1 s_.2.1 s_.2.2.1 s_.2.2.2)

/-! ### weir/weirlaw3.RingFrames: function 6 -/
noncomputable def weirlaw3_RingFrames.B : Code := (Try.f6.body).getD .skip
noncomputable def weirlaw3_RingFrames.cx : Fx := ⟨Try.prog, 6, Try.f6⟩
noncomputable def weirlaw3_RingFrames.out (r_ : Bool) : Value := .bool r_
noncomputable def weirlaw3_RingFrames.F0 (r_ : Bool) : Reach := .ret (weirlaw3_RingFrames.out r_)
noncomputable def weirlaw3_RingFrames (a0 : Int) (a1 : Int) (a2 : Int) (a3 : Int) (a4 : Sl) : M Bool :=
  weirlaw3_plays a0 a1 a2 a3 a4 0 0 >>= fun r1 =>
  pure r1
theorem weirlaw3_RingFrames_ok (a0 : Int) (a1 : Int) (a2 : Int) (a3 : Int) (a4 : Sl) : Ref Try.prog 6 [.int .i64 a0, .int .i64 a1, .int .i64 a2, .int .i64 a3, Sl.v a4] (weirlaw3_RingFrames a0 a1 a2 a3 a4) weirlaw3_RingFrames.out := by
  refine Ref.of (cd := weirlaw3_RingFrames.B) Try.func6 ?_
  show SJ weirlaw3_RingFrames.cx [.code weirlaw3_RingFrames.B] [(0, .int .i64 a0), (1, .int .i64 a1), (2, .int .i64 a2), (3, .int .i64 a3), (4, Sl.v a4)] [] (weirlaw3_RingFrames a0 a1 a2 a3 a4) weirlaw3_RingFrames.F0
  unfold weirlaw3_RingFrames
  refine SJ.sr 1 ?_
  refine OJ.go 1 [(10, .bool false)] ?_
  refine OJ.nil ?_
  refine SJ.sr 7 ?_
  refine OJ.go 5 [(15, Sl.v a4), (14, .int .i64 a3), (13, .int .i64 a2), (12, .int .i64 a1), (11, .int .i64 a0)] ?_
  refine OJ.call (d := 16) (g := 28) (ats := #[3, 3, 3, 3, 40, 3, 3]) (args := [.tmp 11, .tmp 12, .tmp 13, .tmp 14, .tmp 15, .const (.int .i64 0), .const (.int .i64 0)]) (owed := []) F28 (weirlaw3_plays_ok a0 a1 a2 a3 a4 0 0) (fun r1 => ?_)
  refine OW.nil ?_
  refine OJ.go 1 [(10, .bool r1)] ?_
  refine OJ.nil ?_
  exact SJ.ret rfl (Res.run (ys := [.bool r1]) (.tmp (by kernel_rfl) .nil) rfl)
end Go.Proofs.Ytoddkagehbcfjaa.Lx
