/- Programs of the M-world for Go functions, each with the proof that the Go text does what it says. Printed by lxgen.py. -/
import Derived.Test.YtlkhijflgbobjaaLxT
import Derived.Test.YtlkhijflgbobjaaLxP0
import Derived.Test.YtlkhijflgbobjaaLxP1
import Derived.Test.YtlkhijflgbobjaaLxP2
import Derived.Test.YtlkhijflgbobjaaLxP3
set_option linter.unusedVariables false
set_option linter.unusedSimpArgs false
namespace Go.Proofs.Ytlkhijflgbobjaa.Lx
open Go Go.Proofs
/-! ### weir/weirlaw15.NeighApart: function 4 -/
noncomputable def weirlaw15_NeighApart.B : Code := (Try.f4.body).getD .skip
noncomputable def weirlaw15_NeighApart.cx : Fx := ⟨Try.prog, 4, Try.f4⟩
noncomputable def weirlaw15_NeighApart.out (r_ : Bool) : Value := .bool r_
noncomputable def weirlaw15_NeighApart.F0 (r_ : Bool) : Reach := .ret (weirlaw15_NeighApart.out r_)
noncomputable def weirlaw15_NeighApart.F1 (a1 : Sl) (r2 : ((Option Addr) × api_NeighConfig)) (r4 : ((Option Addr) × api_NeighConfig)) (b11 : Nat) (b12 : Nat) : (LS Int Bool) → Reach := loopF [.inLoop (c1 (c1 (c2 (c1 (c2 (c2 (c2 (c2 (c2 (c2 weirlaw15_NeighApart.B)))))))))), .inBlock 0, .code (c2 (c2 (c2 (c2 (c2 (c2 (c2 weirlaw15_NeighApart.B)))))))] (fun s_ : Int => [(1, Sl.v a1), (5, .pointer r2.1), (7, .pointer r4.1), (9, .pointer (some (pt b11 0))), (10, .pointer (some (pt b12 0))), (11, .int .i64 s_)]) (fun s_ : Int => []) weirlaw15_NeighApart.F0
noncomputable def weirlaw15_NeighApart.K1 (b11 : Nat) (b12 : Nat) (s13 : Int) : M (LS Int Bool) :=
  weirlaw3_Ints_Untouched (some (pt b11 0)) >>= fun r475 =>
  (if ¬ (r475 = true) then
      pure true
    else
      weirlaw15_Rows_Untouched (some (pt b12 0)) >>= fun r476 =>
      pure (!r476)) >>= fun y477 =>
  if y477 = true then
    pure (LS.done false)
  else
    pure (LS.next (IntKind.wrap .i64 (s13 + 1)))
theorem weirlaw15_NeighApart.K1_ok (a1 : Sl) (r2 : ((Option Addr) × api_NeighConfig)) (r4 : ((Option Addr) × api_NeighConfig)) (b11 : Nat) (b12 : Nat) (s13 : Int) :
    SJ weirlaw15_NeighApart.cx [.inBlock 2, .code (c2 (c2 (c1 (c1 (c2 (c1 (c1 (c2 (c1 (c2 (c2 (c2 (c2 (c2 (c2 weirlaw15_NeighApart.B))))))))))))))), .inBlock 1, .code (c2 (c2 (c1 (c1 (c2 (c1 (c2 (c2 (c2 (c2 (c2 (c2 weirlaw15_NeighApart.B)))))))))))), .inLoop (c1 (c1 (c2 (c1 (c2 (c2 (c2 (c2 (c2 (c2 weirlaw15_NeighApart.B)))))))))), .inBlock 0, .code (c2 (c2 (c2 (c2 (c2 (c2 (c2 weirlaw15_NeighApart.B)))))))] [(1, Sl.v a1), (5, .pointer r2.1), (7, .pointer r4.1), (9, .pointer (some (pt b11 0))), (10, .pointer (some (pt b12 0))), (11, .int .i64 s13)] [] (weirlaw15_NeighApart.K1 b11 b12 s13) (weirlaw15_NeighApart.F1 a1 r2 r4 b11 b12) := by
  unfold weirlaw15_NeighApart.K1
  refine SJ.inBlock ?_
  refine SJ.sr 8 ?_
  refine OJ.go 1 [(219, .pointer (some (pt b11 0)))] ?_
  refine OJ.call (d := 220) (g := 30) (ats := #[55]) (args := [.tmp 219]) (owed := []) F30 (weirlaw3_Ints_Untouched_ok (some (pt b11 0))) (fun r475 => ?_)
  refine OW.nil ?_
  refine OJ.go 2 [(222, .bool (!r475)), (221, .bool (!r475))] ?_
  refine OJ.join (b := (!r475)) [4, 5, 6, 7] [] [1, 5, 7, 9, 10, 11, 226] (fun y477 => [(1, Sl.v a1), (5, .pointer r2.1), (7, .pointer r4.1), (9, .pointer (some (pt b11 0))), (10, .pointer (some (pt b12 0))), (11, .int .i64 s13), (226, .bool y477)]) [] [] (t := 222) (bnot_iff Iff.rfl) (fun hp_ => ?_) (fun hp_ => ?_) (fun _ _ _ _ _ _ h_ => h_) (fun y477 => ?_)
  · refine OJ.go 4 [(226, .bool true), (225, undef), (224, undef), (223, undef)] ?_
    exact OJ.nil ⟨(Cov.mem Cov.nil), rfl, _, rfl, by kernel_rfl⟩
  · refine OJ.go 1 [(223, .pointer (some (pt b12 0)))] ?_
    refine OJ.call (d := 224) (g := 31) (ats := #[59]) (args := [.tmp 223]) (owed := []) F31 (weirlaw15_Rows_Untouched_ok (some (pt b12 0))) (fun r476 => ?_)
    refine OW.nil ?_
    refine OJ.go 2 [(226, .bool (!r476)), (225, .bool (!r476))] ?_
    exact OJ.nil ⟨(Cov.mem Cov.nil), rfl, _, rfl, by kernel_rfl⟩
  · refine OJ.nil ?_
    refine SJ.cond (t := (.tmp 226)) (b := y477) Iff.rfl (fun hc478 => ?_) (fun hc478 => ?_)
    · refine SJ.sr 1 ?_
      refine OJ.go 1 [(4, .bool false)] ?_
      refine OJ.nil ?_
      exact SJ.ret rfl (Res.run (ys := [.bool false]) (.tmp (by kernel_rfl) .nil) rfl)
    · refine SJ.skip ?_
      refine SJ.inBlock ?_
      refine SJ.rg 3 ?_
      refine OJ.go 3 [(11, .int .i64 (IntKind.wrap .i64 (s13 + 1))), (69, .int .i64 (IntKind.wrap .i64 (s13 + 1))), (68, .int .i64 s13)] ?_
      refine OJ.nil ?_
      exact SJ.at_ [1, 5, 7, 9, 10, 11] rfl
noncomputable def weirlaw15_NeighApart.K2 (b11 : Nat) (b12 : Nat) (s13 : Int) : M (LS Int Bool) :=
  weirlaw15_NeighApart.K1 b11 b12 s13
theorem weirlaw15_NeighApart.K2_ok (a1 : Sl) (r2 : ((Option Addr) × api_NeighConfig)) (r4 : ((Option Addr) × api_NeighConfig)) (b11 : Nat) (b12 : Nat) (s13 : Int) :
    SJ weirlaw15_NeighApart.cx [.inBlock 2, .code (c2 (c2 (c1 (c1 (c2 (c1 (c1 (c2 (c1 (c2 (c2 (c2 (c2 (c2 (c2 weirlaw15_NeighApart.B))))))))))))))), .inBlock 1, .code (c2 (c2 (c1 (c1 (c2 (c1 (c2 (c2 (c2 (c2 (c2 (c2 weirlaw15_NeighApart.B)))))))))))), .inLoop (c1 (c1 (c2 (c1 (c2 (c2 (c2 (c2 (c2 (c2 weirlaw15_NeighApart.B)))))))))), .inBlock 0, .code (c2 (c2 (c2 (c2 (c2 (c2 (c2 weirlaw15_NeighApart.B)))))))] [(1, Sl.v a1), (5, .pointer r2.1), (7, .pointer r4.1), (9, .pointer (some (pt b11 0))), (10, .pointer (some (pt b12 0))), (11, .int .i64 s13)] [] (weirlaw15_NeighApart.K2 b11 b12 s13) (weirlaw15_NeighApart.F1 a1 r2 r4 b11 b12) := by
  unfold weirlaw15_NeighApart.K2
  refine SJ.less [1, 5, 7, 9, 10, 11] (m' := [(1, Sl.v a1), (5, .pointer r2.1), (7, .pointer r4.1), (9, .pointer (some (pt b11 0))), (10, .pointer (some (pt b12 0))), (11, .int .i64 s13)]) ?_
  exact weirlaw15_NeighApart.K1_ok a1 r2 r4 b11 b12 s13
noncomputable def weirlaw15_NeighApart.K3 (b11 : Nat) (b12 : Nat) (s13 : Int) : M (LS Int Bool) :=
  weirlaw15_NeighApart.K2 b11 b12 s13
theorem weirlaw15_NeighApart.K3_ok (a1 : Sl) (r2 : ((Option Addr) × api_NeighConfig)) (r4 : ((Option Addr) × api_NeighConfig)) (b11 : Nat) (b12 : Nat) (s13 : Int) :
    SJ weirlaw15_NeighApart.cx [.inBlock 2, .code (c2 (c2 (c1 (c1 (c2 (c1 (c1 (c2 (c1 (c2 (c2 (c2 (c2 (c2 (c2 weirlaw15_NeighApart.B))))))))))))))), .inBlock 1, .code (c2 (c2 (c1 (c1 (c2 (c1 (c2 (c2 (c2 (c2 (c2 (c2 weirlaw15_NeighApart.B)))))))))))), .inLoop (c1 (c1 (c2 (c1 (c2 (c2 (c2 (c2 (c2 (c2 weirlaw15_NeighApart.B)))))))))), .inBlock 0, .code (c2 (c2 (c2 (c2 (c2 (c2 (c2 weirlaw15_NeighApart.B)))))))] [(1, Sl.v a1), (5, .pointer r2.1), (7, .pointer r4.1), (9, .pointer (some (pt b11 0))), (10, .pointer (some (pt b12 0))), (11, .int .i64 s13)] [] (weirlaw15_NeighApart.K3 b11 b12 s13) (weirlaw15_NeighApart.F1 a1 r2 r4 b11 b12) := by
  unfold weirlaw15_NeighApart.K3
  refine SJ.less [1, 5, 7, 9, 10, 11] (m' := [(1, Sl.v a1), (5, .pointer r2.1), (7, .pointer r4.1), (9, .pointer (some (pt b11 0))), (10, .pointer (some (pt b12 0))), (11, .int .i64 s13)]) ?_
  exact weirlaw15_NeighApart.K2_ok a1 r2 r4 b11 b12 s13
noncomputable def weirlaw15_NeighApart.K4 (b11 : Nat) (b12 : Nat) (s13 : Int) : M (LS Int Bool) :=
  weirlaw15_NeighApart.K3 b11 b12 s13
theorem weirlaw15_NeighApart.K4_ok (a1 : Sl) (r2 : ((Option Addr) × api_NeighConfig)) (r4 : ((Option Addr) × api_NeighConfig)) (b11 : Nat) (b12 : Nat) (s13 : Int) :
    SJ weirlaw15_NeighApart.cx [.inBlock 2, .code (c2 (c2 (c1 (c1 (c2 (c1 (c1 (c2 (c1 (c2 (c2 (c2 (c2 (c2 (c2 weirlaw15_NeighApart.B))))))))))))))), .inBlock 1, .code (c2 (c2 (c1 (c1 (c2 (c1 (c2 (c2 (c2 (c2 (c2 (c2 weirlaw15_NeighApart.B)))))))))))), .inLoop (c1 (c1 (c2 (c1 (c2 (c2 (c2 (c2 (c2 (c2 weirlaw15_NeighApart.B)))))))))), .inBlock 0, .code (c2 (c2 (c2 (c2 (c2 (c2 (c2 weirlaw15_NeighApart.B)))))))] [(1, Sl.v a1), (5, .pointer r2.1), (7, .pointer r4.1), (9, .pointer (some (pt b11 0))), (10, .pointer (some (pt b12 0))), (11, .int .i64 s13)] [] (weirlaw15_NeighApart.K4 b11 b12 s13) (weirlaw15_NeighApart.F1 a1 r2 r4 b11 b12) := by
  unfold weirlaw15_NeighApart.K4
  refine SJ.less [1, 5, 7, 9, 10, 11] (m' := [(1, Sl.v a1), (5, .pointer r2.1), (7, .pointer r4.1), (9, .pointer (some (pt b11 0))), (10, .pointer (some (pt b12 0))), (11, .int .i64 s13)]) ?_
  exact weirlaw15_NeighApart.K3_ok a1 r2 r4 b11 b12 s13
noncomputable def weirlaw15_NeighApart.L1 (a1 : Sl) (r2 : ((Option Addr) × api_NeighConfig)) (r4 : ((Option Addr) × api_NeighConfig)) (b11 : Nat) (b12 : Nat) (s13 : Int) : M (LS Int Bool) :=
  (if s13 < (a1.len : Int) then
      pure (decide (s13 < 150))
    else
      pure false) >>= fun y320 =>
  if y320 = true then
    idx a1.a a1.len s13 27 >>= fun p324 =>
    ld c_weirlaw15_Op p324 >>= fun x325 =>
    slot 36 >>= fun b326 =>
    if x325.Kind = 1 then
      neigh_Cache_Want r2.1 x325.Port x325.IP x325.N >>= fun r479 =>
      slot 34 >>= fun b480 =>
      neigh_Cache_Want r4.1 x325.Port x325.IP x325.N >>= fun r481 =>
      slot 34 >>= fun b482 =>
      (if ¬ (r479.1 = r481.1) then
          pure true
        else
          pure (r479.2.1 != r481.2.1)) >>= fun y483 =>
      (if y483 = true then
          pure true
        else
          pure (r479.2.2 != r481.2.2)) >>= fun y484 =>
      if y484 = true then
        pure (LS.done false)
      else
        weirlaw15_NeighApart.K1 b11 b12 s13
    else
      if x325.Kind = 2 then
        neigh_Cache_Learn r2.1 x325.Port x325.IP x325.Mac x325.N >>= fun r556 =>
        neigh_Cache_Learn r4.1 x325.Port x325.IP x325.Mac x325.N >>= fun r557 =>
        weirlaw15_sameInts r556.1 r557.1 >>= fun r558 =>
        (if ¬ (r558 = true) then
            pure true
          else
            pure (r556.2 != r557.2)) >>= fun y559 =>
        if y559 = true then
          pure (LS.done false)
        else
          weirlaw3_Ints_Keep (some (pt b11 0)) r556.1 >>= fun r560 =>
          weirlaw3_Ints_Keep (some (pt b11 0)) r557.1 >>= fun r561 =>
          weirlaw15_NeighApart.K2 b11 b12 s13
      else
        if x325.Kind = 3 then
          neigh_Cache_Tick r2.1 >>= fun r594 =>
          neigh_Cache_Tick r4.1 >>= fun r595 =>
          weirlaw15_sameAsks r594.1 r595.1 >>= fun r596 =>
          (if ¬ (r596 = true) then
              pure true
            else
              weirlaw15_sameInts r594.2 r595.2 >>= fun r597 =>
              pure (!r597)) >>= fun y598 =>
          if y598 = true then
            pure (LS.done false)
          else
            weirlaw3_Ints_Keep (some (pt b11 0)) r594.2 >>= fun r599 =>
            weirlaw3_Ints_Keep (some (pt b11 0)) r595.2 >>= fun r600 =>
            weirlaw15_Rows_KeepA (some (pt b12 0)) r594.1 >>= fun r601 =>
            weirlaw15_Rows_KeepA (some (pt b12 0)) r595.1 >>= fun r602 =>
            weirlaw15_NeighApart.K3 b11 b12 s13
        else
          if x325.Kind = 5 then
            neigh_Cache_All r2.1 >>= fun r614 =>
            neigh_Cache_All r4.1 >>= fun r615 =>
            neigh_Cache_All r2.1 >>= fun r616 =>
            weirlaw15_sameAll r614 r615 >>= fun r617 =>
            (if ¬ (r617 = true) then
                pure true
              else
                weirlaw15_sameAll r614 r616 >>= fun r618 =>
                pure (!r618)) >>= fun y619 =>
            if y619 = true then
              pure (LS.done false)
            else
              weirlaw15_Rows_KeepN (some (pt b12 0)) r614 >>= fun r620 =>
              weirlaw15_Rows_KeepN (some (pt b12 0)) r615 >>= fun r621 =>
              weirlaw15_Rows_KeepN (some (pt b12 0)) r616 >>= fun r622 =>
              weirlaw15_NeighApart.K4 b11 b12 s13
          else
            weirlaw15_NeighApart.K4 b11 b12 s13
  else
    weirlaw3_Ints_Settle (some (pt b11 0)) >>= fun r628 =>
    (if r628 = true then
        weirlaw15_Rows_Settle (some (pt b12 0)) >>= fun r629 =>
        pure r629
      else
        pure false) >>= fun y630 =>
    pure (LS.done y630)
theorem weirlaw15_NeighApart.L1_ok (a1 : Sl) (r2 : ((Option Addr) × api_NeighConfig)) (r4 : ((Option Addr) × api_NeighConfig)) (b11 : Nat) (b12 : Nat) (s13 : Int) :
    SJ weirlaw15_NeighApart.cx [.code (c1 (c1 (c2 (c1 (c2 (c2 (c2 (c2 (c2 (c2 weirlaw15_NeighApart.B)))))))))), .inLoop (c1 (c1 (c2 (c1 (c2 (c2 (c2 (c2 (c2 (c2 weirlaw15_NeighApart.B)))))))))), .inBlock 0, .code (c2 (c2 (c2 (c2 (c2 (c2 (c2 weirlaw15_NeighApart.B)))))))] [(1, Sl.v a1), (5, .pointer r2.1), (7, .pointer r4.1), (9, .pointer (some (pt b11 0))), (10, .pointer (some (pt b12 0))), (11, .int .i64 s13)] [] (weirlaw15_NeighApart.L1 a1 r2 r4 b11 b12 s13) (weirlaw15_NeighApart.F1 a1 r2 r4 b11 b12) := by
  unfold weirlaw15_NeighApart.L1
  refine SJ.seq ?_
  refine SJ.sr 8 ?_
  refine OJ.go 5 [(64, .bool (decide (s13 < (a1.len : Int)))), (63, .bool (decide (s13 < (a1.len : Int)))), (62, .int .i64 (a1.len : Int)), (61, Sl.v a1), (60, .int .i64 s13)] ?_
  refine OJ.join (b := decide (s13 < (a1.len : Int))) [5, 6, 7] [] [1, 5, 7, 9, 10, 11, 67] (fun y320 => [(1, Sl.v a1), (5, .pointer r2.1), (7, .pointer r4.1), (9, .pointer (some (pt b11 0))), (10, .pointer (some (pt b12 0))), (11, .int .i64 s13), (67, .bool y320)]) [] [] (t := 64) decide_eq_true_iff (fun hp_ => ?_) (fun hp_ => ?_) (fun _ _ _ _ _ _ h_ => h_) (fun y320 => ?_)
  · refine OJ.go 3 [(67, .bool (decide (s13 < 150))), (66, .bool (decide (s13 < 150))), (65, .int .i64 s13)] ?_
    exact OJ.nil ⟨(Cov.mem Cov.nil), rfl, _, rfl, by kernel_rfl⟩
  · refine OJ.go 3 [(67, .bool false), (66, undef), (65, undef)] ?_
    exact OJ.nil ⟨(Cov.mem Cov.nil), rfl, _, rfl, by kernel_rfl⟩
  · refine OJ.nil ?_
    refine SJ.cond (t := (.tmp 67)) (b := y320) Iff.rfl (fun hc631 => ?_) (fun hc631 => ?_)
    · refine SJ.skip ?_
      refine SJ.seq ?_
      refine SJ.block (id := 1) ?_
      refine SJ.sr 6 ?_
      refine OJ.go 2 [(71, .int .i64 s13), (70, Sl.v a1)] ?_
      refine OJ.idxS (d := 72) (T := 24) (y := .tmp 70) (j := .tmp 71) (E := 36) (cap := a1.cap) (k := .i64) (fun p324 => ?_)
      refine OJ.ld (d := 73) (y := .tmp 72) (pend2 := fun x325 => []) Ty36 (fun _ => rfl) (fun x325 => ?_)
      refine OJ.slotOf (d := 12) (op := (.alloc 36)) (cd := c_weirlaw15_Op) (u := z_weirlaw15_Op) (owed := []) (alloc_run Ty36) (fun b326 => ?_)
      refine OW.nil ?_
      refine OJ.kst (y := .tmp 12) (z := .tmp 73) (cd := c_weirlaw15_Op) (u := x325) (j := 0) (b := b326) (o := 0) (c_weirlaw15_Op.enc x325) (owed := []) Ty36 rfl (Upd.whole ((Cod.len _ _).trans (Cod.len _ _).symm)) rfl ?_
      refine OW.nil ?_
      refine OJ.nil ?_
      refine SJ.seq ?_
      refine SJ.sr 2 ?_
      refine OJ.go 1 [(74, .pointer (some (pt b326 0)))] ?_
      refine OJ.kld (d := 75) (y := .tmp 74) (cd := (cI .i64)) (j := 0) (b := b326) (o := 0) x325.Kind (pend2 := []) Ty3 rfl (At_weirlaw15_Op_Kind x325) rfl ?_
      refine OJ.nil ?_
      refine SJ.block (id := 2) ?_
      refine SJ.sr 2 ?_
      refine OJ.go 2 [(76, .bool (x325.Kind == 1)), (77, .bool (x325.Kind == 1))] ?_
      refine OJ.nil ?_
      refine SJ.cond (t := (.tmp 76)) (b := (x325.Kind == 1)) beq_iff_eq (fun hc627 => ?_) (fun hc627 => ?_)
      · refine SJ.sr 16 ?_
        refine OJ.go 2 [(80, .pointer (some (pt b326 2))), (79, .pointer r2.1)] ?_
        refine OJ.kld (d := 81) (y := .tmp 80) (cd := (cI .i64)) (j := 0) (b := b326) (o := 2) x325.Port (pend2 := []) Ty3 rfl (At_weirlaw15_Op_Port x325) rfl ?_
        refine OJ.go 1 [(82, .pointer (some (pt b326 3)))] ?_
        refine OJ.kld (d := 83) (y := .tmp 82) (cd := c_api_IP) (j := 0) (b := b326) (o := 3) x325.IP (pend2 := []) Ty32 rfl (At_weirlaw15_Op_IP x325) rfl ?_
        refine OJ.go 1 [(84, .pointer (some (pt b326 26)))] ?_
        refine OJ.kld (d := 85) (y := .tmp 84) (cd := (cI .i64)) (j := 0) (b := b326) (o := 26) x325.N (pend2 := []) Ty3 rfl (At_weirlaw15_Op_N x325) rfl ?_
        refine OJ.call (d := 86) (g := 15) (ats := #[25, 3, 32, 3]) (args := [.tmp 79, .tmp 81, .tmp 83, .tmp 85]) (owed := []) F15 (neigh_Cache_Want_ok r2.1 x325.Port x325.IP x325.N) (fun r479 => ?_)
        refine OW.nil ?_
        refine OJ.go 4 [(89, .int .i64 r479.2.2), (88, .int .i64 r479.2.1), (87, ((cI .u8).arr 6).val r479.1), (78, .tuple #[((cI .u8).arr 6).val r479.1, .int .i64 r479.2.1, .int .i64 r479.2.2])] ?_
        refine OJ.slotOf (d := 13) (op := (.alloc 34)) (cd := ((cI .u8).arr 6)) (u := (Vec.rep 6 0)) (owed := []) (alloc_run Ty34) (fun b480 => ?_)
        refine OW.nil ?_
        refine OJ.kst (y := .tmp 13) (z := .tmp 87) (cd := ((cI .u8).arr 6)) (u := r479.1) (j := 0) (b := b480) (o := 0) (((cI .u8).arr 6).enc r479.1) (owed := []) Ty34 rfl (Upd.whole ((Cod.len _ _).trans (Cod.len _ _).symm)) rfl ?_
        refine OW.nil ?_
        refine OJ.go 2 [(15, .int .i64 r479.2.2), (14, .int .i64 r479.2.1)] ?_
        refine OJ.nil ?_
        refine SJ.sr 16 ?_
        refine OJ.go 2 [(92, .pointer (some (pt b326 2))), (91, .pointer r4.1)] ?_
        refine OJ.kld (d := 93) (y := .tmp 92) (cd := (cI .i64)) (j := 1) (b := b326) (o := 2) x325.Port (pend2 := []) Ty3 rfl (At_weirlaw15_Op_Port x325) rfl ?_
        refine OJ.go 1 [(94, .pointer (some (pt b326 3)))] ?_
        refine OJ.kld (d := 95) (y := .tmp 94) (cd := c_api_IP) (j := 1) (b := b326) (o := 3) x325.IP (pend2 := []) Ty32 rfl (At_weirlaw15_Op_IP x325) rfl ?_
        refine OJ.go 1 [(96, .pointer (some (pt b326 26)))] ?_
        refine OJ.kld (d := 97) (y := .tmp 96) (cd := (cI .i64)) (j := 1) (b := b326) (o := 26) x325.N (pend2 := []) Ty3 rfl (At_weirlaw15_Op_N x325) rfl ?_
        refine OJ.call (d := 98) (g := 15) (ats := #[25, 3, 32, 3]) (args := [.tmp 91, .tmp 93, .tmp 95, .tmp 97]) (owed := []) F15 (neigh_Cache_Want_ok r4.1 x325.Port x325.IP x325.N) (fun r481 => ?_)
        refine OW.nil ?_
        refine OJ.go 4 [(101, .int .i64 r481.2.2), (100, .int .i64 r481.2.1), (99, ((cI .u8).arr 6).val r481.1), (90, .tuple #[((cI .u8).arr 6).val r481.1, .int .i64 r481.2.1, .int .i64 r481.2.2])] ?_
        refine OJ.slotOf (d := 16) (op := (.alloc 34)) (cd := ((cI .u8).arr 6)) (u := (Vec.rep 6 0)) (owed := []) (alloc_run Ty34) (fun b482 => ?_)
        refine OW.nil ?_
        refine OJ.kst (y := .tmp 16) (z := .tmp 99) (cd := ((cI .u8).arr 6)) (u := r481.1) (j := 0) (b := b482) (o := 0) (((cI .u8).arr 6).enc r481.1) (owed := []) Ty34 rfl (Upd.whole ((Cod.len _ _).trans (Cod.len _ _).symm)) rfl ?_
        refine OW.nil ?_
        refine OJ.go 2 [(18, .int .i64 r481.2.2), (17, .int .i64 r481.2.1)] ?_
        refine OJ.nil ?_
        refine SJ.sr 13 ?_
        refine OJ.kld (d := 102) (y := .tmp 13) (cd := ((cI .u8).arr 6)) (j := 1) (b := b480) (o := 0) r479.1 (pend2 := []) Ty34 rfl (At.whole _) rfl ?_
        refine OJ.kld (d := 103) (y := .tmp 16) (cd := ((cI .u8).arr 6)) (j := 0) (b := b482) (o := 0) r481.1 (pend2 := []) Ty34 rfl (At.whole _) rfl ?_
        refine OJ.neq (d := 104) (T := 34) (yT := 34) (y := .tmp 102) (z := .tmp 103) (cd := ((cI .u8).arr 6)) (p := r479.1) (q := r481.1) rfl Eq34 ?_
        refine OJ.go 1 [(105, .bool (!eqv r479.1 r481.1))] ?_
        refine OJ.join (b := (!eqv r479.1 r481.1)) [4, 5, 6, 7] [8, 9, 10, 11, 12] [1, 5, 7, 9, 10, 11, 15, 18, 109] (fun y483 => [(1, Sl.v a1), (5, .pointer r2.1), (7, .pointer r4.1), (9, .pointer (some (pt b11 0))), (10, .pointer (some (pt b12 0))), (11, .int .i64 s13), (15, .int .i64 r479.2.2), (18, .int .i64 r481.2.2), (109, .bool y483)]) [] [] (t := 105) (bnot_iff eqv_iff) (fun hp_ => ?_) (fun hp_ => ?_) (fun _ _ _ _ _ _ h_ => h_) (fun y483 => ?_)
        · refine OJ.go 4 [(109, .bool true), (108, undef), (107, undef), (106, undef)] ?_
          exact OJ.nil ⟨(Cov.mem Cov.nil), rfl, _, rfl, by kernel_rfl⟩
        · refine OJ.go 4 [(109, .bool (r479.2.1 != r481.2.1)), (108, .bool (r479.2.1 != r481.2.1)), (107, .int .i64 r481.2.1), (106, .int .i64 r479.2.1)] ?_
          exact OJ.nil ⟨(Cov.mem Cov.nil), rfl, _, rfl, by kernel_rfl⟩
        · refine OJ.go 1 [(110, .bool y483)] ?_
          refine OJ.join (b := y483) [9, 10, 11, 12] [] [1, 5, 7, 9, 10, 11, 114] (fun y484 => [(1, Sl.v a1), (5, .pointer r2.1), (7, .pointer r4.1), (9, .pointer (some (pt b11 0))), (10, .pointer (some (pt b12 0))), (11, .int .i64 s13), (114, .bool y484)]) [] [] (t := 110) Iff.rfl (fun hp_ => ?_) (fun hp_ => ?_) (fun _ _ _ _ _ _ h_ => h_) (fun y484 => ?_)
          · refine OJ.go 4 [(114, .bool true), (113, undef), (112, undef), (111, undef)] ?_
            exact OJ.nil ⟨(Cov.mem Cov.nil), rfl, _, rfl, by kernel_rfl⟩
          · refine OJ.go 4 [(114, .bool (r479.2.2 != r481.2.2)), (113, .bool (r479.2.2 != r481.2.2)), (112, .int .i64 r481.2.2), (111, .int .i64 r479.2.2)] ?_
            exact OJ.nil ⟨(Cov.mem Cov.nil), rfl, _, rfl, by kernel_rfl⟩
          · refine OJ.nil ?_
            refine SJ.cond (t := (.tmp 114)) (b := y484) Iff.rfl (fun hc485 => ?_) (fun hc485 => ?_)
            · refine SJ.sr 1 ?_
              refine OJ.go 1 [(4, .bool false)] ?_
              refine OJ.nil ?_
              exact SJ.ret rfl (Res.run (ys := [.bool false]) (.tmp (by kernel_rfl) .nil) rfl)
            · refine SJ.skip ?_
              refine SJ.forget (List.Sublist.cons _ (List.Sublist.cons _ (List.Sublist.cons _ List.Sublist.slnil))) ?_
              refine SJ.less [1, 5, 7, 9, 10, 11] (m' := [(1, Sl.v a1), (5, .pointer r2.1), (7, .pointer r4.1), (9, .pointer (some (pt b11 0))), (10, .pointer (some (pt b12 0))), (11, .int .i64 s13)]) ?_
              exact weirlaw15_NeighApart.K1_ok a1 r2 r4 b11 b12 s13
      · refine SJ.sr 2 ?_
        refine OJ.go 2 [(115, .bool (x325.Kind == 2)), (116, .bool (x325.Kind == 2))] ?_
        refine OJ.nil ?_
        refine SJ.cond (t := (.tmp 115)) (b := (x325.Kind == 2)) beq_iff_eq (fun hc626 => ?_) (fun hc626 => ?_)
        · refine SJ.sr 15 ?_
          refine OJ.go 2 [(119, .pointer (some (pt b326 2))), (118, .pointer r2.1)] ?_
          refine OJ.kld (d := 120) (y := .tmp 119) (cd := (cI .i64)) (j := 0) (b := b326) (o := 2) x325.Port (pend2 := []) Ty3 rfl (At_weirlaw15_Op_Port x325) rfl ?_
          refine OJ.go 1 [(121, .pointer (some (pt b326 3)))] ?_
          refine OJ.kld (d := 122) (y := .tmp 121) (cd := c_api_IP) (j := 0) (b := b326) (o := 3) x325.IP (pend2 := []) Ty32 rfl (At_weirlaw15_Op_IP x325) rfl ?_
          refine OJ.go 1 [(123, .pointer (some (pt b326 20)))] ?_
          refine OJ.kld (d := 124) (y := .tmp 123) (cd := ((cI .u8).arr 6)) (j := 0) (b := b326) (o := 20) x325.Mac (pend2 := []) Ty34 rfl (At_weirlaw15_Op_Mac x325) rfl ?_
          refine OJ.go 1 [(125, .pointer (some (pt b326 26)))] ?_
          refine OJ.kld (d := 126) (y := .tmp 125) (cd := (cI .i64)) (j := 0) (b := b326) (o := 26) x325.N (pend2 := []) Ty3 rfl (At_weirlaw15_Op_N x325) rfl ?_
          refine OJ.call (d := 127) (g := 18) (ats := #[25, 3, 32, 34, 3]) (args := [.tmp 118, .tmp 120, .tmp 122, .tmp 124, .tmp 126]) (owed := []) F18 (neigh_Cache_Learn_ok r2.1 x325.Port x325.IP x325.Mac x325.N) (fun r556 => ?_)
          refine OW.nil ?_
          refine OJ.go 5 [(20, .int .i64 r556.2), (19, Sl.v r556.1), (129, .int .i64 r556.2), (128, Sl.v r556.1), (117, .tuple #[Sl.v r556.1, .int .i64 r556.2])] ?_
          refine OJ.nil ?_
          refine SJ.sr 15 ?_
          refine OJ.go 2 [(132, .pointer (some (pt b326 2))), (131, .pointer r4.1)] ?_
          refine OJ.kld (d := 133) (y := .tmp 132) (cd := (cI .i64)) (j := 0) (b := b326) (o := 2) x325.Port (pend2 := []) Ty3 rfl (At_weirlaw15_Op_Port x325) rfl ?_
          refine OJ.go 1 [(134, .pointer (some (pt b326 3)))] ?_
          refine OJ.kld (d := 135) (y := .tmp 134) (cd := c_api_IP) (j := 0) (b := b326) (o := 3) x325.IP (pend2 := []) Ty32 rfl (At_weirlaw15_Op_IP x325) rfl ?_
          refine OJ.go 1 [(136, .pointer (some (pt b326 20)))] ?_
          refine OJ.kld (d := 137) (y := .tmp 136) (cd := ((cI .u8).arr 6)) (j := 0) (b := b326) (o := 20) x325.Mac (pend2 := []) Ty34 rfl (At_weirlaw15_Op_Mac x325) rfl ?_
          refine OJ.go 1 [(138, .pointer (some (pt b326 26)))] ?_
          refine OJ.kld (d := 139) (y := .tmp 138) (cd := (cI .i64)) (j := 0) (b := b326) (o := 26) x325.N (pend2 := []) Ty3 rfl (At_weirlaw15_Op_N x325) rfl ?_
          refine OJ.call (d := 140) (g := 18) (ats := #[25, 3, 32, 34, 3]) (args := [.tmp 131, .tmp 133, .tmp 135, .tmp 137, .tmp 139]) (owed := []) F18 (neigh_Cache_Learn_ok r4.1 x325.Port x325.IP x325.Mac x325.N) (fun r557 => ?_)
          refine OW.nil ?_
          refine OJ.go 5 [(22, .int .i64 r557.2), (21, Sl.v r557.1), (142, .int .i64 r557.2), (141, Sl.v r557.1), (130, .tuple #[Sl.v r557.1, .int .i64 r557.2])] ?_
          refine OJ.nil ?_
          refine SJ.seq ?_
          refine SJ.sr 9 ?_
          refine OJ.go 2 [(144, Sl.v r557.1), (143, Sl.v r556.1)] ?_
          refine OJ.call (d := 145) (g := 23) (ats := #[43, 43]) (args := [.tmp 143, .tmp 144]) (owed := []) F23 (weirlaw15_sameInts_ok r556.1 r557.1) (fun r558 => ?_)
          refine OW.nil ?_
          refine OJ.go 2 [(147, .bool (!r558)), (146, .bool (!r558))] ?_
          refine OJ.join (b := (!r558)) [5, 6, 7, 8] [] [1, 5, 7, 9, 10, 11, 19, 21, 151] (fun y559 => [(1, Sl.v a1), (5, .pointer r2.1), (7, .pointer r4.1), (9, .pointer (some (pt b11 0))), (10, .pointer (some (pt b12 0))), (11, .int .i64 s13), (19, Sl.v r556.1), (21, Sl.v r557.1), (151, .bool y559)]) [] [] (t := 147) (bnot_iff Iff.rfl) (fun hp_ => ?_) (fun hp_ => ?_) (fun _ _ _ _ _ _ h_ => h_) (fun y559 => ?_)
          · refine OJ.go 4 [(151, .bool true), (150, undef), (149, undef), (148, undef)] ?_
            exact OJ.nil ⟨(Cov.mem Cov.nil), rfl, _, rfl, by kernel_rfl⟩
          · refine OJ.go 4 [(151, .bool (r556.2 != r557.2)), (150, .bool (r556.2 != r557.2)), (149, .int .i64 r557.2), (148, .int .i64 r556.2)] ?_
            exact OJ.nil ⟨(Cov.mem Cov.nil), rfl, _, rfl, by kernel_rfl⟩
          · refine OJ.nil ?_
            refine SJ.cond (t := (.tmp 151)) (b := y559) Iff.rfl (fun hc562 => ?_) (fun hc562 => ?_)
            · refine SJ.sr 1 ?_
              refine OJ.go 1 [(4, .bool false)] ?_
              refine OJ.nil ?_
              exact SJ.ret rfl (Res.run (ys := [.bool false]) (.tmp (by kernel_rfl) .nil) rfl)
            · refine SJ.skip ?_
              refine SJ.sr 3 ?_
              refine OJ.go 2 [(153, Sl.v r556.1), (152, .pointer (some (pt b11 0)))] ?_
              refine OJ.call (d := 154) (g := 24) (ats := #[55, 43]) (args := [.tmp 152, .tmp 153]) (owed := []) F24 (weirlaw3_Ints_Keep_ok (some (pt b11 0)) r556.1) (fun r560 => ?_)
              refine OW.nil ?_
              refine OJ.nil ?_
              refine SJ.rg 3 ?_
              refine OJ.go 2 [(156, Sl.v r557.1), (155, .pointer (some (pt b11 0)))] ?_
              refine OJ.call (d := 157) (g := 24) (ats := #[55, 43]) (args := [.tmp 155, .tmp 156]) (owed := []) F24 (weirlaw3_Ints_Keep_ok (some (pt b11 0)) r557.1) (fun r561 => ?_)
              refine OW.nil ?_
              refine OJ.nil ?_
              refine SJ.forget (List.Sublist.cons _ List.Sublist.slnil) ?_
              refine SJ.less [1, 5, 7, 9, 10, 11] (m' := [(1, Sl.v a1), (5, .pointer r2.1), (7, .pointer r4.1), (9, .pointer (some (pt b11 0))), (10, .pointer (some (pt b12 0))), (11, .int .i64 s13)]) ?_
              exact weirlaw15_NeighApart.K2_ok a1 r2 r4 b11 b12 s13
        · refine SJ.sr 2 ?_
          refine OJ.go 2 [(158, .bool (x325.Kind == 3)), (159, .bool (x325.Kind == 3))] ?_
          refine OJ.nil ?_
          refine SJ.cond (t := (.tmp 158)) (b := (x325.Kind == 3)) beq_iff_eq (fun hc625 => ?_) (fun hc625 => ?_)
          · refine SJ.sr 7 ?_
            refine OJ.go 1 [(161, .pointer r2.1)] ?_
            refine OJ.call (d := 162) (g := 21) (ats := #[25]) (args := [.tmp 161]) (owed := []) F21 (neigh_Cache_Tick_ok r2.1) (fun r594 => ?_)
            refine OW.nil ?_
            refine OJ.go 5 [(24, Sl.v r594.2), (23, Sl.v r594.1), (164, Sl.v r594.2), (163, Sl.v r594.1), (160, .tuple #[Sl.v r594.1, Sl.v r594.2])] ?_
            refine OJ.nil ?_
            refine SJ.sr 7 ?_
            refine OJ.go 1 [(166, .pointer r4.1)] ?_
            refine OJ.call (d := 167) (g := 21) (ats := #[25]) (args := [.tmp 166]) (owed := []) F21 (neigh_Cache_Tick_ok r4.1) (fun r595 => ?_)
            refine OW.nil ?_
            refine OJ.go 5 [(26, Sl.v r595.2), (25, Sl.v r595.1), (169, Sl.v r595.2), (168, Sl.v r595.1), (165, .tuple #[Sl.v r595.1, Sl.v r595.2])] ?_
            refine OJ.nil ?_
            refine SJ.seq ?_
            refine SJ.sr 10 ?_
            refine OJ.go 2 [(171, Sl.v r595.1), (170, Sl.v r594.1)] ?_
            refine OJ.call (d := 172) (g := 25) (ats := #[50, 50]) (args := [.tmp 170, .tmp 171]) (owed := []) F25 (weirlaw15_sameAsks_ok r594.1 r595.1) (fun r596 => ?_)
            refine OW.nil ?_
            refine OJ.go 2 [(174, .bool (!r596)), (173, .bool (!r596))] ?_
            refine OJ.join (b := (!r596)) [5, 6, 7, 8, 9] [] [1, 5, 7, 9, 10, 11, 23, 24, 25, 26, 179] (fun y598 => [(1, Sl.v a1), (5, .pointer r2.1), (7, .pointer r4.1), (9, .pointer (some (pt b11 0))), (10, .pointer (some (pt b12 0))), (11, .int .i64 s13), (23, Sl.v r594.1), (24, Sl.v r594.2), (25, Sl.v r595.1), (26, Sl.v r595.2), (179, .bool y598)]) [] [] (t := 174) (bnot_iff Iff.rfl) (fun hp_ => ?_) (fun hp_ => ?_) (fun _ _ _ _ _ _ h_ => h_) (fun y598 => ?_)
            · refine OJ.go 5 [(179, .bool true), (178, undef), (177, undef), (176, undef), (175, undef)] ?_
              exact OJ.nil ⟨(Cov.mem Cov.nil), rfl, _, rfl, by kernel_rfl⟩
            · refine OJ.go 2 [(176, Sl.v r595.2), (175, Sl.v r594.2)] ?_
              refine OJ.call (d := 177) (g := 23) (ats := #[43, 43]) (args := [.tmp 175, .tmp 176]) (owed := []) F23 (weirlaw15_sameInts_ok r594.2 r595.2) (fun r597 => ?_)
              refine OW.nil ?_
              refine OJ.go 2 [(179, .bool (!r597)), (178, .bool (!r597))] ?_
              exact OJ.nil ⟨(Cov.mem Cov.nil), rfl, _, rfl, by kernel_rfl⟩
            · refine OJ.nil ?_
              refine SJ.cond (t := (.tmp 179)) (b := y598) Iff.rfl (fun hc603 => ?_) (fun hc603 => ?_)
              · refine SJ.sr 1 ?_
                refine OJ.go 1 [(4, .bool false)] ?_
                refine OJ.nil ?_
                exact SJ.ret rfl (Res.run (ys := [.bool false]) (.tmp (by kernel_rfl) .nil) rfl)
              · refine SJ.skip ?_
                refine SJ.sr 3 ?_
                refine OJ.go 2 [(181, Sl.v r594.2), (180, .pointer (some (pt b11 0)))] ?_
                refine OJ.call (d := 182) (g := 24) (ats := #[55, 43]) (args := [.tmp 180, .tmp 181]) (owed := []) F24 (weirlaw3_Ints_Keep_ok (some (pt b11 0)) r594.2) (fun r599 => ?_)
                refine OW.nil ?_
                refine OJ.nil ?_
                refine SJ.sr 3 ?_
                refine OJ.go 2 [(184, Sl.v r595.2), (183, .pointer (some (pt b11 0)))] ?_
                refine OJ.call (d := 185) (g := 24) (ats := #[55, 43]) (args := [.tmp 183, .tmp 184]) (owed := []) F24 (weirlaw3_Ints_Keep_ok (some (pt b11 0)) r595.2) (fun r600 => ?_)
                refine OW.nil ?_
                refine OJ.nil ?_
                refine SJ.sr 3 ?_
                refine OJ.go 2 [(187, Sl.v r594.1), (186, .pointer (some (pt b12 0)))] ?_
                refine OJ.call (d := 188) (g := 26) (ats := #[59, 50]) (args := [.tmp 186, .tmp 187]) (owed := []) F26 (weirlaw15_Rows_KeepA_ok (some (pt b12 0)) r594.1) (fun r601 => ?_)
                refine OW.nil ?_
                refine OJ.nil ?_
                refine SJ.rg 3 ?_
                refine OJ.go 2 [(190, Sl.v r595.1), (189, .pointer (some (pt b12 0)))] ?_
                refine OJ.call (d := 191) (g := 26) (ats := #[59, 50]) (args := [.tmp 189, .tmp 190]) (owed := []) F26 (weirlaw15_Rows_KeepA_ok (some (pt b12 0)) r595.1) (fun r602 => ?_)
                refine OW.nil ?_
                refine OJ.nil ?_
                refine SJ.forget (List.Sublist.cons _ List.Sublist.slnil) ?_
                refine SJ.less [1, 5, 7, 9, 10, 11] (m' := [(1, Sl.v a1), (5, .pointer r2.1), (7, .pointer r4.1), (9, .pointer (some (pt b11 0))), (10, .pointer (some (pt b12 0))), (11, .int .i64 s13)]) ?_
                exact weirlaw15_NeighApart.K3_ok a1 r2 r4 b11 b12 s13
          · refine SJ.sr 2 ?_
            refine OJ.go 2 [(192, .bool (x325.Kind == 5)), (193, .bool (x325.Kind == 5))] ?_
            refine OJ.nil ?_
            refine SJ.cond (t := (.tmp 192)) (b := (x325.Kind == 5)) beq_iff_eq (fun hc624 => ?_) (fun hc624 => ?_)
            · refine SJ.sr 3 ?_
              refine OJ.go 1 [(194, .pointer r2.1)] ?_
              refine OJ.call (d := 195) (g := 27) (ats := #[25]) (args := [.tmp 194]) (owed := []) F27 (neigh_Cache_All_ok r2.1) (fun r614 => ?_)
              refine OW.nil ?_
              refine OJ.go 1 [(27, Sl.v r614)] ?_
              refine OJ.nil ?_
              refine SJ.sr 3 ?_
              refine OJ.go 1 [(196, .pointer r4.1)] ?_
              refine OJ.call (d := 197) (g := 27) (ats := #[25]) (args := [.tmp 196]) (owed := []) F27 (neigh_Cache_All_ok r4.1) (fun r615 => ?_)
              refine OW.nil ?_
              refine OJ.go 1 [(28, Sl.v r615)] ?_
              refine OJ.nil ?_
              refine SJ.sr 3 ?_
              refine OJ.go 1 [(198, .pointer r2.1)] ?_
              refine OJ.call (d := 199) (g := 27) (ats := #[25]) (args := [.tmp 198]) (owed := []) F27 (neigh_Cache_All_ok r2.1) (fun r616 => ?_)
              refine OW.nil ?_
              refine OJ.go 1 [(29, Sl.v r616)] ?_
              refine OJ.nil ?_
              refine SJ.seq ?_
              refine SJ.sr 10 ?_
              refine OJ.go 2 [(201, Sl.v r615), (200, Sl.v r614)] ?_
              refine OJ.call (d := 202) (g := 28) (ats := #[68, 68]) (args := [.tmp 200, .tmp 201]) (owed := []) F28 (weirlaw15_sameAll_ok r614 r615) (fun r617 => ?_)
              refine OW.nil ?_
              refine OJ.go 2 [(204, .bool (!r617)), (203, .bool (!r617))] ?_
              refine OJ.join (b := (!r617)) [5, 6, 7, 8, 9] [] [1, 5, 7, 9, 10, 11, 27, 28, 29, 209] (fun y619 => [(1, Sl.v a1), (5, .pointer r2.1), (7, .pointer r4.1), (9, .pointer (some (pt b11 0))), (10, .pointer (some (pt b12 0))), (11, .int .i64 s13), (27, Sl.v r614), (28, Sl.v r615), (29, Sl.v r616), (209, .bool y619)]) [] [] (t := 204) (bnot_iff Iff.rfl) (fun hp_ => ?_) (fun hp_ => ?_) (fun _ _ _ _ _ _ h_ => h_) (fun y619 => ?_)
              · refine OJ.go 5 [(209, .bool true), (208, undef), (207, undef), (206, undef), (205, undef)] ?_
                exact OJ.nil ⟨(Cov.mem Cov.nil), rfl, _, rfl, by kernel_rfl⟩
              · refine OJ.go 2 [(206, Sl.v r616), (205, Sl.v r614)] ?_
                refine OJ.call (d := 207) (g := 28) (ats := #[68, 68]) (args := [.tmp 205, .tmp 206]) (owed := []) F28 (weirlaw15_sameAll_ok r614 r616) (fun r618 => ?_)
                refine OW.nil ?_
                refine OJ.go 2 [(209, .bool (!r618)), (208, .bool (!r618))] ?_
                exact OJ.nil ⟨(Cov.mem Cov.nil), rfl, _, rfl, by kernel_rfl⟩
              · refine OJ.nil ?_
                refine SJ.cond (t := (.tmp 209)) (b := y619) Iff.rfl (fun hc623 => ?_) (fun hc623 => ?_)
                · refine SJ.sr 1 ?_
                  refine OJ.go 1 [(4, .bool false)] ?_
                  refine OJ.nil ?_
                  exact SJ.ret rfl (Res.run (ys := [.bool false]) (.tmp (by kernel_rfl) .nil) rfl)
                · refine SJ.skip ?_
                  refine SJ.sr 3 ?_
                  refine OJ.go 2 [(211, Sl.v r614), (210, .pointer (some (pt b12 0)))] ?_
                  refine OJ.call (d := 212) (g := 29) (ats := #[59, 68]) (args := [.tmp 210, .tmp 211]) (owed := []) F29 (weirlaw15_Rows_KeepN_ok (some (pt b12 0)) r614) (fun r620 => ?_)
                  refine OW.nil ?_
                  refine OJ.nil ?_
                  refine SJ.sr 3 ?_
                  refine OJ.go 2 [(214, Sl.v r615), (213, .pointer (some (pt b12 0)))] ?_
                  refine OJ.call (d := 215) (g := 29) (ats := #[59, 68]) (args := [.tmp 213, .tmp 214]) (owed := []) F29 (weirlaw15_Rows_KeepN_ok (some (pt b12 0)) r615) (fun r621 => ?_)
                  refine OW.nil ?_
                  refine OJ.nil ?_
                  refine SJ.rg 3 ?_
                  refine OJ.go 2 [(217, Sl.v r616), (216, .pointer (some (pt b12 0)))] ?_
                  refine OJ.call (d := 218) (g := 29) (ats := #[59, 68]) (args := [.tmp 216, .tmp 217]) (owed := []) F29 (weirlaw15_Rows_KeepN_ok (some (pt b12 0)) r616) (fun r622 => ?_)
                  refine OW.nil ?_
                  refine OJ.nil ?_
                  refine SJ.forget (List.Sublist.cons _ List.Sublist.slnil) ?_
                  refine SJ.less [1, 5, 7, 9, 10, 11] (m' := [(1, Sl.v a1), (5, .pointer r2.1), (7, .pointer r4.1), (9, .pointer (some (pt b11 0))), (10, .pointer (some (pt b12 0))), (11, .int .i64 s13)]) ?_
                  exact weirlaw15_NeighApart.K4_ok a1 r2 r4 b11 b12 s13
            · refine SJ.skip ?_
              refine SJ.forget (List.Sublist.cons _ List.Sublist.slnil) ?_
              refine SJ.less [1, 5, 7, 9, 10, 11] (m' := [(1, Sl.v a1), (5, .pointer r2.1), (7, .pointer r4.1), (9, .pointer (some (pt b11 0))), (10, .pointer (some (pt b12 0))), (11, .int .i64 s13)]) ?_
              exact weirlaw15_NeighApart.K4_ok a1 r2 r4 b11 b12 s13
    · refine SJ.exit (id := 0) (by rfl) ?_
      refine SJ.sr 7 ?_
      refine OJ.go 1 [(227, .pointer (some (pt b11 0)))] ?_
      refine OJ.call (d := 228) (g := 32) (ats := #[55]) (args := [.tmp 227]) (owed := []) F32 (weirlaw3_Ints_Settle_ok (some (pt b11 0))) (fun r628 => ?_)
      refine OW.nil ?_
      refine OJ.go 1 [(229, .bool r628)] ?_
      refine OJ.join (b := r628) [3, 4, 5] [6] [232] (fun y630 => [(232, .bool y630)]) [] [] (t := 229) Iff.rfl (fun hp_ => ?_) (fun hp_ => ?_) (fun _ _ _ _ _ _ h_ => h_) (fun y630 => ?_)
      · refine OJ.go 1 [(230, .pointer (some (pt b12 0)))] ?_
        refine OJ.call (d := 231) (g := 33) (ats := #[59]) (args := [.tmp 230]) (owed := []) F33 (weirlaw15_Rows_Settle_ok (some (pt b12 0))) (fun r629 => ?_)
        refine OW.nil ?_
        refine OJ.go 1 [(232, .bool r629)] ?_
        exact OJ.nil ⟨(Cov.mem Cov.nil), rfl, _, rfl, by kernel_rfl⟩
      · refine OJ.go 3 [(232, .bool false), (231, undef), (230, undef)] ?_
        exact OJ.nil ⟨(Cov.mem Cov.nil), rfl, _, rfl, by kernel_rfl⟩
      · refine OJ.go 1 [(4, .bool y630)] ?_
        refine OJ.nil ?_
        exact SJ.ret rfl (Res.run (ys := [.bool y630]) (.tmp (by kernel_rfl) .nil) rfl)
noncomputable def weirlaw15_NeighApart (a0 : api_NeighConfig) (a1 : Sl) : M Bool :=
  slot 23 >>= fun b1 =>
  weirlaw15_cache a0 >>= fun r2 =>
  slot 23 >>= fun b3 =>
  weirlaw15_cache a0 >>= fun r4 =>
  slot 23 >>= fun b5 =>
  (if r2.1 = none then
      pure true
    else
      pure (Option.isNone r4.1)) >>= fun y6 =>
  (if y6 = true then
      pure true
    else
      weirlaw15_first r2.1 >>= fun r7 =>
      pure (!r7)) >>= fun y8 =>
  (if y8 = true then
      pure true
    else
      weirlaw15_first r4.1 >>= fun r9 =>
      pure (!r9)) >>= fun y10 =>
  if y10 = true then
    pure false
  else
    newv 58 c_weirlaw3_Ints z_weirlaw3_Ints >>= fun b11 =>
    newv 63 c_weirlaw15_Rows z_weirlaw15_Rows >>= fun b12 =>
    loopM (fun s_ : Int => weirlaw15_NeighApart.L1 a1 r2 r4 b11 b12 s_) 0
theorem weirlaw15_NeighApart_ok (a0 : api_NeighConfig) (a1 : Sl) : Ref Try.prog 4 [c_api_NeighConfig.val a0, Sl.v a1] (weirlaw15_NeighApart a0 a1) weirlaw15_NeighApart.out := by
  refine Ref.of (cd := weirlaw15_NeighApart.B) Try.func4 ?_
  show SJ weirlaw15_NeighApart.cx [.code weirlaw15_NeighApart.B] [(0, c_api_NeighConfig.val a0), (1, Sl.v a1)] [] (weirlaw15_NeighApart a0 a1) weirlaw15_NeighApart.F0
  unfold weirlaw15_NeighApart
  refine SJ.sr 2 ?_
  refine OJ.slotOf (d := 2) (op := (.box 23 (.tmp 0))) (cd := c_api_NeighConfig) (u := a0) (owed := []) (box_run (by kernel_rfl)) (fun b1 => ?_)
  refine OW.nil ?_
  refine OJ.go 1 [(4, .bool false)] ?_
  refine OJ.nil ?_
  refine SJ.sr 8 ?_
  refine OJ.kld (d := 31) (y := .tmp 2) (cd := c_api_NeighConfig) (j := 0) (b := b1) (o := 0) a0 (pend2 := []) Ty23 rfl (At.whole _) rfl ?_
  refine OJ.call (d := 32) (g := 13) (ats := #[23]) (args := [.tmp 31]) (owed := []) F13 (weirlaw15_cache_ok a0) (fun r2 => ?_)
  refine OW.nil ?_
  refine OJ.go 3 [(34, c_api_NeighConfig.val r2.2), (33, .pointer r2.1), (30, .tuple #[.pointer r2.1, c_api_NeighConfig.val r2.2])] ?_
  refine OJ.slotOf (d := 6) (op := (.alloc 23)) (cd := c_api_NeighConfig) (u := z_api_NeighConfig) (owed := []) (alloc_run Ty23) (fun b3 => ?_)
  refine OW.nil ?_
  refine OJ.go 1 [(5, .pointer r2.1)] ?_
  refine OJ.kst (y := .tmp 6) (z := .tmp 34) (cd := c_api_NeighConfig) (u := r2.2) (j := 0) (b := b3) (o := 0) (c_api_NeighConfig.enc r2.2) (owed := []) Ty23 rfl (Upd.whole ((Cod.len _ _).trans (Cod.len _ _).symm)) rfl ?_
  refine OW.nil ?_
  refine OJ.nil ?_
  refine SJ.sr 8 ?_
  refine OJ.kld (d := 36) (y := .tmp 2) (cd := c_api_NeighConfig) (j := 1) (b := b1) (o := 0) a0 (pend2 := []) Ty23 rfl (At.whole _) rfl ?_
  refine OJ.call (d := 37) (g := 13) (ats := #[23]) (args := [.tmp 36]) (owed := []) F13 (weirlaw15_cache_ok a0) (fun r4 => ?_)
  refine OW.nil ?_
  refine OJ.go 3 [(39, c_api_NeighConfig.val r4.2), (38, .pointer r4.1), (35, .tuple #[.pointer r4.1, c_api_NeighConfig.val r4.2])] ?_
  refine OJ.slotOf (d := 8) (op := (.alloc 23)) (cd := c_api_NeighConfig) (u := z_api_NeighConfig) (owed := []) (alloc_run Ty23) (fun b5 => ?_)
  refine OW.nil ?_
  refine OJ.go 1 [(7, .pointer r4.1)] ?_
  refine OJ.kst (y := .tmp 8) (z := .tmp 39) (cd := c_api_NeighConfig) (u := r4.2) (j := 0) (b := b5) (o := 0) (c_api_NeighConfig.enc r4.2) (owed := []) Ty23 rfl (Upd.whole ((Cod.len _ _).trans (Cod.len _ _).symm)) rfl ?_
  refine OW.nil ?_
  refine OJ.nil ?_
  refine SJ.seq ?_
  refine SJ.sr 16 ?_
  refine OJ.go 3 [(42, .bool (Option.isNone r2.1)), (41, .bool (Option.isNone r2.1)), (40, .pointer r2.1)] ?_
  refine OJ.join (b := (Option.isNone r2.1)) [3, 4, 5] [6, 7, 8, 9, 10, 11, 12, 13, 14, 15] [1, 5, 7, 45] (fun y6 => [(1, Sl.v a1), (5, .pointer r2.1), (7, .pointer r4.1), (45, .bool y6)]) [] [] (t := 42) Option.isNone_iff_eq_none (fun hp_ => ?_) (fun hp_ => ?_) (fun _ _ _ _ _ _ h_ => h_) (fun y6 => ?_)
  · refine OJ.go 3 [(45, .bool true), (44, undef), (43, undef)] ?_
    exact OJ.nil ⟨(Cov.mem Cov.nil), rfl, _, rfl, by kernel_rfl⟩
  · refine OJ.go 3 [(45, .bool (Option.isNone r4.1)), (44, .bool (Option.isNone r4.1)), (43, .pointer r4.1)] ?_
    exact OJ.nil ⟨(Cov.mem Cov.nil), rfl, _, rfl, by kernel_rfl⟩
  · refine OJ.go 1 [(46, .bool y6)] ?_
    refine OJ.join (b := y6) [7, 8, 9, 10] [11, 12, 13, 14, 15] [1, 5, 7, 50] (fun y8 => [(1, Sl.v a1), (5, .pointer r2.1), (7, .pointer r4.1), (50, .bool y8)]) [] [] (t := 46) Iff.rfl (fun hp_ => ?_) (fun hp_ => ?_) (fun _ _ _ _ _ _ h_ => h_) (fun y8 => ?_)
    · refine OJ.go 4 [(50, .bool true), (49, undef), (48, undef), (47, undef)] ?_
      exact OJ.nil ⟨(Cov.mem Cov.nil), rfl, _, rfl, by kernel_rfl⟩
    · refine OJ.go 1 [(47, .pointer r2.1)] ?_
      refine OJ.call (d := 48) (g := 14) (ats := #[25]) (args := [.tmp 47]) (owed := []) F14 (weirlaw15_first_ok r2.1) (fun r7 => ?_)
      refine OW.nil ?_
      refine OJ.go 2 [(50, .bool (!r7)), (49, .bool (!r7))] ?_
      exact OJ.nil ⟨(Cov.mem Cov.nil), rfl, _, rfl, by kernel_rfl⟩
    · refine OJ.go 1 [(51, .bool y8)] ?_
      refine OJ.join (b := y8) [12, 13, 14, 15] [] [1, 5, 7, 55] (fun y10 => [(1, Sl.v a1), (5, .pointer r2.1), (7, .pointer r4.1), (55, .bool y10)]) [] [] (t := 51) Iff.rfl (fun hp_ => ?_) (fun hp_ => ?_) (fun _ _ _ _ _ _ h_ => h_) (fun y10 => ?_)
      · refine OJ.go 4 [(55, .bool true), (54, undef), (53, undef), (52, undef)] ?_
        exact OJ.nil ⟨(Cov.mem Cov.nil), rfl, _, rfl, by kernel_rfl⟩
      · refine OJ.go 1 [(52, .pointer r4.1)] ?_
        refine OJ.call (d := 53) (g := 14) (ats := #[25]) (args := [.tmp 52]) (owed := []) F14 (weirlaw15_first_ok r4.1) (fun r9 => ?_)
        refine OW.nil ?_
        refine OJ.go 2 [(55, .bool (!r9)), (54, .bool (!r9))] ?_
        exact OJ.nil ⟨(Cov.mem Cov.nil), rfl, _, rfl, by kernel_rfl⟩
      · refine OJ.nil ?_
        refine SJ.cond (t := (.tmp 55)) (b := y10) Iff.rfl (fun hc632 => ?_) (fun hc632 => ?_)
        · refine SJ.sr 1 ?_
          refine OJ.go 1 [(4, .bool false)] ?_
          refine OJ.nil ?_
          exact SJ.ret rfl (Res.run (ys := [.bool false]) (.tmp (by kernel_rfl) .nil) rfl)
        · refine SJ.skip ?_
          refine SJ.sr 3 ?_
          refine OJ.build (d := 56) (T := 58) (parts := []) (ps := []) (cd := c_weirlaw3_Ints) (z0 := z_weirlaw3_Ints) z_weirlaw3_Ints Ty58 rfl Filled.nil ?_
          refine OJ.newOf (d := 57) (op := (.box 58 (.tmp 56))) (cd := c_weirlaw3_Ints) (u := z_weirlaw3_Ints) (owed := []) (box_run (by kernel_rfl)) (fun b11 => ?_)
          refine OW.nil ?_
          refine OJ.go 1 [(9, .pointer (some (pt b11 0)))] ?_
          refine OJ.nil ?_
          refine SJ.sr 3 ?_
          refine OJ.build (d := 58) (T := 63) (parts := []) (ps := []) (cd := c_weirlaw15_Rows) (z0 := z_weirlaw15_Rows) z_weirlaw15_Rows Ty63 rfl Filled.nil ?_
          refine OJ.newOf (d := 59) (op := (.box 63 (.tmp 58))) (cd := c_weirlaw15_Rows) (u := z_weirlaw15_Rows) (owed := []) (box_run (by kernel_rfl)) (fun b12 => ?_)
          refine OW.nil ?_
          refine OJ.go 1 [(10, .pointer (some (pt b12 0)))] ?_
          refine OJ.nil ?_
          refine SJ.seq ?_
          refine SJ.sr 1 ?_
          refine OJ.go 1 [(11, .int .i64 0)] ?_
          refine OJ.nil ?_
          refine SJ.block (id := 0) ?_
          refine SJ.forget (List.Sublist.cons _ (List.Sublist.cons _ (List.Sublist.cons _ List.Sublist.slnil))) ?_
          exact SJ.loop (fun s_ : Int => [(1, Sl.v a1), (5, .pointer r2.1), (7, .pointer r4.1), (9, .pointer (some (pt b11 0))), (10, .pointer (some (pt b12 0))), (11, .int .i64 s_)]) (fun s_ : Int => []) [1, 5, 7, 9, 10, 11] rfl (fun _ _ => rfl) (fun s_ => weirlaw15_NeighApart.L1_ok a1 r2 r4 b11 b12 s_)

/-! ### (*weir/neigh.Cache).Get: function 43 -/
noncomputable def neigh_Cache_Get.B : Code := (Try.f43.body).getD .skip
noncomputable def neigh_Cache_Get.cx : Fx := ⟨Try.prog, 43, Try.f43⟩
noncomputable def neigh_Cache_Get.out (r_ : (api_Neighbour × Bool)) : Value := .tuple #[c_api_Neighbour.val r_.1, .bool r_.2]
noncomputable def neigh_Cache_Get.F0 (r_ : (api_Neighbour × Bool)) : Reach := .ret (neigh_Cache_Get.out r_)
noncomputable def neigh_Cache_Get (a0 : (Option Addr)) (a1 : Int) (a2 : api_IP) : M (api_Neighbour × Bool) :=
  slot 32 >>= fun b1 =>
  slot 77 >>= fun b2 =>
  draw >>= fun _ =>
  nilck a0 >>= fun p3 =>
  ld cM (Addr.add p3 5) >>= fun x4 =>
  mget c_neigh_key cP none x4 (⟨a1, a2⟩ : neigh_key) >>= fun r5 =>
  if r5.1 = none then
    pure (z_api_Neighbour, false)
  else
    neigh_entry_told r5.1 >>= fun r6 =>
    pure (r6, true)
theorem neigh_Cache_Get_ok (a0 : (Option Addr)) (a1 : Int) (a2 : api_IP) : Ref Try.prog 43 [.pointer a0, .int .i64 a1, c_api_IP.val a2] (neigh_Cache_Get a0 a1 a2) neigh_Cache_Get.out := by
  refine Ref.of (cd := neigh_Cache_Get.B) Try.func43 ?_
  show SJ neigh_Cache_Get.cx [.code neigh_Cache_Get.B] [(0, .pointer a0), (1, .int .i64 a1), (2, c_api_IP.val a2)] [] (neigh_Cache_Get a0 a1 a2) neigh_Cache_Get.F0
  unfold neigh_Cache_Get
  refine SJ.sr 3 ?_
  refine OJ.slotOf (d := 5) (op := (.box 32 (.tmp 2))) (cd := c_api_IP) (u := a2) (owed := []) (box_run (by kernel_rfl)) (fun b1 => ?_)
  refine OW.nil ?_
  refine OJ.slotOf (d := 6) (op := (.alloc 77)) (cd := c_api_Neighbour) (u := z_api_Neighbour) (owed := []) (alloc_run Ty77) (fun b2 => ?_)
  refine OW.nil ?_
  refine OJ.go 1 [(7, .bool false)] ?_
  refine OJ.nil ?_
  refine SJ.seq ?_
  refine SJ.draw (id := 1) (kd := [0, 0, 0, 1, 0, 1, 0, 2, 0]) (bef := [0, 1, 3, 7, 0, 0, 48, 127, 255]) (ord := [0, 1, 2, 3, 4, 5, 6, 7, 8]) mixed ?_
  refine OJ.go 1 [(9, .pointer a0)] ?_
  refine OJ.nilck (d := 10) (y := .tmp 9) (fun p3 => ?_)
  refine OJ.go 1 [(11, .pointer (some (Addr.add p3 5)))] ?_
  refine OJ.ld (d := 12) (y := .tmp 11) (pend2 := fun x4 => [⟨3, 101, (Addr.add p3 5), cM.val x4⟩]) Ty101 (fun _ => rfl) (fun x4 => ?_)
  refine OJ.go 1 [(13, .int .i64 a1)] ?_
  refine OJ.kld (d := 14) (y := .tmp 5) (cd := c_api_IP) (j := 1) (b := b1) (o := 0) a2 (pend2 := [⟨5, 32, (pt b1 0), c_api_IP.val a2⟩, ⟨3, 101, (Addr.add p3 5), cM.val x4⟩]) Ty32 rfl (At.whole _) rfl ?_
  refine OJ.build (d := 15) (T := 99) (parts := [(0, .tmp 13), (1, .tmp 14)]) (ps := [(0, (cI .i64).val a1), (1, c_api_IP.val a2)]) (cd := c_neigh_key) (z0 := z_neigh_key) (⟨a1, a2⟩ : neigh_key) Ty99 rfl (Filled.cons (cd := (cI .i64)) (q := a1) (o := 0) (by kernel_rfl) (Up_neigh_key_port z_neigh_key a1) (Filled.cons (cd := c_api_IP) (q := a2) (o := 1) (by kernel_rfl) (Up_neigh_key_ip (⟨a1, z_neigh_key.ip⟩ : neigh_key) a2) Filled.nil)) ?_
  refine OJ.get0 (d := 16) (x := .tmp 12) (y := .tmp 15) (owed := []) Kt101 (fun r5 => ?_)
  refine OW.nil ?_
  refine OJ.go 1 [(8, .pointer r5.1)] ?_
  refine OJ.nil ?_
  refine SJ.seq ?_
  refine SJ.sr 2 ?_
  refine OJ.go 2 [(18, .bool (Option.isNone r5.1)), (17, .pointer r5.1)] ?_
  refine OJ.nil ?_
  refine SJ.cond (t := (.tmp 18)) (b := (Option.isNone r5.1)) Option.isNone_iff_eq_none (fun hc7 => ?_) (fun hc7 => ?_)
  · refine SJ.sr 3 ?_
    refine OJ.build (d := 19) (T := 77) (parts := []) (ps := []) (cd := c_api_Neighbour) (z0 := z_api_Neighbour) z_api_Neighbour Ty77 rfl Filled.nil ?_
    refine OJ.kst (y := .tmp 6) (z := .tmp 19) (cd := c_api_Neighbour) (u := z_api_Neighbour) (j := 0) (b := b2) (o := 0) (c_api_Neighbour.enc z_api_Neighbour) (owed := []) Ty77 rfl (Upd.whole ((Cod.len _ _).trans (Cod.len _ _).symm)) rfl ?_
    refine OW.nil ?_
    refine OJ.go 1 [(7, .bool false)] ?_
    refine OJ.nil ?_
    exact SJ.ret rfl (Res.run (ys := [c_api_Neighbour.val z_api_Neighbour, .bool false]) (.cell (j := 0) (b := b2) (cd := c_api_Neighbour) (q := z_api_Neighbour) (by kernel_rfl) rfl Ty77 (At.whole _) (.tmp (by kernel_rfl) .nil)) rfl)
  · refine SJ.skip ?_
    refine SJ.sr 4 ?_
    refine OJ.go 1 [(20, .pointer r5.1)] ?_
    refine OJ.call (d := 21) (g := 51) (ats := #[100]) (args := [.tmp 20]) (owed := []) F51 (neigh_entry_told_ok r5.1) (fun r6 => ?_)
    refine OW.nil ?_
    refine OJ.kst (y := .tmp 6) (z := .tmp 21) (cd := c_api_Neighbour) (u := r6) (j := 0) (b := b2) (o := 0) (c_api_Neighbour.enc r6) (owed := []) Ty77 rfl (Upd.whole ((Cod.len _ _).trans (Cod.len _ _).symm)) rfl ?_
    refine OW.nil ?_
    refine OJ.go 1 [(7, .bool true)] ?_
    refine OJ.nil ?_
    exact SJ.ret rfl (Res.run (ys := [c_api_Neighbour.val r6, .bool true]) (.cell (j := 0) (b := b2) (cd := c_api_Neighbour) (q := r6) (by kernel_rfl) rfl Ty77 (At.whole _) (.tmp (by kernel_rfl) .nil)) rfl)

/-! ### (*weir/neigh.Cache).Waiting: function 35 -/
noncomputable def neigh_Cache_Waiting.B : Code := (Try.f35.body).getD .skip
noncomputable def neigh_Cache_Waiting.cx : Fx := ⟨Try.prog, 35, Try.f35⟩
noncomputable def neigh_Cache_Waiting.out (r_ : Int) : Value := .int .i64 r_
noncomputable def neigh_Cache_Waiting.F0 (r_ : Int) : Reach := .ret (neigh_Cache_Waiting.out r_)
noncomputable def neigh_Cache_Waiting.F1 (b3 : Nat) : (LS Int Int) → Reach := loopF [.inLoop (c1 (c1 (c2 (c1 (c2 (c2 neigh_Cache_Waiting.B)))))), .inBlock 0, .code (c2 (c2 (c2 neigh_Cache_Waiting.B)))] (fun s_ : Int => [(3, .int .i64 s_), (10, .pointer (some (pt b3 0)))]) (fun s_ : Int => []) neigh_Cache_Waiting.F0
noncomputable def neigh_Cache_Waiting.L1 (b3 : Nat) (s4 : Int) : M (LS Int Int) :=
  mnext b3 >>= fun r10 =>
  if r10.1 = true then
    mentry c_neigh_key cP b3 >>= fun r11 =>
    nilck r11.2 >>= fun p12 =>
    ld cL (Addr.add p12 27) >>= fun x13 =>
    pure (LS.next (IntKind.wrap .i64 (s4 + (x13.len : Int))))
  else
    pure (LS.done s4)
theorem neigh_Cache_Waiting.L1_ok (b3 : Nat) (s4 : Int) :
    SJ neigh_Cache_Waiting.cx [.code (c1 (c1 (c2 (c1 (c2 (c2 neigh_Cache_Waiting.B)))))), .inLoop (c1 (c1 (c2 (c1 (c2 (c2 neigh_Cache_Waiting.B)))))), .inBlock 0, .code (c2 (c2 (c2 neigh_Cache_Waiting.B)))] [(3, .int .i64 s4), (10, .pointer (some (pt b3 0)))] [] (neigh_Cache_Waiting.L1 b3 s4) (neigh_Cache_Waiting.F1 b3) := by
  unfold neigh_Cache_Waiting.L1
  refine SJ.sr 2 ?_
  refine OJ.mnext (d := 11) (x := .tmp 10) (owed := []) (fun r10 => ?_)
  refine OW.nil ?_
  refine OJ.go 1 [(12, .bool r10.1)] ?_
  refine OJ.nil ?_
  refine SJ.seq ?_
  refine SJ.cond (t := (.tmp 12)) (b := r10.1) Iff.rfl (fun hc14 => ?_) (fun hc14 => ?_)
  · refine SJ.skip ?_
    refine SJ.block (id := 1) ?_
    refine SJ.sr 3 ?_
    refine OJ.mentry (d := 13) (x := .tmp 10) (owed := []) (fun r11 => ?_)
    refine OW.nil ?_
    refine OJ.go 2 [(5, .pointer r11.2), (14, .pointer r11.2)] ?_
    refine OJ.nil ?_
    refine SJ.rg 8 ?_
    refine OJ.go 2 [(16, .pointer r11.2), (15, .int .i64 s4)] ?_
    refine OJ.nilck (d := 17) (y := .tmp 16) (fun p12 => ?_)
    refine OJ.go 1 [(18, .pointer (some (Addr.add p12 27)))] ?_
    refine OJ.ld (d := 19) (y := .tmp 18) (pend2 := fun x13 => []) Ty43 (fun _ => rfl) (fun x13 => ?_)
    refine OJ.go 3 [(3, .int .i64 (IntKind.wrap .i64 (s4 + (x13.len : Int)))), (21, .int .i64 (IntKind.wrap .i64 (s4 + (x13.len : Int)))), (20, .int .i64 (x13.len : Int))] ?_
    refine OJ.nil ?_
    refine SJ.inBlock ?_
    exact SJ.at_ [3, 10] rfl
  · refine SJ.exit (id := 0) (by rfl) ?_
    refine SJ.sr 2 ?_
    refine OJ.go 2 [(2, .int .i64 s4), (22, .int .i64 s4)] ?_
    refine OJ.nil ?_
    exact SJ.ret rfl (Res.run (ys := [.int .i64 s4]) (.tmp (by kernel_rfl) .nil) rfl)
noncomputable def neigh_Cache_Waiting (a0 : (Option Addr)) : M Int :=
  nilck a0 >>= fun p1 =>
  ld cM (Addr.add p1 5) >>= fun x2 =>
  mrange x2 >>= fun b3 =>
  loopM (fun s_ : Int => neigh_Cache_Waiting.L1 b3 s_) 0
theorem neigh_Cache_Waiting_ok (a0 : (Option Addr)) : Ref Try.prog 35 [.pointer a0] (neigh_Cache_Waiting a0) neigh_Cache_Waiting.out := by
  refine Ref.of (cd := neigh_Cache_Waiting.B) Try.func35 ?_
  show SJ neigh_Cache_Waiting.cx [.code neigh_Cache_Waiting.B] [(0, .pointer a0)] [] (neigh_Cache_Waiting a0) neigh_Cache_Waiting.F0
  unfold neigh_Cache_Waiting
  refine SJ.sr 1 ?_
  refine OJ.go 1 [(2, .int .i64 0)] ?_
  refine OJ.nil ?_
  refine SJ.sr 1 ?_
  refine OJ.go 1 [(3, .int .i64 0)] ?_
  refine OJ.nil ?_
  refine SJ.seq ?_
  refine SJ.sr 5 ?_
  refine OJ.go 1 [(6, .pointer a0)] ?_
  refine OJ.nilck (d := 7) (y := .tmp 6) (fun p1 => ?_)
  refine OJ.go 1 [(8, .pointer (some (Addr.add p1 5)))] ?_
  refine OJ.ld (d := 9) (y := .tmp 8) (pend2 := fun x2 => []) Ty101 (fun _ => rfl) (fun x2 => ?_)
  refine OJ.mrange (d := 10) (T := 101) (kT := 99) (vT := 100) (x := .tmp 9) (owed := []) (fun b3 => ?_)
  refine OW.nil ?_
  refine OJ.nil ?_
  refine SJ.block (id := 0) ?_
  exact SJ.loop (fun s_ : Int => [(3, .int .i64 s_), (10, .pointer (some (pt b3 0)))]) (fun s_ : Int => []) [3, 10] rfl (fun _ _ => rfl) (fun s_ => neigh_Cache_Waiting.L1_ok b3 s_)
end Go.Proofs.Ytlkhijflgbobjaa.Lx
