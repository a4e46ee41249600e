/- Programs of the M-world for Go functions, each with the proof that the Go text does what it says. Printed by lxgen.py. -/
import Derived.Test.YtlkhijflgbobjaaLxT
import Derived.Test.YtlkhijflgbobjaaLxP0
import Derived.Test.YtlkhijflgbobjaaLxP1
import Derived.Test.YtlkhijflgbobjaaLxP2
set_option linter.unusedVariables false
set_option linter.unusedSimpArgs false
namespace Go.Proofs.Ytlkhijflgbobjaa.Lx
open Go Go.Proofs
/-! ### weir/weirlaw15.NeighStays: function 12 -/
noncomputable def weirlaw15_NeighStays.B : Code := (Try.f12.body).getD .skip
noncomputable def weirlaw15_NeighStays.cx : Fx := ⟨Try.prog, 12, Try.f12⟩
noncomputable def weirlaw15_NeighStays.out (r_ : Bool) : Value := .bool r_
noncomputable def weirlaw15_NeighStays.F0 (r_ : Bool) : Reach := .ret (weirlaw15_NeighStays.out r_)
noncomputable def weirlaw15_NeighStays.F1 (a1 : Sl) (r2 : ((Option Addr) × api_NeighConfig)) : (LS Int Bool) → Reach := loopF [.inLoop (c1 (c1 (c2 (c1 (c2 (c2 (c2 weirlaw15_NeighStays.B))))))), .inBlock 0, .code (c2 (c2 (c2 (c2 weirlaw15_NeighStays.B))))] (fun s_ : Int => [(1, Sl.v a1), (5, .pointer r2.1), (7, .int .i64 s_)]) (fun s_ : Int => []) weirlaw15_NeighStays.F0
noncomputable def weirlaw15_NeighStays.K1 (r2 : ((Option Addr) × api_NeighConfig)) (s6 : Int) (r82 : Sl) (r83 : Int) (j113 : Int) : M (LS Int Bool) :=
  (if j113 ≠ 0 then
      neigh_Cache_All r2.1 >>= fun r114 =>
      weirlaw15_sameAll r114 r82 >>= fun r115 =>
      (if ¬ (r115 = true) then
          pure true
        else
          neigh_Cache_Waiting r2.1 >>= fun r116 =>
          pure (r116 != r83)) >>= fun y117 =>
      pure y117
    else
      pure false) >>= fun y118 =>
  if y118 = true then
    pure (LS.done false)
  else
    pure (LS.next (IntKind.wrap .i64 (s6 + 1)))
theorem weirlaw15_NeighStays.K1_ok (a1 : Sl) (r2 : ((Option Addr) × api_NeighConfig)) (s6 : Int) (r82 : Sl) (r83 : Int) (j113 : Int) :
    SJ weirlaw15_NeighStays.cx [.inBlock 2, .code (c2 (c2 (c2 (c2 (c2 (c1 (c1 (c2 (c1 (c1 (c2 (c1 (c2 (c2 (c2 weirlaw15_NeighStays.B))))))))))))))), .inBlock 1, .code (c2 (c2 (c1 (c1 (c2 (c1 (c2 (c2 (c2 weirlaw15_NeighStays.B))))))))), .inLoop (c1 (c1 (c2 (c1 (c2 (c2 (c2 weirlaw15_NeighStays.B))))))), .inBlock 0, .code (c2 (c2 (c2 (c2 weirlaw15_NeighStays.B))))] [(1, Sl.v a1), (5, .pointer r2.1), (7, .int .i64 s6), (9, Sl.v r82), (10, .int .i64 r83), (11, .int .i64 j113)] [] (weirlaw15_NeighStays.K1 r2 s6 r82 r83 j113) (weirlaw15_NeighStays.F1 a1 r2) := by
  unfold weirlaw15_NeighStays.K1
  refine SJ.inBlock ?_
  refine SJ.sr 15 ?_
  refine OJ.go 3 [(92, .bool (j113 != 0)), (91, .bool (j113 != 0)), (90, .int .i64 j113)] ?_
  refine OJ.join (b := (j113 != 0)) [3, 4, 5, 6, 7, 8, 9, 10, 11, 12, 13, 14] [] [1, 5, 7, 104] (fun y118 => [(1, Sl.v a1), (5, .pointer r2.1), (7, .int .i64 s6), (104, .bool y118)]) [] [] (t := 92) bne_iff_ne (fun hp_ => ?_) (fun hp_ => ?_) (fun _ _ _ _ _ _ h_ => h_) (fun y118 => ?_)
  · refine OJ.go 1 [(93, .pointer r2.1)] ?_
    refine OJ.call (d := 94) (g := 27) (ats := #[25]) (args := [.tmp 93]) (owed := []) F27 (neigh_Cache_All_ok r2.1) (fun r114 => ?_)
    refine OW.nil ?_
    refine OJ.go 1 [(95, Sl.v r82)] ?_
    refine OJ.call (d := 96) (g := 28) (ats := #[68, 68]) (args := [.tmp 94, .tmp 95]) (owed := []) F28 (weirlaw15_sameAll_ok r114 r82) (fun r115 => ?_)
    refine OW.nil ?_
    refine OJ.go 2 [(98, .bool (!r115)), (97, .bool (!r115))] ?_
    refine OJ.join (b := (!r115)) [9, 10, 11, 12, 13] [14] [1, 5, 7, 92, 103] (fun y117 => [(1, Sl.v a1), (5, .pointer r2.1), (7, .int .i64 s6), (92, .bool true), (103, .bool y117)]) [] [] (t := 98) (bnot_iff Iff.rfl) (fun hp_ => ?_) (fun hp_ => ?_) (fun _ _ _ _ _ hq_ h_ => ⟨fun e_ he_ => (hq_ e_ he_).elim (fun h => h_.1 e_ h) (fun h => nomatch h), h_.2⟩) (fun y117 => ?_)
    · refine OJ.go 5 [(103, .bool true), (102, undef), (101, undef), (100, undef), (99, undef)] ?_
      exact OJ.nil ⟨(Cov.mem Cov.nil), rfl, _, rfl, by kernel_rfl⟩
    · refine OJ.go 1 [(99, .pointer r2.1)] ?_
      refine OJ.call (d := 100) (g := 35) (ats := #[25]) (args := [.tmp 99]) (owed := []) F35 (neigh_Cache_Waiting_ok r2.1) (fun r116 => ?_)
      refine OW.nil ?_
      refine OJ.go 3 [(103, .bool (r116 != r83)), (102, .bool (r116 != r83)), (101, .int .i64 r83)] ?_
      exact OJ.nil ⟨(Cov.mem Cov.nil), rfl, _, rfl, by kernel_rfl⟩
    · refine OJ.go 1 [(104, .bool y117)] ?_
      exact OJ.nil ⟨(Cov.mem Cov.nil), rfl, _, rfl, by kernel_rfl⟩
  · refine OJ.go 12 [(104, .bool false), (103, undef), (102, undef), (101, undef), (100, undef), (99, undef), (98, undef), (97, undef), (96, undef), (95, undef), (94, undef), (93, undef)] ?_
    exact OJ.nil ⟨(Cov.mem Cov.nil), rfl, _, rfl, by kernel_rfl⟩
  · refine OJ.nil ?_
    refine SJ.cond (t := (.tmp 104)) (b := y118) Iff.rfl (fun hc119 => ?_) (fun hc119 => ?_)
    · refine SJ.sr 1 ?_
      refine OJ.go 1 [(4, .bool false)] ?_
      refine OJ.nil ?_
      exact SJ.ret rfl (Res.run (ys := [.bool false]) (.tmp (by kernel_rfl) .nil) rfl)
    · refine SJ.skip ?_
      refine SJ.inBlock ?_
      refine SJ.rg 3 ?_
      refine OJ.go 3 [(7, .int .i64 (IntKind.wrap .i64 (s6 + 1))), (34, .int .i64 (IntKind.wrap .i64 (s6 + 1))), (33, .int .i64 s6)] ?_
      refine OJ.nil ?_
      exact SJ.at_ [1, 5, 7] rfl
noncomputable def weirlaw15_NeighStays.K2 (r2 : ((Option Addr) × api_NeighConfig)) (s6 : Int) (r82 : Sl) (r83 : Int) (j135 : Int) : M (LS Int Bool) :=
  weirlaw15_NeighStays.K1 r2 s6 r82 r83 j135
theorem weirlaw15_NeighStays.K2_ok (a1 : Sl) (r2 : ((Option Addr) × api_NeighConfig)) (s6 : Int) (r82 : Sl) (r83 : Int) (j135 : Int) :
    SJ weirlaw15_NeighStays.cx [.inBlock 2, .code (c2 (c2 (c2 (c2 (c2 (c1 (c1 (c2 (c1 (c1 (c2 (c1 (c2 (c2 (c2 weirlaw15_NeighStays.B))))))))))))))), .inBlock 1, .code (c2 (c2 (c1 (c1 (c2 (c1 (c2 (c2 (c2 weirlaw15_NeighStays.B))))))))), .inLoop (c1 (c1 (c2 (c1 (c2 (c2 (c2 weirlaw15_NeighStays.B))))))), .inBlock 0, .code (c2 (c2 (c2 (c2 weirlaw15_NeighStays.B))))] [(1, Sl.v a1), (5, .pointer r2.1), (7, .int .i64 s6), (9, Sl.v r82), (10, .int .i64 r83), (11, .int .i64 j135)] [] (weirlaw15_NeighStays.K2 r2 s6 r82 r83 j135) (weirlaw15_NeighStays.F1 a1 r2) := by
  unfold weirlaw15_NeighStays.K2
  refine SJ.less [1, 5, 7, 9, 10, 11] (m' := [(1, Sl.v a1), (5, .pointer r2.1), (7, .int .i64 s6), (9, Sl.v r82), (10, .int .i64 r83), (11, .int .i64 j135)]) ?_
  exact weirlaw15_NeighStays.K1_ok a1 r2 s6 r82 r83 j135
noncomputable def weirlaw15_NeighStays.K3 (r2 : ((Option Addr) × api_NeighConfig)) (s6 : Int) (r82 : Sl) (r83 : Int) (j142 : Int) : M (LS Int Bool) :=
  weirlaw15_NeighStays.K2 r2 s6 r82 r83 j142
theorem weirlaw15_NeighStays.K3_ok (a1 : Sl) (r2 : ((Option Addr) × api_NeighConfig)) (s6 : Int) (r82 : Sl) (r83 : Int) (j142 : Int) :
    SJ weirlaw15_NeighStays.cx [.inBlock 2, .code (c2 (c2 (c2 (c2 (c2 (c1 (c1 (c2 (c1 (c1 (c2 (c1 (c2 (c2 (c2 weirlaw15_NeighStays.B))))))))))))))), .inBlock 1, .code (c2 (c2 (c1 (c1 (c2 (c1 (c2 (c2 (c2 weirlaw15_NeighStays.B))))))))), .inLoop (c1 (c1 (c2 (c1 (c2 (c2 (c2 weirlaw15_NeighStays.B))))))), .inBlock 0, .code (c2 (c2 (c2 (c2 weirlaw15_NeighStays.B))))] [(1, Sl.v a1), (5, .pointer r2.1), (7, .int .i64 s6), (9, Sl.v r82), (10, .int .i64 r83), (11, .int .i64 j142)] [] (weirlaw15_NeighStays.K3 r2 s6 r82 r83 j142) (weirlaw15_NeighStays.F1 a1 r2) := by
  unfold weirlaw15_NeighStays.K3
  refine SJ.less [1, 5, 7, 9, 10, 11] (m' := [(1, Sl.v a1), (5, .pointer r2.1), (7, .int .i64 s6), (9, Sl.v r82), (10, .int .i64 r83), (11, .int .i64 j142)]) ?_
  exact weirlaw15_NeighStays.K2_ok a1 r2 s6 r82 r83 j142
noncomputable def weirlaw15_NeighStays.K4 (r2 : ((Option Addr) × api_NeighConfig)) (s6 : Int) (r82 : Sl) (r83 : Int) : M (LS Int Bool) :=
  weirlaw15_NeighStays.K3 r2 s6 r82 r83 1
theorem weirlaw15_NeighStays.K4_ok (a1 : Sl) (r2 : ((Option Addr) × api_NeighConfig)) (s6 : Int) (r82 : Sl) (r83 : Int) :
    SJ weirlaw15_NeighStays.cx [.inBlock 2, .code (c2 (c2 (c2 (c2 (c2 (c1 (c1 (c2 (c1 (c1 (c2 (c1 (c2 (c2 (c2 weirlaw15_NeighStays.B))))))))))))))), .inBlock 1, .code (c2 (c2 (c1 (c1 (c2 (c1 (c2 (c2 (c2 weirlaw15_NeighStays.B))))))))), .inLoop (c1 (c1 (c2 (c1 (c2 (c2 (c2 weirlaw15_NeighStays.B))))))), .inBlock 0, .code (c2 (c2 (c2 (c2 weirlaw15_NeighStays.B))))] [(1, Sl.v a1), (5, .pointer r2.1), (7, .int .i64 s6), (9, Sl.v r82), (10, .int .i64 r83), (11, .int .i64 1)] [] (weirlaw15_NeighStays.K4 r2 s6 r82 r83) (weirlaw15_NeighStays.F1 a1 r2) := by
  unfold weirlaw15_NeighStays.K4
  refine SJ.less [1, 5, 7, 9, 10, 11] (m' := [(1, Sl.v a1), (5, .pointer r2.1), (7, .int .i64 s6), (9, Sl.v r82), (10, .int .i64 r83), (11, .int .i64 1)]) ?_
  exact weirlaw15_NeighStays.K3_ok a1 r2 s6 r82 r83 1
noncomputable def weirlaw15_NeighStays.L1 (a1 : Sl) (r2 : ((Option Addr) × api_NeighConfig)) (s6 : Int) : M (LS Int Bool) :=
  if s6 < (a1.len : Int) then
    idx a1.a a1.len s6 27 >>= fun p79 =>
    ld c_weirlaw15_Op p79 >>= fun x80 =>
    slot 36 >>= fun b81 =>
    neigh_Cache_All r2.1 >>= fun r82 =>
    neigh_Cache_Waiting r2.1 >>= fun r83 =>
    if x80.Kind = 1 then
      neigh_Cache_Want r2.1 x80.Port x80.IP x80.N >>= fun r120 =>
      slot 34 >>= fun b121 =>
      weirlaw15_num r120.2.2 >>= fun r122 =>
      weirlaw15_NeighStays.K1 r2 s6 r82 r83 r122
    else
      if x80.Kind = 2 then
        neigh_Cache_Learn r2.1 x80.Port x80.IP x80.Mac x80.N >>= fun r136 =>
        weirlaw15_num r136.2 >>= fun r137 =>
        weirlaw15_NeighStays.K2 r2 s6 r82 r83 r137
      else
        if x80.Kind = 3 then
          neigh_Cache_Tick r2.1 >>= fun r143 =>
          weirlaw15_NeighStays.K3 r2 s6 r82 r83 0
        else
          if x80.Kind = 4 then
            neigh_Cache_Get r2.1 x80.Port x80.IP >>= fun r145 =>
            weirlaw15_NeighStays.K4 r2 s6 r82 r83
          else
            weirlaw15_NeighStays.K4 r2 s6 r82 r83
  else
    pure (LS.done true)
theorem weirlaw15_NeighStays.L1_ok (a1 : Sl) (r2 : ((Option Addr) × api_NeighConfig)) (s6 : Int) :
    SJ weirlaw15_NeighStays.cx [.code (c1 (c1 (c2 (c1 (c2 (c2 (c2 weirlaw15_NeighStays.B))))))), .inLoop (c1 (c1 (c2 (c1 (c2 (c2 (c2 weirlaw15_NeighStays.B))))))), .inBlock 0, .code (c2 (c2 (c2 (c2 weirlaw15_NeighStays.B))))] [(1, Sl.v a1), (5, .pointer r2.1), (7, .int .i64 s6)] [] (weirlaw15_NeighStays.L1 a1 r2 s6) (weirlaw15_NeighStays.F1 a1 r2) := by
  unfold weirlaw15_NeighStays.L1
  refine SJ.seq ?_
  refine SJ.sr 4 ?_
  refine OJ.go 4 [(32, .bool (decide (s6 < (a1.len : Int)))), (31, .int .i64 (a1.len : Int)), (30, Sl.v a1), (29, .int .i64 s6)] ?_
  refine OJ.nil ?_
  refine SJ.cond (t := (.tmp 32)) (b := decide (s6 < (a1.len : Int))) decide_eq_true_iff (fun hc150 => ?_) (fun hc150 => ?_)
  · refine SJ.skip ?_
    refine SJ.seq ?_
    refine SJ.block (id := 1) ?_
    refine SJ.sr 6 ?_
    refine OJ.go 2 [(36, .int .i64 s6), (35, Sl.v a1)] ?_
    refine OJ.idxS (d := 37) (T := 24) (y := .tmp 35) (j := .tmp 36) (E := 36) (cap := a1.cap) (k := .i64) (fun p79 => ?_)
    refine OJ.ld (d := 38) (y := .tmp 37) (pend2 := fun x80 => []) Ty36 (fun _ => rfl) (fun x80 => ?_)
    refine OJ.slotOf (d := 8) (op := (.alloc 36)) (cd := c_weirlaw15_Op) (u := z_weirlaw15_Op) (owed := []) (alloc_run Ty36) (fun b81 => ?_)
    refine OW.nil ?_
    refine OJ.kst (y := .tmp 8) (z := .tmp 38) (cd := c_weirlaw15_Op) (u := x80) (j := 0) (b := b81) (o := 0) (c_weirlaw15_Op.enc x80) (owed := []) Ty36 rfl (Upd.whole ((Cod.len _ _).trans (Cod.len _ _).symm)) rfl ?_
    refine OW.nil ?_
    refine OJ.nil ?_
    refine SJ.sr 3 ?_
    refine OJ.go 1 [(39, .pointer r2.1)] ?_
    refine OJ.call (d := 40) (g := 27) (ats := #[25]) (args := [.tmp 39]) (owed := []) F27 (neigh_Cache_All_ok r2.1) (fun r82 => ?_)
    refine OW.nil ?_
    refine OJ.go 1 [(9, Sl.v r82)] ?_
    refine OJ.nil ?_
    refine SJ.sr 3 ?_
    refine OJ.go 1 [(41, .pointer r2.1)] ?_
    refine OJ.call (d := 42) (g := 35) (ats := #[25]) (args := [.tmp 41]) (owed := []) F35 (neigh_Cache_Waiting_ok r2.1) (fun r83 => ?_)
    refine OW.nil ?_
    refine OJ.go 1 [(10, .int .i64 r83)] ?_
    refine OJ.nil ?_
    refine SJ.sr 1 ?_
    refine OJ.go 1 [(11, .int .i64 1)] ?_
    refine OJ.nil ?_
    refine SJ.seq ?_
    refine SJ.sr 2 ?_
    refine OJ.go 1 [(43, .pointer (some (pt b81 0)))] ?_
    refine OJ.kld (d := 44) (y := .tmp 43) (cd := (cI .i64)) (j := 0) (b := b81) (o := 0) x80.Kind (pend2 := []) Ty3 rfl (At_weirlaw15_Op_Kind x80) rfl ?_
    refine OJ.nil ?_
    refine SJ.block (id := 2) ?_
    refine SJ.sr 2 ?_
    refine OJ.go 2 [(45, .bool (x80.Kind == 1)), (46, .bool (x80.Kind == 1))] ?_
    refine OJ.nil ?_
    refine SJ.cond (t := (.tmp 45)) (b := (x80.Kind == 1)) beq_iff_eq (fun hc149 => ?_) (fun hc149 => ?_)
    · refine SJ.sr 16 ?_
      refine OJ.go 2 [(49, .pointer (some (pt b81 2))), (48, .pointer r2.1)] ?_
      refine OJ.kld (d := 50) (y := .tmp 49) (cd := (cI .i64)) (j := 0) (b := b81) (o := 2) x80.Port (pend2 := []) Ty3 rfl (At_weirlaw15_Op_Port x80) rfl ?_
      refine OJ.go 1 [(51, .pointer (some (pt b81 3)))] ?_
      refine OJ.kld (d := 52) (y := .tmp 51) (cd := c_api_IP) (j := 0) (b := b81) (o := 3) x80.IP (pend2 := []) Ty32 rfl (At_weirlaw15_Op_IP x80) rfl ?_
      refine OJ.go 1 [(53, .pointer (some (pt b81 26)))] ?_
      refine OJ.kld (d := 54) (y := .tmp 53) (cd := (cI .i64)) (j := 0) (b := b81) (o := 26) x80.N (pend2 := []) Ty3 rfl (At_weirlaw15_Op_N x80) rfl ?_
      refine OJ.call (d := 55) (g := 15) (ats := #[25, 3, 32, 3]) (args := [.tmp 48, .tmp 50, .tmp 52, .tmp 54]) (owed := []) F15 (neigh_Cache_Want_ok r2.1 x80.Port x80.IP x80.N) (fun r120 => ?_)
      refine OW.nil ?_
      refine OJ.go 4 [(58, .int .i64 r120.2.2), (57, .int .i64 r120.2.1), (56, ((cI .u8).arr 6).val r120.1), (47, .tuple #[((cI .u8).arr 6).val r120.1, .int .i64 r120.2.1, .int .i64 r120.2.2])] ?_
      refine OJ.slotOf (d := 12) (op := (.alloc 34)) (cd := ((cI .u8).arr 6)) (u := (Vec.rep 6 0)) (owed := []) (alloc_run Ty34) (fun b121 => ?_)
      refine OW.nil ?_
      refine OJ.kst (y := .tmp 12) (z := .tmp 56) (cd := ((cI .u8).arr 6)) (u := r120.1) (j := 0) (b := b121) (o := 0) (((cI .u8).arr 6).enc r120.1) (owed := []) Ty34 rfl (Upd.whole ((Cod.len _ _).trans (Cod.len _ _).symm)) rfl ?_
      refine OW.nil ?_
      refine OJ.go 2 [(14, .int .i64 r120.2.2), (13, .int .i64 r120.2.1)] ?_
      refine OJ.nil ?_
      refine SJ.rg 3 ?_
      refine OJ.go 1 [(59, .int .i64 r120.2.2)] ?_
      refine OJ.call (d := 60) (g := 16) (ats := #[37]) (args := [.tmp 59]) (owed := []) F16 (weirlaw15_num_ok r120.2.2) (fun r122 => ?_)
      refine OW.nil ?_
      refine OJ.go 1 [(11, .int .i64 r122)] ?_
      refine OJ.nil ?_
      refine SJ.forget (List.Sublist.cons _ (List.Sublist.cons _ List.Sublist.slnil)) ?_
      refine SJ.less [1, 5, 7, 9, 10, 11] (m' := [(1, Sl.v a1), (5, .pointer r2.1), (7, .int .i64 s6), (9, Sl.v r82), (10, .int .i64 r83), (11, .int .i64 r122)]) ?_
      exact weirlaw15_NeighStays.K1_ok a1 r2 s6 r82 r83 r122
    · refine SJ.sr 2 ?_
      refine OJ.go 2 [(61, .bool (x80.Kind == 2)), (62, .bool (x80.Kind == 2))] ?_
      refine OJ.nil ?_
      refine SJ.cond (t := (.tmp 61)) (b := (x80.Kind == 2)) beq_iff_eq (fun hc148 => ?_) (fun hc148 => ?_)
      · refine SJ.sr 15 ?_
        refine OJ.go 2 [(65, .pointer (some (pt b81 2))), (64, .pointer r2.1)] ?_
        refine OJ.kld (d := 66) (y := .tmp 65) (cd := (cI .i64)) (j := 0) (b := b81) (o := 2) x80.Port (pend2 := []) Ty3 rfl (At_weirlaw15_Op_Port x80) rfl ?_
        refine OJ.go 1 [(67, .pointer (some (pt b81 3)))] ?_
        refine OJ.kld (d := 68) (y := .tmp 67) (cd := c_api_IP) (j := 0) (b := b81) (o := 3) x80.IP (pend2 := []) Ty32 rfl (At_weirlaw15_Op_IP x80) rfl ?_
        refine OJ.go 1 [(69, .pointer (some (pt b81 20)))] ?_
        refine OJ.kld (d := 70) (y := .tmp 69) (cd := ((cI .u8).arr 6)) (j := 0) (b := b81) (o := 20) x80.Mac (pend2 := []) Ty34 rfl (At_weirlaw15_Op_Mac x80) rfl ?_
        refine OJ.go 1 [(71, .pointer (some (pt b81 26)))] ?_
        refine OJ.kld (d := 72) (y := .tmp 71) (cd := (cI .i64)) (j := 0) (b := b81) (o := 26) x80.N (pend2 := []) Ty3 rfl (At_weirlaw15_Op_N x80) rfl ?_
        refine OJ.call (d := 73) (g := 18) (ats := #[25, 3, 32, 34, 3]) (args := [.tmp 64, .tmp 66, .tmp 68, .tmp 70, .tmp 72]) (owed := []) F18 (neigh_Cache_Learn_ok r2.1 x80.Port x80.IP x80.Mac x80.N) (fun r136 => ?_)
        refine OW.nil ?_
        refine OJ.go 5 [(16, .int .i64 r136.2), (15, Sl.v r136.1), (75, .int .i64 r136.2), (74, Sl.v r136.1), (63, .tuple #[Sl.v r136.1, .int .i64 r136.2])] ?_
        refine OJ.nil ?_
        refine SJ.rg 3 ?_
        refine OJ.go 1 [(76, .int .i64 r136.2)] ?_
        refine OJ.call (d := 77) (g := 16) (ats := #[37]) (args := [.tmp 76]) (owed := []) F16 (weirlaw15_num_ok r136.2) (fun r137 => ?_)
        refine OW.nil ?_
        refine OJ.go 1 [(11, .int .i64 r137)] ?_
        refine OJ.nil ?_
        refine SJ.forget (List.Sublist.cons _ List.Sublist.slnil) ?_
        refine SJ.less [1, 5, 7, 9, 10, 11] (m' := [(1, Sl.v a1), (5, .pointer r2.1), (7, .int .i64 s6), (9, Sl.v r82), (10, .int .i64 r83), (11, .int .i64 r137)]) ?_
        exact weirlaw15_NeighStays.K2_ok a1 r2 s6 r82 r83 r137
      · refine SJ.sr 2 ?_
        refine OJ.go 2 [(78, .bool (x80.Kind == 3)), (79, .bool (x80.Kind == 3))] ?_
        refine OJ.nil ?_
        refine SJ.cond (t := (.tmp 78)) (b := (x80.Kind == 3)) beq_iff_eq (fun hc147 => ?_) (fun hc147 => ?_)
        · refine SJ.sr 2 ?_
          refine OJ.go 1 [(80, .pointer r2.1)] ?_
          refine OJ.call (d := 81) (g := 21) (ats := #[25]) (args := [.tmp 80]) (owed := []) F21 (neigh_Cache_Tick_ok r2.1) (fun r143 => ?_)
          refine OW.nil ?_
          refine OJ.nil ?_
          refine SJ.rg 1 ?_
          refine OJ.go 1 [(11, .int .i64 0)] ?_
          refine OJ.nil ?_
          refine SJ.forget (List.Sublist.cons _ List.Sublist.slnil) ?_
          refine SJ.less [1, 5, 7, 9, 10, 11] (m' := [(1, Sl.v a1), (5, .pointer r2.1), (7, .int .i64 s6), (9, Sl.v r82), (10, .int .i64 r83), (11, .int .i64 0)]) ?_
          exact weirlaw15_NeighStays.K3_ok a1 r2 s6 r82 r83 0
        · refine SJ.sr 2 ?_
          refine OJ.go 2 [(82, .bool (x80.Kind == 4)), (83, .bool (x80.Kind == 4))] ?_
          refine OJ.nil ?_
          refine SJ.cond (t := (.tmp 82)) (b := (x80.Kind == 4)) beq_iff_eq (fun hc146 => ?_) (fun hc146 => ?_)
          · refine SJ.rg 6 ?_
            refine OJ.go 2 [(85, .pointer (some (pt b81 2))), (84, .pointer r2.1)] ?_
            refine OJ.kld (d := 86) (y := .tmp 85) (cd := (cI .i64)) (j := 0) (b := b81) (o := 2) x80.Port (pend2 := []) Ty3 rfl (At_weirlaw15_Op_Port x80) rfl ?_
            refine OJ.go 1 [(87, .pointer (some (pt b81 3)))] ?_
            refine OJ.kld (d := 88) (y := .tmp 87) (cd := c_api_IP) (j := 0) (b := b81) (o := 3) x80.IP (pend2 := []) Ty32 rfl (At_weirlaw15_Op_IP x80) rfl ?_
            refine OJ.call (d := 89) (g := 43) (ats := #[25, 3, 32]) (args := [.tmp 84, .tmp 86, .tmp 88]) (owed := []) F43 (neigh_Cache_Get_ok r2.1 x80.Port x80.IP) (fun r145 => ?_)
            refine OW.nil ?_
            refine OJ.nil ?_
            refine SJ.forget (List.Sublist.cons _ List.Sublist.slnil) ?_
            refine SJ.less [1, 5, 7, 9, 10, 11] (m' := [(1, Sl.v a1), (5, .pointer r2.1), (7, .int .i64 s6), (9, Sl.v r82), (10, .int .i64 r83), (11, .int .i64 1)]) ?_
            exact weirlaw15_NeighStays.K4_ok a1 r2 s6 r82 r83
          · refine SJ.skip ?_
            refine SJ.forget (List.Sublist.cons _ List.Sublist.slnil) ?_
            refine SJ.less [1, 5, 7, 9, 10, 11] (m' := [(1, Sl.v a1), (5, .pointer r2.1), (7, .int .i64 s6), (9, Sl.v r82), (10, .int .i64 r83), (11, .int .i64 1)]) ?_
            exact weirlaw15_NeighStays.K4_ok a1 r2 s6 r82 r83
  · refine SJ.exit (id := 0) (by rfl) ?_
    refine SJ.sr 1 ?_
    refine OJ.go 1 [(4, .bool true)] ?_
    refine OJ.nil ?_
    exact SJ.ret rfl (Res.run (ys := [.bool true]) (.tmp (by kernel_rfl) .nil) rfl)
noncomputable def weirlaw15_NeighStays (a0 : api_NeighConfig) (a1 : Sl) : M Bool :=
  slot 23 >>= fun b1 =>
  weirlaw15_cache a0 >>= fun r2 =>
  slot 23 >>= fun b3 =>
  (if r2.1 = none then
      pure true
    else
      weirlaw15_first r2.1 >>= fun r4 =>
      pure (!r4)) >>= fun y5 =>
  if y5 = true then
    pure false
  else
    loopM (fun s_ : Int => weirlaw15_NeighStays.L1 a1 r2 s_) 0
theorem weirlaw15_NeighStays_ok (a0 : api_NeighConfig) (a1 : Sl) : Ref Try.prog 12 [c_api_NeighConfig.val a0, Sl.v a1] (weirlaw15_NeighStays a0 a1) weirlaw15_NeighStays.out := by
  refine Ref.of (cd := weirlaw15_NeighStays.B) Try.func12 ?_
  show SJ weirlaw15_NeighStays.cx [.code weirlaw15_NeighStays.B] [(0, c_api_NeighConfig.val a0), (1, Sl.v a1)] [] (weirlaw15_NeighStays a0 a1) weirlaw15_NeighStays.F0
  unfold weirlaw15_NeighStays
  refine SJ.sr 2 ?_
  refine OJ.slotOf (d := 2) (op := (.box 23 (.tmp 0))) (cd := c_api_NeighConfig) (u := a0) (owed := []) (box_run (by kernel_rfl)) (fun b1 => ?_)
  refine OW.nil ?_
  refine OJ.go 1 [(4, .bool false)] ?_
  refine OJ.nil ?_
  refine SJ.sr 8 ?_
  refine OJ.kld (d := 18) (y := .tmp 2) (cd := c_api_NeighConfig) (j := 0) (b := b1) (o := 0) a0 (pend2 := []) Ty23 rfl (At.whole _) rfl ?_
  refine OJ.call (d := 19) (g := 13) (ats := #[23]) (args := [.tmp 18]) (owed := []) F13 (weirlaw15_cache_ok a0) (fun r2 => ?_)
  refine OW.nil ?_
  refine OJ.go 3 [(21, c_api_NeighConfig.val r2.2), (20, .pointer r2.1), (17, .tuple #[.pointer r2.1, c_api_NeighConfig.val r2.2])] ?_
  refine OJ.slotOf (d := 6) (op := (.alloc 23)) (cd := c_api_NeighConfig) (u := z_api_NeighConfig) (owed := []) (alloc_run Ty23) (fun b3 => ?_)
  refine OW.nil ?_
  refine OJ.go 1 [(5, .pointer r2.1)] ?_
  refine OJ.kst (y := .tmp 6) (z := .tmp 21) (cd := c_api_NeighConfig) (u := r2.2) (j := 0) (b := b3) (o := 0) (c_api_NeighConfig.enc r2.2) (owed := []) Ty23 rfl (Upd.whole ((Cod.len _ _).trans (Cod.len _ _).symm)) rfl ?_
  refine OW.nil ?_
  refine OJ.nil ?_
  refine SJ.seq ?_
  refine SJ.sr 7 ?_
  refine OJ.go 3 [(24, .bool (Option.isNone r2.1)), (23, .bool (Option.isNone r2.1)), (22, .pointer r2.1)] ?_
  refine OJ.join (b := (Option.isNone r2.1)) [3, 4, 5, 6] [] [1, 5, 28] (fun y5 => [(1, Sl.v a1), (5, .pointer r2.1), (28, .bool y5)]) [] [] (t := 24) Option.isNone_iff_eq_none (fun hp_ => ?_) (fun hp_ => ?_) (fun _ _ _ _ _ _ h_ => h_) (fun y5 => ?_)
  · refine OJ.go 4 [(28, .bool true), (27, undef), (26, undef), (25, undef)] ?_
    exact OJ.nil ⟨(Cov.mem Cov.nil), rfl, _, rfl, by kernel_rfl⟩
  · refine OJ.go 1 [(25, .pointer r2.1)] ?_
    refine OJ.call (d := 26) (g := 14) (ats := #[25]) (args := [.tmp 25]) (owed := []) F14 (weirlaw15_first_ok r2.1) (fun r4 => ?_)
    refine OW.nil ?_
    refine OJ.go 2 [(28, .bool (!r4)), (27, .bool (!r4))] ?_
    exact OJ.nil ⟨(Cov.mem Cov.nil), rfl, _, rfl, by kernel_rfl⟩
  · refine OJ.nil ?_
    refine SJ.cond (t := (.tmp 28)) (b := y5) Iff.rfl (fun hc151 => ?_) (fun hc151 => ?_)
    · refine SJ.sr 1 ?_
      refine OJ.go 1 [(4, .bool false)] ?_
      refine OJ.nil ?_
      exact SJ.ret rfl (Res.run (ys := [.bool false]) (.tmp (by kernel_rfl) .nil) rfl)
    · refine SJ.skip ?_
      refine SJ.seq ?_
      refine SJ.sr 1 ?_
      refine OJ.go 1 [(7, .int .i64 0)] ?_
      refine OJ.nil ?_
      refine SJ.block (id := 0) ?_
      refine SJ.forget (List.Sublist.cons _ (List.Sublist.cons _ List.Sublist.slnil)) ?_
      exact SJ.loop (fun s_ : Int => [(1, Sl.v a1), (5, .pointer r2.1), (7, .int .i64 s_)]) (fun s_ : Int => []) [1, 5, 7] rfl (fun _ _ => rfl) (fun s_ => weirlaw15_NeighStays.L1_ok a1 r2 s_)
end Go.Proofs.Ytlkhijflgbobjaa.Lx
