/- Programs of the M-world for Go functions, each with the proof that the Go text does what it says. Printed by lxgen.py. -/
import Derived.Test.YtfgcobigollfjaaDoorLxT
import Derived.Test.YtfgcobigollfjaaDoorLxP0
import Derived.Test.YtfgcobigollfjaaDoorLxP1
import Derived.Test.YtfgcobigollfjaaDoorLxP2
set_option linter.unusedVariables false
set_option linter.unusedSimpArgs false
set_option linter.unusedSectionVars false
namespace Go.Proofs.YtfgcobigollfjaaDoor.Lx
open Go Go.Proofs
variable [Loops]
/-! ### weir/weirlaw14.RouteAny: function 8 -/
noncomputable def weirlaw14_RouteAny.B : Code := (Tryd.f8.body).getD .skip
noncomputable def weirlaw14_RouteAny.cx : Fx := ⟨Tryd.prog, 8, Tryd.f8, none⟩
noncomputable def weirlaw14_RouteAny.out (r_ : Bool) : Value := .bool r_
noncomputable def weirlaw14_RouteAny.F0 (r_ : Bool) : Reach := .ret (weirlaw14_RouteAny.out r_)
noncomputable def weirlaw14_RouteAny.rx (l_ : Nat) : Fx := ⟨Tryd.prog, 8, Tryd.f8, some l_⟩
noncomputable def weirlaw14_RouteAny.it (f_ : Any) (y_ : api_Route → M Bool) : M Unit :=
  (caught f_.v).elim fail (fun q_ => if q_.1 = 42 then route_Table_All_1 y_ q_.2 else if q_.1 = 59 then maps_Values_map_api_Prefix_api_Route_api_Prefix_api_Route_1 y_ q_.2 else fail)
theorem weirlaw14_RouteAny.it_ok (f_ yv_ : Any) (y_ : api_Route → M Bool) (hy_ : ∀ x_, RefV Tryd.prog yv_.v [c_api_Route.val x_] (y_ x_) Value.bool) : RefI Tryd.prog f_.v [yv_.v] (weirlaw14_RouteAny.it f_ y_) (fun _ => .tuple #[]) := by
  intro v r v' e
  unfold weirlaw14_RouteAny.it at e
  cases hf_ : caught f_.v with
  | none => rw [hf_] at e; cases e
  | some q_ =>
    obtain ⟨g_, p0⟩ := q_
    rw [hf_] at e
    simp only [Option.elim] at e
    by_cases hg_ : g_ = 42
    · subst hg_
      rw [if_pos rfl] at e
      have h_ := RefI.of (first := []) (vals := [yv_.v]) (cap := [.pointer (some p0)]) F42 (route_Table_All_1_ok yv_ y_ hy_ p0) v r v' e
      rw [caught_eq hf_]
      exact h_
    rw [if_neg hg_] at e
    by_cases hg_ : g_ = 59
    · subst hg_
      rw [if_pos rfl] at e
      have h_ := RefI.of (first := []) (vals := [yv_.v]) (cap := [.pointer (some p0)]) F59 (maps_Values_map_api_Prefix_api_Route_api_Prefix_api_Route_1_ok yv_ y_ hy_ p0) v r v' e
      rw [caught_eq hf_]
      exact h_
    rw [if_neg hg_] at e
    cases e
noncomputable def weirlaw14_RouteAny.R1 (b56 : Nat) (l59 : Nat) (x60 : api_Route) : M (Option Code) :=
  slot 32 >>= fun b65 =>
  begM l59 >>= fun _ =>
  ld cL (pt b56 0) >>= fun x66 =>
  slot 32 >>= fun b67 =>
  appl c_api_Route 32 64 z_api_Route x66 [x60] >>= fun r68 =>
  st cL (pt b56 0) r68 >>= fun _ =>
  pure none
theorem weirlaw14_RouteAny.R1_ok (r2 : ((Option Addr) × Sl)) (r3 : (Option Addr)) (s25 : Bool) (b56 : Nat) (b57 : Nat) (r58 : Any) (l59 : Nat) (rc_ : Loop) (ht_ : Loops.tab l59 = some rc_) (x60 : api_Route) :
    SJ (weirlaw14_RouteAny.rx l59) [.code ((rfOf (c1 (c2 (c1 (c2 (c2 (c2 (c2 (c2 (c2 (c2 (c2 (c2 (c2 (c2 (c2 weirlaw14_RouteAny.B)))))))))))))))).2.2.1), .beginRound, .code ((rfOf (c1 (c2 (c1 (c2 (c2 (c2 (c2 (c2 (c2 (c2 (c2 (c2 (c2 (c2 (c2 weirlaw14_RouteAny.B)))))))))))))))).2.2.2)] [(169, c_api_Route.val x60), (6, .bool s25), (8, Sl.v r2.2), (9, .pointer r3), (17, .pointer (some (pt b56 0))), (18, .pointer (some (pt b57 0))), (168, r58.v)] [] (weirlaw14_RouteAny.R1 b56 l59 x60) rdJ := by
  unfold weirlaw14_RouteAny.R1
  refine SJ.rg 2 ?_
  refine OJ.slotOf (d := 19) (op := (.alloc 32)) (cd := c_api_Route) (u := z_api_Route) (owed := []) (alloc_run Ty32) (fun b65 => ?_)
  refine OW.nil ?_
  refine OJ.kst (y := .tmp 19) (z := .tmp 169) (cd := c_api_Route) (u := x60) (j := 0) (b := b65) (o := 0) (c_api_Route.enc x60) (owed := []) Ty32 rfl (Upd.whole ((Cod.len _ _).trans (Cod.len _ _).symm)) rfl ?_
  refine OW.nil ?_
  refine OJ.nil ?_
  refine SJ.begin rfl ht_ ?_
  refine SJ.block (id := 5) ?_
  refine SJ.rg 5 ?_
  refine OJ.ld (d := 170) (y := .tmp 17) (pend2 := fun x66 => []) Ty39 (fun _ => rfl) (fun x66 => ?_)
  refine OJ.kld (d := 171) (y := .tmp 19) (cd := c_api_Route) (j := 0) (b := b65) (o := 0) x60 (pend2 := []) Ty32 rfl (At.whole _) rfl ?_
  refine OJ.rowSlot (d := 172) (t := 39) (parts := [(0, .tmp 171)]) (ps := [(0, c_api_Route.val x60)]) (cd := c_api_Route) (⟨[x60], rfl⟩ : Vec api_Route 1) (owed := []) Ty32 (Filled.cons (cd := c_api_Route) (q := x60) (o := 0) rfl (Upd.arr (i := 0) (by decide) (by decide)) Filled.nil) (fun b67 => ?_)
  refine OW.nil ?_
  refine OJ.appl (d := 173) (t := 39) (u := 39) (so := .tmp 170) (xo := .tmp 172) (j := 0) (b := b67) (l := (c_api_Route.arr 1).enc (⟨[x60], rfl⟩ : Vec api_Route 1)) (n := 1) (k := 1) [x60] (owed := []) Ty32 (by rfl) (Cod.arr_enc _ _ _) (by rfl) (fun r68 => ?_)
  refine OW.nil ?_
  refine OJ.st (y := .tmp 17) (z := .tmp 173) (owed := []) Ty39 ?_
  refine OW.nil ?_
  refine OJ.nil ?_
  refine SJ.inBlock ?_
  refine SJ.forget (List.Sublist.cons _ (List.Sublist.cons _ List.Sublist.slnil)) ?_
  exact SJ.at_ [] rfl
noncomputable def weirlaw14_RouteAny.R2 (b57 : Nat) (l70 : Nat) (x71 : api_Route) : M (Option Code) :=
  slot 32 >>= fun b76 =>
  begM l70 >>= fun _ =>
  ld cL (pt b57 0) >>= fun x77 =>
  slot 32 >>= fun b78 =>
  appl c_api_Route 32 64 z_api_Route x77 [x71] >>= fun r79 =>
  st cL (pt b57 0) r79 >>= fun _ =>
  pure none
theorem weirlaw14_RouteAny.R2_ok (r2 : ((Option Addr) × Sl)) (s25 : Bool) (b56 : Nat) (b57 : Nat) (r69 : Any) (l70 : Nat) (rc_ : Loop) (ht_ : Loops.tab l70 = some rc_) (x71 : api_Route) :
    SJ (weirlaw14_RouteAny.rx l70) [.code ((rfOf (c1 (c2 (c1 (c2 (c2 (c2 (c2 (c2 (c2 (c2 (c2 (c2 (c2 (c2 (c2 (c2 weirlaw14_RouteAny.B))))))))))))))))).2.2.1), .beginRound, .code ((rfOf (c1 (c2 (c1 (c2 (c2 (c2 (c2 (c2 (c2 (c2 (c2 (c2 (c2 (c2 (c2 (c2 weirlaw14_RouteAny.B))))))))))))))))).2.2.2)] [(176, c_api_Route.val x71), (6, .bool s25), (8, Sl.v r2.2), (17, .pointer (some (pt b56 0))), (18, .pointer (some (pt b57 0))), (175, r69.v)] [] (weirlaw14_RouteAny.R2 b57 l70 x71) rdJ := by
  unfold weirlaw14_RouteAny.R2
  refine SJ.rg 2 ?_
  refine OJ.slotOf (d := 20) (op := (.alloc 32)) (cd := c_api_Route) (u := z_api_Route) (owed := []) (alloc_run Ty32) (fun b76 => ?_)
  refine OW.nil ?_
  refine OJ.kst (y := .tmp 20) (z := .tmp 176) (cd := c_api_Route) (u := x71) (j := 0) (b := b76) (o := 0) (c_api_Route.enc x71) (owed := []) Ty32 rfl (Upd.whole ((Cod.len _ _).trans (Cod.len _ _).symm)) rfl ?_
  refine OW.nil ?_
  refine OJ.nil ?_
  refine SJ.begin rfl ht_ ?_
  refine SJ.block (id := 7) ?_
  refine SJ.rg 5 ?_
  refine OJ.ld (d := 177) (y := .tmp 18) (pend2 := fun x77 => []) Ty39 (fun _ => rfl) (fun x77 => ?_)
  refine OJ.kld (d := 178) (y := .tmp 20) (cd := c_api_Route) (j := 0) (b := b76) (o := 0) x71 (pend2 := []) Ty32 rfl (At.whole _) rfl ?_
  refine OJ.rowSlot (d := 179) (t := 39) (parts := [(0, .tmp 178)]) (ps := [(0, c_api_Route.val x71)]) (cd := c_api_Route) (⟨[x71], rfl⟩ : Vec api_Route 1) (owed := []) Ty32 (Filled.cons (cd := c_api_Route) (q := x71) (o := 0) rfl (Upd.arr (i := 0) (by decide) (by decide)) Filled.nil) (fun b78 => ?_)
  refine OW.nil ?_
  refine OJ.appl (d := 180) (t := 39) (u := 39) (so := .tmp 177) (xo := .tmp 179) (j := 0) (b := b78) (l := (c_api_Route.arr 1).enc (⟨[x71], rfl⟩ : Vec api_Route 1)) (n := 1) (k := 1) [x71] (owed := []) Ty32 (by rfl) (Cod.arr_enc _ _ _) (by rfl) (fun r79 => ?_)
  refine OW.nil ?_
  refine OJ.st (y := .tmp 18) (z := .tmp 180) (owed := []) Ty39 ?_
  refine OW.nil ?_
  refine OJ.nil ?_
  refine SJ.inBlock ?_
  refine SJ.forget (List.Sublist.cons _ (List.Sublist.cons _ List.Sublist.slnil)) ?_
  exact SJ.at_ [] rfl
noncomputable def weirlaw14_RouteAny.K1 (r2 : ((Option Addr) × Sl)) (r3 : (Option Addr)) (j21 : Bool) (j22 : api_Route) : M Bool :=
  (if ¬ (j21 = true) then
      route_Table_Drop r2.1 j22.Prefix >>= fun r51 =>
      pure (!r51)
    else
      pure false) >>= fun y52 =>
  (if y52 = true then
      pure true
    else
      route_Table_Len r2.1 >>= fun r53 =>
      route_Table_Len r3 >>= fun r54 =>
      pure (r53 != r54)) >>= fun y55 =>
  if y55 = true then
    pure false
  else
    newv 39 cL Sl.nil >>= fun b56 =>
    newv 39 cL Sl.nil >>= fun b57 =>
    route_Table_All r2.1 >>= fun r58 =>
    rangeM (weirlaw14_RouteAny.it r58) (fun l_ x_ => weirlaw14_RouteAny.R1 b56 l_ x_) (onJ
      (route_Table_All r3 >>= fun r69 =>
       rangeM (weirlaw14_RouteAny.it r69) (fun l_ x_ => weirlaw14_RouteAny.R2 b57 l_ x_) (onJ
         (ld cL (pt b56 0) >>= fun x80 =>
          ld cL (pt b57 0) >>= fun x81 =>
          weirlaw14_same x80 x81 >>= fun r82 =>
          (if r82 = true then
              ld cL (pt b56 0) >>= fun x83 =>
              pure ((x83.len : Int) == (r2.2.len : Int))
            else
              pure false) >>= fun y84 =>
          pure y84)
         (fail)
         []))
      (fail)
      [])
theorem weirlaw14_RouteAny.K1_ok (b1 : Nat) (r2 : ((Option Addr) × Sl)) (r3 : (Option Addr)) (j21 : Bool) (j22 : api_Route) (s25 : Bool) :
    SJ weirlaw14_RouteAny.cx [.code (c2 (c2 (c2 (c2 (c2 (c2 (c2 (c2 (c2 (c2 weirlaw14_RouteAny.B))))))))))] [(4, .pointer (some (pt b1 0))), (6, .bool s25), (7, .pointer r2.1), (8, Sl.v r2.2), (9, .pointer r3), (11, .bool j21)] [(b1, c_api_Route.enc j22)] (weirlaw14_RouteAny.K1 r2 r3 j21 j22) weirlaw14_RouteAny.F0 := by
  unfold weirlaw14_RouteAny.K1
  refine SJ.seq ?_
  refine SJ.sr 16 ?_
  refine OJ.go 3 [(153, .bool (!j21)), (152, .bool (!j21)), (151, .bool j21)] ?_
  refine OJ.join (b := (!j21)) [3, 4, 5, 6, 7, 8] [9, 10, 11, 12, 13, 14, 15] [6, 7, 8, 9, 159] (fun y52 => [(6, .bool s25), (7, .pointer r2.1), (8, Sl.v r2.2), (9, .pointer r3), (159, .bool y52)]) [] [] (t := 153) (bnot_iff Iff.rfl) (fun hp_ => ?_) (fun hp_ => ?_) (fun _ _ _ _ _ _ h_ => h_) (fun y52 => ?_)
  · refine OJ.go 2 [(155, .pointer (some (pt b1 0))), (154, .pointer r2.1)] ?_
    refine OJ.kld (d := 156) (y := .tmp 155) (cd := c_api_Prefix) (j := 0) (b := b1) (o := 0) j22.Prefix (pend2 := []) Ty30 rfl (At_api_Route_Prefix j22) rfl ?_
    refine OJ.call (d := 157) (g := 13) (ats := #[22, 30]) (args := [.tmp 154, .tmp 156]) (owed := []) F13 (route_Table_Drop_ok r2.1 j22.Prefix) (fun r51 => ?_)
    refine OW.nil ?_
    refine OJ.go 2 [(159, .bool (!r51)), (158, .bool (!r51))] ?_
    exact OJ.nil ⟨(Cov.mem Cov.nil), rfl, _, rfl, by kernel_rfl⟩
  · refine OJ.go 6 [(159, .bool false), (158, undef), (157, undef), (156, undef), (155, undef), (154, undef)] ?_
    exact OJ.nil ⟨(Cov.mem Cov.nil), rfl, _, rfl, by kernel_rfl⟩
  · refine OJ.go 1 [(160, .bool y52)] ?_
    refine OJ.join (b := y52) [10, 11, 12, 13, 14, 15] [] [6, 7, 8, 9, 166] (fun y55 => [(6, .bool s25), (7, .pointer r2.1), (8, Sl.v r2.2), (9, .pointer r3), (166, .bool y55)]) [] [] (t := 160) Iff.rfl (fun hp_ => ?_) (fun hp_ => ?_) (fun _ _ _ _ _ _ h_ => h_) (fun y55 => ?_)
    · refine OJ.go 6 [(166, .bool true), (165, undef), (164, undef), (163, undef), (162, undef), (161, undef)] ?_
      exact OJ.nil ⟨(Cov.mem Cov.nil), rfl, _, rfl, by kernel_rfl⟩
    · refine OJ.go 1 [(161, .pointer r2.1)] ?_
      refine OJ.call (d := 162) (g := 12) (ats := #[22]) (args := [.tmp 161]) (owed := []) F12 (route_Table_Len_ok r2.1) (fun r53 => ?_)
      refine OW.nil ?_
      refine OJ.go 1 [(163, .pointer r3)] ?_
      refine OJ.call (d := 164) (g := 12) (ats := #[22]) (args := [.tmp 163]) (owed := []) F12 (route_Table_Len_ok r3) (fun r54 => ?_)
      refine OW.nil ?_
      refine OJ.go 2 [(166, .bool (r53 != r54)), (165, .bool (r53 != r54))] ?_
      exact OJ.nil ⟨(Cov.mem Cov.nil), rfl, _, rfl, by kernel_rfl⟩
    · refine OJ.nil ?_
      refine SJ.cond (t := (.tmp 166)) (b := y55) Iff.rfl (fun hc85 => ?_) (fun hc85 => ?_)
      · refine SJ.sr 1 ?_
        refine OJ.go 1 [(6, .bool false)] ?_
        refine OJ.nil ?_
        exact SJ.ret rfl (Res.run (ys := [.bool false]) (.tmp (by kernel_rfl) .nil) rfl)
      · refine SJ.skip ?_
        refine SJ.sr 2 ?_
        refine OJ.newOf (d := 17) (op := (.alloc 39)) (cd := cL) (u := Sl.nil) (owed := []) (alloc_run Ty39) (fun b56 => ?_)
        refine OW.nil ?_
        refine OJ.newOf (d := 18) (op := (.alloc 39)) (cd := cL) (u := Sl.nil) (owed := []) (alloc_run Ty39) (fun b57 => ?_)
        refine OW.nil ?_
        refine OJ.nil ?_
        refine SJ.seq ?_
        refine SJ.sr 2 ?_
        refine OJ.go 1 [(167, .pointer r2.1)] ?_
        refine OJ.call (d := 168) (g := 24) (ats := #[22]) (args := [.tmp 167]) (owed := []) F24 (route_Table_All_ok r2.1) (fun r58 => ?_)
        refine OW.nil ?_
        refine OJ.nil ?_
        refine SJ.block (id := 4) ?_
        refine SJ.less [6, 8, 9, 17, 18, 168] (m' := [(6, .bool s25), (8, Sl.v r2.2), (9, .pointer r3), (17, .pointer (some (pt b56 0))), (18, .pointer (some (pt b57 0))), (168, r58.v)]) ?_
        refine SJ.rangeF (fo := .tmp 168) (fv := r58.v) (ps := [169]) (fun x_ => [c_api_Route.val x_]) (fun _ => .tuple #[]) (fun L_ yv_ y_ hy_ => @weirlaw14_RouteAny.it_ok L_ r58 yv_ y_ hy_) (fun L_ l_ rc_ ht_ x_ => @weirlaw14_RouteAny.R1_ok L_ r2 r3 s25 b56 b57 r58 l_ rc_ ht_ x_) (SJ.onJ ?_ ?_ ?_)
        · refine SJ.inBlock ?_
          refine SJ.seq ?_
          refine SJ.sr 2 ?_
          refine OJ.go 1 [(174, .pointer r3)] ?_
          refine OJ.call (d := 175) (g := 24) (ats := #[22]) (args := [.tmp 174]) (owed := []) F24 (route_Table_All_ok r3) (fun r69 => ?_)
          refine OW.nil ?_
          refine OJ.nil ?_
          refine SJ.block (id := 6) ?_
          refine SJ.less [6, 8, 17, 18, 175] (m' := [(6, .bool s25), (8, Sl.v r2.2), (17, .pointer (some (pt b56 0))), (18, .pointer (some (pt b57 0))), (175, r69.v)]) ?_
          refine SJ.rangeF (fo := .tmp 175) (fv := r69.v) (ps := [176]) (fun x_ => [c_api_Route.val x_]) (fun _ => .tuple #[]) (fun L_ yv_ y_ hy_ => @weirlaw14_RouteAny.it_ok L_ r69 yv_ y_ hy_) (fun L_ l_ rc_ ht_ x_ => @weirlaw14_RouteAny.R2_ok L_ r2 s25 b56 b57 r69 l_ rc_ ht_ x_) (SJ.onJ ?_ ?_ ?_)
          · refine SJ.inBlock ?_
            refine SJ.sr 11 ?_
            refine OJ.ld (d := 181) (y := .tmp 17) (pend2 := fun x80 => []) Ty39 (fun _ => rfl) (fun x80 => ?_)
            refine OJ.ld (d := 182) (y := .tmp 18) (pend2 := fun x81 => []) Ty39 (fun _ => rfl) (fun x81 => ?_)
            refine OJ.call (d := 183) (g := 20) (ats := #[39, 39]) (args := [.tmp 181, .tmp 182]) (owed := []) F20 (weirlaw14_same_ok x80 x81) (fun r82 => ?_)
            refine OW.nil ?_
            refine OJ.go 1 [(184, .bool r82)] ?_
            refine OJ.join (b := r82) [4, 5, 6, 7, 8, 9] [10] [6, 190] (fun y84 => [(6, .bool s25), (190, .bool y84)]) [] [] (t := 184) Iff.rfl (fun hp_ => ?_) (fun hp_ => ?_) (fun _ _ _ _ _ _ h_ => h_) (fun y84 => ?_)
            · refine OJ.ld (d := 185) (y := .tmp 17) (pend2 := fun x83 => []) Ty39 (fun _ => rfl) (fun x83 => ?_)
              refine OJ.go 5 [(190, .bool ((x83.len : Int) == (r2.2.len : Int))), (189, .bool ((x83.len : Int) == (r2.2.len : Int))), (188, .int .i64 (r2.2.len : Int)), (187, Sl.v r2.2), (186, .int .i64 (x83.len : Int))] ?_
              exact OJ.nil ⟨(Cov.mem Cov.nil), rfl, _, rfl, by kernel_rfl⟩
            · refine OJ.go 6 [(190, .bool false), (189, undef), (188, undef), (187, undef), (186, undef), (185, undef)] ?_
              exact OJ.nil ⟨(Cov.mem Cov.nil), rfl, _, rfl, by kernel_rfl⟩
            · refine OJ.go 1 [(6, .bool y84)] ?_
              refine OJ.nil ?_
              exact SJ.ret rfl (Res.run (ys := [.bool y84]) (.tmp (by kernel_rfl) .nil) rfl)
          · exact SJ.fail
          · exact SJ.exits0
        · exact SJ.fail
        · exact SJ.exits0
noncomputable def weirlaw14_RouteAny.F1 (b1 : Nat) (r2 : ((Option Addr) × Sl)) (r3 : (Option Addr)) (j21 : Bool) (j22 : api_Route) (r24 : Sl) : (LS (Bool × Int) Bool) → Reach := loopF [.inLoop (c1 (c1 (c2 (c1 (c2 (c2 (c2 (c2 (c2 (c2 (c2 (c2 (c2 weirlaw14_RouteAny.B))))))))))))), .inBlock 2, .code (c2 (c2 (c2 (c2 (c2 (c2 (c2 (c2 (c2 (c2 weirlaw14_RouteAny.B))))))))))] (fun s_ : (Bool × Int) => [(2, Sl.v r24), (4, .pointer (some (pt b1 0))), (6, .bool s_.1), (7, .pointer r2.1), (8, Sl.v r2.2), (9, .pointer r3), (11, .bool j21), (12, .int .i64 s_.2)]) (fun s_ : (Bool × Int) => [(b1, c_api_Route.enc j22)]) weirlaw14_RouteAny.F0
noncomputable def weirlaw14_RouteAny.L1 (r2 : ((Option Addr) × Sl)) (r3 : (Option Addr)) (j21 : Bool) (j22 : api_Route) (r24 : Sl) (s25 : Bool) (s26 : Int) : M (LS (Bool × Int) Bool) :=
  (if s26 < (r24.len : Int) then
      pure (decide (s26 < 60))
    else
      pure false) >>= fun y86 =>
  if y86 = true then
    idx r24.a r24.len s26 17 >>= fun p87 =>
    ld c_api_IP p87 >>= fun x88 =>
    route_Table_Find r2.1 x88 >>= fun r89 =>
    slot 32 >>= fun b90 =>
    idx r24.a r24.len s26 17 >>= fun p91 =>
    ld c_api_IP p91 >>= fun x92 =>
    route_Table_Find r3 x92 >>= fun r93 =>
    slot 32 >>= fun b94 =>
    draw >>= fun _ =>
    (if j21 = true then
        pure true
      else
        idx r24.a r24.len s26 17 >>= fun p95 =>
        ld c_api_IP p95 >>= fun x96 =>
        addr_Contains j22.Prefix x96 >>= fun r97 =>
        pure (!r97)) >>= fun y98 =>
    (if y98 = true then
        (if ¬ (r89.1 = r93.1) then
            pure true
          else
            pure (!(r89.2 == r93.2))) >>= fun y99 =>
        pure y99
      else
        pure false) >>= fun y100 =>
    if y100 = true then
      pure (LS.done false)
    else
      draw >>= fun _ =>
      (if ¬ (j21 = true) then
          idx r24.a r24.len s26 17 >>= fun p101 =>
          ld c_api_IP p101 >>= fun x102 =>
          addr_Contains j22.Prefix x102 >>= fun r103 =>
          pure r103
        else
          pure false) >>= fun y104 =>
      (if y104 = true then
          (if ¬ (r89.2 = true) then
              pure true
            else
              pure (decide (r89.1.Prefix.Len < j22.Prefix.Len))) >>= fun y105 =>
          pure y105
        else
          pure false) >>= fun y106 =>
      if y106 = true then
        pure (LS.done false)
      else
        pure (LS.next (s25, IntKind.wrap .i64 (s26 + 1)))
  else
    (weirlaw14_RouteAny.K1 r2 r3 j21 j22) >>= fun b => pure (LS.done b)
theorem weirlaw14_RouteAny.L1_ok (b1 : Nat) (r2 : ((Option Addr) × Sl)) (r3 : (Option Addr)) (j21 : Bool) (j22 : api_Route) (r24 : Sl) (s25 : Bool) (s26 : Int) :
    SJ weirlaw14_RouteAny.cx [.code (c1 (c1 (c2 (c1 (c2 (c2 (c2 (c2 (c2 (c2 (c2 (c2 (c2 weirlaw14_RouteAny.B))))))))))))), .inLoop (c1 (c1 (c2 (c1 (c2 (c2 (c2 (c2 (c2 (c2 (c2 (c2 (c2 weirlaw14_RouteAny.B))))))))))))), .inBlock 2, .code (c2 (c2 (c2 (c2 (c2 (c2 (c2 (c2 (c2 (c2 weirlaw14_RouteAny.B))))))))))] [(2, Sl.v r24), (4, .pointer (some (pt b1 0))), (6, .bool s25), (7, .pointer r2.1), (8, Sl.v r2.2), (9, .pointer r3), (11, .bool j21), (12, .int .i64 s26)] [(b1, c_api_Route.enc j22)] (weirlaw14_RouteAny.L1 r2 r3 j21 j22 r24 s25 s26) (weirlaw14_RouteAny.F1 b1 r2 r3 j21 j22 r24) := by
  unfold weirlaw14_RouteAny.L1
  refine SJ.seq ?_
  refine SJ.sr 8 ?_
  refine OJ.go 5 [(82, .bool (decide (s26 < (r24.len : Int)))), (81, .bool (decide (s26 < (r24.len : Int)))), (80, .int .i64 (r24.len : Int)), (79, Sl.v r24), (78, .int .i64 s26)] ?_
  refine OJ.join (b := decide (s26 < (r24.len : Int))) [5, 6, 7] [] [2, 4, 6, 7, 8, 9, 11, 12, 85] (fun y86 => [(2, Sl.v r24), (4, .pointer (some (pt b1 0))), (6, .bool s25), (7, .pointer r2.1), (8, Sl.v r2.2), (9, .pointer r3), (11, .bool j21), (12, .int .i64 s26), (85, .bool y86)]) [] [] (t := 82) decide_eq_true_iff (fun hp_ => ?_) (fun hp_ => ?_) (fun _ _ _ _ _ _ h_ => h_) (fun y86 => ?_)
  · refine OJ.go 3 [(85, .bool (decide (s26 < 60))), (84, .bool (decide (s26 < 60))), (83, .int .i64 s26)] ?_
    exact OJ.nil ⟨(Cov.mem Cov.nil), rfl, _, rfl, by kernel_rfl⟩
  · refine OJ.go 3 [(85, .bool false), (84, undef), (83, undef)] ?_
    exact OJ.nil ⟨(Cov.mem Cov.nil), rfl, _, rfl, by kernel_rfl⟩
  · refine OJ.nil ?_
    refine SJ.cond (t := (.tmp 85)) (b := y86) Iff.rfl (fun hc109 => ?_) (fun hc109 => ?_)
    · refine SJ.skip ?_
      refine SJ.seq ?_
      refine SJ.block (id := 3) ?_
      refine SJ.sr 12 ?_
      refine OJ.go 3 [(91, .int .i64 s26), (90, Sl.v r24), (89, .pointer r2.1)] ?_
      refine OJ.idxS (d := 92) (T := 51) (y := .tmp 90) (j := .tmp 91) (E := 28) (cap := r24.cap) (k := .i64) (fun p87 => ?_)
      refine OJ.ld (d := 93) (y := .tmp 92) (pend2 := fun x88 => []) Ty28 (fun _ => rfl) (fun x88 => ?_)
      refine OJ.call (d := 94) (g := 14) (ats := #[22, 28]) (args := [.tmp 89, .tmp 93]) (owed := []) F14 (route_Table_Find_ok r2.1 x88) (fun r89 => ?_)
      refine OW.nil ?_
      refine OJ.go 3 [(96, .bool r89.2), (95, c_api_Route.val r89.1), (88, .tuple #[c_api_Route.val r89.1, .bool r89.2])] ?_
      refine OJ.slotOf (d := 13) (op := (.alloc 32)) (cd := c_api_Route) (u := z_api_Route) (owed := []) (alloc_run Ty32) (fun b90 => ?_)
      refine OW.nil ?_
      refine OJ.kst (y := .tmp 13) (z := .tmp 95) (cd := c_api_Route) (u := r89.1) (j := 0) (b := b90) (o := 0) (c_api_Route.enc r89.1) (owed := []) Ty32 rfl (Upd.whole ((Cod.len _ _).trans (Cod.len _ _).symm)) rfl ?_
      refine OW.nil ?_
      refine OJ.go 1 [(14, .bool r89.2)] ?_
      refine OJ.nil ?_
      refine SJ.sr 12 ?_
      refine OJ.go 3 [(100, .int .i64 s26), (99, Sl.v r24), (98, .pointer r3)] ?_
      refine OJ.idxS (d := 101) (T := 51) (y := .tmp 99) (j := .tmp 100) (E := 28) (cap := r24.cap) (k := .i64) (fun p91 => ?_)
      refine OJ.ld (d := 102) (y := .tmp 101) (pend2 := fun x92 => []) Ty28 (fun _ => rfl) (fun x92 => ?_)
      refine OJ.call (d := 103) (g := 14) (ats := #[22, 28]) (args := [.tmp 98, .tmp 102]) (owed := []) F14 (route_Table_Find_ok r3 x92) (fun r93 => ?_)
      refine OW.nil ?_
      refine OJ.go 3 [(105, .bool r93.2), (104, c_api_Route.val r93.1), (97, .tuple #[c_api_Route.val r93.1, .bool r93.2])] ?_
      refine OJ.slotOf (d := 15) (op := (.alloc 32)) (cd := c_api_Route) (u := z_api_Route) (owed := []) (alloc_run Ty32) (fun b94 => ?_)
      refine OW.nil ?_
      refine OJ.kst (y := .tmp 15) (z := .tmp 104) (cd := c_api_Route) (u := r93.1) (j := 0) (b := b94) (o := 0) (c_api_Route.enc r93.1) (owed := []) Ty32 rfl (Upd.whole ((Cod.len _ _).trans (Cod.len _ _).symm)) rfl ?_
      refine OW.nil ?_
      refine OJ.go 1 [(16, .bool r93.2)] ?_
      refine OJ.nil ?_
      refine SJ.seq ?_
      refine SJ.seq ?_
      refine SJ.draw (id := 24) (kd := [0, 0, 0, 1, 0, 0, 0, 1, 2, 0, 0, 0, 1, 1, 0, 0, 0, 0, 0, 0, 0]) (bef := [0, 1, 3, 7, 3, 3, 51, 115, 255, 511, 1023, 2047, 4095, 4095, 16383, 32767, 65535, 65535, 262143, 524287, 1048575]) (ord := [0, 1, 2, 3, 4, 5, 6, 7, 8, 9, 10, 11, 12, 13, 14, 15, 16, 17, 18, 19, 20]) mixed ?_
      refine OJ.go 2 [(107, .bool j21), (106, .bool j21)] ?_
      refine OJ.join (b := j21) [2, 3, 4, 5, 6, 7, 8, 9, 10] [11, 12, 13, 14, 15, 16, 17, 18, 19, 20] [2, 4, 6, 7, 8, 9, 11, 12, 13, 14, 15, 16, 116] (fun y98 => [(2, Sl.v r24), (4, .pointer (some (pt b1 0))), (6, .bool s25), (7, .pointer r2.1), (8, Sl.v r2.2), (9, .pointer r3), (11, .bool j21), (12, .int .i64 s26), (13, .pointer (some (pt b90 0))), (14, .bool r89.2), (15, .pointer (some (pt b94 0))), (16, .bool r93.2), (116, .bool y98)]) [⟨3, 30, (pt b1 0), c_api_Prefix.val j22.Prefix⟩] [7] (t := 107) Iff.rfl (fun hp_ => ?_) (fun hp_ => ?_) (fun _ _ _ _ _ _ h_ => h_) (fun y98 => ?_)
      · refine OJ.go 9 [(116, .bool true), (115, undef), (114, undef), (113, undef), (112, undef), (111, undef), (110, undef), (109, undef), (108, undef)] ?_
        exact OJ.nil ⟨(Cov.mem Cov.nil), rfl, _, rfl, by kernel_rfl⟩
      · refine OJ.go 1 [(108, .pointer (some (pt b1 0)))] ?_
        refine OJ.kld (d := 109) (y := .tmp 108) (cd := c_api_Prefix) (j := 2) (b := b1) (o := 0) j22.Prefix (pend2 := [⟨3, 30, (pt b1 0), c_api_Prefix.val j22.Prefix⟩]) Ty30 rfl (At_api_Route_Prefix j22) rfl ?_
        refine OJ.go 2 [(111, .int .i64 s26), (110, Sl.v r24)] ?_
        refine OJ.idxS (d := 112) (T := 51) (y := .tmp 110) (j := .tmp 111) (E := 28) (cap := r24.cap) (k := .i64) (fun p95 => ?_)
        refine OJ.ld (d := 113) (y := .tmp 112) (pend2 := fun x96 => [⟨7, 28, p95, c_api_IP.val x96⟩, ⟨3, 30, (pt b1 0), c_api_Prefix.val j22.Prefix⟩]) Ty28 (fun _ => rfl) (fun x96 => ?_)
        refine OJ.call (d := 114) (g := 22) (ats := #[30, 28]) (args := [.tmp 109, .tmp 113]) (owed := []) F22 (addr_Contains_ok j22.Prefix x96) (fun r97 => ?_)
        refine OW.nil ?_
        refine OJ.go 2 [(116, .bool (!r97)), (115, .bool (!r97))] ?_
        exact OJ.nil ⟨(Cov.mem (Cov.drop (List.mem_of_getElem? (i := 0) rfl) (Cov.keep (List.mem_of_getElem? (i := 0) rfl) Cov.nil))), rfl, _, rfl, by kernel_rfl⟩
      · refine OJ.go 1 [(117, .bool y98)] ?_
        refine OJ.join (b := y98) [12, 13, 14, 15, 16, 17, 18, 19, 20] [] [2, 4, 6, 7, 8, 9, 11, 12, 13, 14, 126] (fun y100 => [(2, Sl.v r24), (4, .pointer (some (pt b1 0))), (6, .bool s25), (7, .pointer r2.1), (8, Sl.v r2.2), (9, .pointer r3), (11, .bool j21), (12, .int .i64 s26), (13, .pointer (some (pt b90 0))), (14, .bool r89.2), (126, .bool y100)]) [⟨13, 32, (pt b94 0), c_api_Route.val r93.1⟩, ⟨12, 32, (pt b90 0), c_api_Route.val r89.1⟩, ⟨3, 30, (pt b1 0), c_api_Prefix.val j22.Prefix⟩] [] (t := 117) Iff.rfl (fun hp_ => ?_) (fun hp_ => ?_) (fun _ _ _ _ _ _ h_ => h_) (fun y100 => ?_)
        · refine OJ.kld (d := 118) (y := .tmp 13) (cd := c_api_Route) (j := 1) (b := b90) (o := 0) r89.1 (pend2 := [⟨12, 32, (pt b90 0), c_api_Route.val r89.1⟩, ⟨3, 30, (pt b1 0), c_api_Prefix.val j22.Prefix⟩]) Ty32 rfl (At.whole _) rfl ?_
          refine OJ.kld (d := 119) (y := .tmp 15) (cd := c_api_Route) (j := 0) (b := b94) (o := 0) r93.1 (pend2 := [⟨13, 32, (pt b94 0), c_api_Route.val r93.1⟩, ⟨12, 32, (pt b90 0), c_api_Route.val r89.1⟩, ⟨3, 30, (pt b1 0), c_api_Prefix.val j22.Prefix⟩]) Ty32 rfl (At.whole _) rfl ?_
          refine OJ.neq (d := 120) (T := 32) (yT := 32) (y := .tmp 118) (z := .tmp 119) (cd := c_api_Route) (p := r89.1) (q := r93.1) rfl Eq32 ?_
          refine OJ.go 1 [(121, .bool (!eqv r89.1 r93.1))] ?_
          refine OJ.join (b := (!eqv r89.1 r93.1)) [16, 17, 18, 19] [20] [2, 4, 6, 7, 8, 9, 11, 12, 13, 14, 117, 125] (fun y99 => [(2, Sl.v r24), (4, .pointer (some (pt b1 0))), (6, .bool s25), (7, .pointer r2.1), (8, Sl.v r2.2), (9, .pointer r3), (11, .bool j21), (12, .int .i64 s26), (13, .pointer (some (pt b90 0))), (14, .bool r89.2), (117, .bool true), (125, .bool y99)]) [⟨13, 32, (pt b94 0), c_api_Route.val r93.1⟩, ⟨12, 32, (pt b90 0), c_api_Route.val r89.1⟩, ⟨3, 30, (pt b1 0), c_api_Prefix.val j22.Prefix⟩] [] (t := 121) (bnot_iff eqv_iff) (fun hp_ => ?_) (fun hp_ => ?_) (fun _ _ _ _ _ hq_ h_ => ⟨fun e_ he_ => (hq_ e_ he_).elim (fun h => h_.1 e_ h) (fun h => nomatch h), h_.2⟩) (fun y99 => ?_)
          · refine OJ.go 4 [(125, .bool true), (124, undef), (123, undef), (122, undef)] ?_
            exact OJ.nil ⟨(Cov.mem (Cov.keep (List.mem_of_getElem? (i := 0) rfl) (Cov.keep (List.mem_of_getElem? (i := 1) rfl) (Cov.keep (List.mem_of_getElem? (i := 2) rfl) Cov.nil)))), rfl, _, rfl, by kernel_rfl⟩
          · refine OJ.go 4 [(125, .bool (!(r89.2 == r93.2))), (124, .bool (!(r89.2 == r93.2))), (123, .bool r93.2), (122, .bool r89.2)] ?_
            exact OJ.nil ⟨(Cov.mem (Cov.keep (List.mem_of_getElem? (i := 0) rfl) (Cov.keep (List.mem_of_getElem? (i := 1) rfl) (Cov.keep (List.mem_of_getElem? (i := 2) rfl) Cov.nil)))), rfl, _, rfl, by kernel_rfl⟩
          · refine OJ.go 1 [(126, .bool y99)] ?_
            exact OJ.nil ⟨(Cov.mem (Cov.keep (List.mem_of_getElem? (i := 0) rfl) (Cov.keep (List.mem_of_getElem? (i := 1) rfl) (Cov.keep (List.mem_of_getElem? (i := 2) rfl) Cov.nil)))), rfl, _, rfl, by kernel_rfl⟩
        · refine OJ.go 9 [(126, .bool false), (125, undef), (124, undef), (123, undef), (122, undef), (121, undef), (120, undef), (119, undef), (118, undef)] ?_
          exact OJ.nil ⟨(Cov.mem (Cov.keep (List.mem_of_getElem? (i := 2) rfl) Cov.nil)), rfl, _, rfl, by kernel_rfl⟩
        · refine OJ.nil ?_
          refine SJ.cond (t := (.tmp 126)) (b := y100) Iff.rfl (fun hc108 => ?_) (fun hc108 => ?_)
          · refine SJ.sr 1 ?_
            refine OJ.go 1 [(6, .bool false)] ?_
            refine OJ.nil ?_
            exact SJ.ret rfl (Res.run (ys := [.bool false]) (.tmp (by kernel_rfl) .nil) rfl)
          · refine SJ.skip ?_
            refine SJ.seq ?_
            refine SJ.draw (id := 26) (kd := [0, 0, 0, 0, 1, 0, 0, 0, 1, 2, 0, 0, 0, 0, 0, 0, 0, 1, 0, 0, 1, 0, 0, 0]) (bef := [0, 1, 3, 7, 15, 7, 7, 103, 231, 511, 1023, 2047, 4095, 8191, 16383, 32767, 65535, 131071, 32767, 294911, 819199, 2097151, 4194303, 8388607]) (ord := [0, 1, 2, 3, 4, 5, 6, 7, 8, 9, 10, 11, 12, 13, 14, 15, 16, 17, 18, 19, 20, 21, 22, 23]) mixed ?_
            refine OJ.go 3 [(129, .bool (!j21)), (128, .bool (!j21)), (127, .bool j21)] ?_
            refine OJ.join (b := (!j21)) [3, 4, 5, 6, 7, 8, 9, 10] [11, 12, 13, 14, 15, 16, 17, 18, 19, 20, 21, 22, 23] [2, 4, 6, 7, 8, 9, 11, 12, 13, 14, 137] (fun y104 => [(2, Sl.v r24), (4, .pointer (some (pt b1 0))), (6, .bool s25), (7, .pointer r2.1), (8, Sl.v r2.2), (9, .pointer r3), (11, .bool j21), (12, .int .i64 s26), (13, .pointer (some (pt b90 0))), (14, .bool r89.2), (137, .bool y104)]) [⟨4, 30, (pt b1 0), c_api_Prefix.val j22.Prefix⟩] [8] (t := 129) (bnot_iff Iff.rfl) (fun hp_ => ?_) (fun hp_ => ?_) (fun _ _ _ _ _ _ h_ => h_) (fun y104 => ?_)
            · refine OJ.go 1 [(130, .pointer (some (pt b1 0)))] ?_
              refine OJ.kld (d := 131) (y := .tmp 130) (cd := c_api_Prefix) (j := 2) (b := b1) (o := 0) j22.Prefix (pend2 := [⟨4, 30, (pt b1 0), c_api_Prefix.val j22.Prefix⟩]) Ty30 rfl (At_api_Route_Prefix j22) rfl ?_
              refine OJ.go 2 [(133, .int .i64 s26), (132, Sl.v r24)] ?_
              refine OJ.idxS (d := 134) (T := 51) (y := .tmp 132) (j := .tmp 133) (E := 28) (cap := r24.cap) (k := .i64) (fun p101 => ?_)
              refine OJ.ld (d := 135) (y := .tmp 134) (pend2 := fun x102 => [⟨8, 28, p101, c_api_IP.val x102⟩, ⟨4, 30, (pt b1 0), c_api_Prefix.val j22.Prefix⟩]) Ty28 (fun _ => rfl) (fun x102 => ?_)
              refine OJ.call (d := 136) (g := 22) (ats := #[30, 28]) (args := [.tmp 131, .tmp 135]) (owed := []) F22 (addr_Contains_ok j22.Prefix x102) (fun r103 => ?_)
              refine OW.nil ?_
              refine OJ.go 1 [(137, .bool r103)] ?_
              exact OJ.nil ⟨(Cov.mem (Cov.drop (List.mem_of_getElem? (i := 0) rfl) (Cov.keep (List.mem_of_getElem? (i := 0) rfl) Cov.nil))), rfl, _, rfl, by kernel_rfl⟩
            · refine OJ.go 8 [(137, .bool false), (136, undef), (135, undef), (134, undef), (133, undef), (132, undef), (131, undef), (130, undef)] ?_
              exact OJ.nil ⟨(Cov.mem Cov.nil), rfl, _, rfl, by kernel_rfl⟩
            · refine OJ.go 1 [(138, .bool y104)] ?_
              refine OJ.join (b := y104) [12, 13, 14, 15, 16, 17, 18, 19, 20, 21, 22, 23] [] [2, 4, 6, 7, 8, 9, 11, 12, 150] (fun y106 => [(2, Sl.v r24), (4, .pointer (some (pt b1 0))), (6, .bool s25), (7, .pointer r2.1), (8, Sl.v r2.2), (9, .pointer r3), (11, .bool j21), (12, .int .i64 s26), (150, .bool y106)]) [⟨20, 3, (pt b1 17), (cI .i64).val j22.Prefix.Len⟩, ⟨17, 3, (pt b90 17), (cI .i64).val r89.1.Prefix.Len⟩, ⟨4, 30, (pt b1 0), c_api_Prefix.val j22.Prefix⟩] [] (t := 138) Iff.rfl (fun hp_ => ?_) (fun hp_ => ?_) (fun _ _ _ _ _ _ h_ => h_) (fun y106 => ?_)
              · refine OJ.go 3 [(141, .bool (!r89.2)), (140, .bool (!r89.2)), (139, .bool r89.2)] ?_
                refine OJ.join (b := (!r89.2)) [15, 16, 17, 18, 19, 20, 21, 22] [23] [2, 4, 6, 7, 8, 9, 11, 12, 138, 149] (fun y105 => [(2, Sl.v r24), (4, .pointer (some (pt b1 0))), (6, .bool s25), (7, .pointer r2.1), (8, Sl.v r2.2), (9, .pointer r3), (11, .bool j21), (12, .int .i64 s26), (138, .bool true), (149, .bool y105)]) [⟨20, 3, (pt b1 17), (cI .i64).val j22.Prefix.Len⟩, ⟨17, 3, (pt b90 17), (cI .i64).val r89.1.Prefix.Len⟩, ⟨4, 30, (pt b1 0), c_api_Prefix.val j22.Prefix⟩] [] (t := 141) (bnot_iff Iff.rfl) (fun hp_ => ?_) (fun hp_ => ?_) (fun _ _ _ _ _ hq_ h_ => ⟨fun e_ he_ => (hq_ e_ he_).elim (fun h => h_.1 e_ h) (fun h => nomatch h), h_.2⟩) (fun y105 => ?_)
                · refine OJ.go 8 [(149, .bool true), (148, undef), (147, undef), (146, undef), (145, undef), (144, undef), (143, undef), (142, undef)] ?_
                  exact OJ.nil ⟨(Cov.mem (Cov.keep (List.mem_of_getElem? (i := 2) rfl) Cov.nil)), rfl, _, rfl, by kernel_rfl⟩
                · refine OJ.go 2 [(143, .pointer (some (pt b90 17))), (142, .pointer (some (pt b90 0)))] ?_
                  refine OJ.kld (d := 144) (y := .tmp 143) (cd := (cI .i64)) (j := 1) (b := b90) (o := 17) r89.1.Prefix.Len (pend2 := [⟨17, 3, (pt b90 17), (cI .i64).val r89.1.Prefix.Len⟩, ⟨4, 30, (pt b1 0), c_api_Prefix.val j22.Prefix⟩]) Ty3 rfl (At.trans (At_api_Route_Prefix r89.1) (At_api_Prefix_Len r89.1.Prefix)) rfl ?_
                  refine OJ.go 2 [(146, .pointer (some (pt b1 17))), (145, .pointer (some (pt b1 0)))] ?_
                  refine OJ.kld (d := 147) (y := .tmp 146) (cd := (cI .i64)) (j := 2) (b := b1) (o := 17) j22.Prefix.Len (pend2 := [⟨20, 3, (pt b1 17), (cI .i64).val j22.Prefix.Len⟩, ⟨17, 3, (pt b90 17), (cI .i64).val r89.1.Prefix.Len⟩, ⟨4, 30, (pt b1 0), c_api_Prefix.val j22.Prefix⟩]) Ty3 rfl (At.trans (At_api_Route_Prefix j22) (At_api_Prefix_Len j22.Prefix)) rfl ?_
                  refine OJ.go 2 [(149, .bool (decide (r89.1.Prefix.Len < j22.Prefix.Len))), (148, .bool (decide (r89.1.Prefix.Len < j22.Prefix.Len)))] ?_
                  exact OJ.nil ⟨(Cov.mem (Cov.keep (List.mem_of_getElem? (i := 0) rfl) (Cov.keep (List.mem_of_getElem? (i := 1) rfl) (Cov.keep (List.mem_of_getElem? (i := 2) rfl) Cov.nil)))), rfl, _, rfl, by kernel_rfl⟩
                · refine OJ.go 1 [(150, .bool y105)] ?_
                  exact OJ.nil ⟨(Cov.mem (Cov.keep (List.mem_of_getElem? (i := 0) rfl) (Cov.keep (List.mem_of_getElem? (i := 1) rfl) (Cov.keep (List.mem_of_getElem? (i := 2) rfl) Cov.nil)))), rfl, _, rfl, by kernel_rfl⟩
              · refine OJ.go 12 [(150, .bool false), (149, undef), (148, undef), (147, undef), (146, undef), (145, undef), (144, undef), (143, undef), (142, undef), (141, undef), (140, undef), (139, undef)] ?_
                exact OJ.nil ⟨(Cov.mem (Cov.keep (List.mem_of_getElem? (i := 2) rfl) Cov.nil)), rfl, _, rfl, by kernel_rfl⟩
              · refine OJ.nil ?_
                refine SJ.cond (t := (.tmp 150)) (b := y106) Iff.rfl (fun hc107 => ?_) (fun hc107 => ?_)
                · refine SJ.sr 1 ?_
                  refine OJ.go 1 [(6, .bool false)] ?_
                  refine OJ.nil ?_
                  exact SJ.ret rfl (Res.run (ys := [.bool false]) (.tmp (by kernel_rfl) .nil) rfl)
                · refine SJ.skip ?_
                  refine SJ.inBlock ?_
                  refine SJ.rg 3 ?_
                  refine OJ.go 3 [(12, .int .i64 (IntKind.wrap .i64 (s26 + 1))), (87, .int .i64 (IntKind.wrap .i64 (s26 + 1))), (86, .int .i64 s26)] ?_
                  refine OJ.nil ?_
                  refine SJ.forget (List.Sublist.cons _ (List.Sublist.cons _ (List.Sublist.cons_cons _ List.Sublist.slnil))) ?_
                  exact SJ.at_ [2, 4, 6, 7, 8, 9, 11, 12] rfl
    · refine SJ.exit (id := 2) (by rfl) ?_
      refine SJ.less [4, 6, 7, 8, 9, 11] (m' := [(4, .pointer (some (pt b1 0))), (6, .bool s25), (7, .pointer r2.1), (8, Sl.v r2.2), (9, .pointer r3), (11, .bool j21)]) ?_
      refine SJ.done ?_
      exact weirlaw14_RouteAny.K1_ok b1 r2 r3 j21 j22 s25
noncomputable def weirlaw14_RouteAny.K2 (a2 : Sl) (r2 : ((Option Addr) × Sl)) (r3 : (Option Addr)) (s4 : Bool) (j21 : Bool) (j22 : api_Route) : M Bool :=
  newv 28 (c_api_IP.arr 1) (⟨[j22.Prefix.IP], rfl⟩ : Vec api_IP 1) >>= fun b23 =>
  appS c_api_IP 28 24 z_api_IP (⟨some (pt b23 0), 1, 1⟩ : Sl) a2 >>= fun r24 =>
  loopM (fun s_ : (Bool × Int) => weirlaw14_RouteAny.L1 r2 r3 j21 j22 r24 s_.1 s_.2) (s4, 0)
theorem weirlaw14_RouteAny.K2_ok (a2 : Sl) (b1 : Nat) (r2 : ((Option Addr) × Sl)) (r3 : (Option Addr)) (s4 : Bool) (j21 : Bool) (j22 : api_Route) :
    SJ weirlaw14_RouteAny.cx [.code (c2 (c2 (c2 (c2 (c2 (c2 (c2 (c2 weirlaw14_RouteAny.B))))))))] [(2, Sl.v a2), (4, .pointer (some (pt b1 0))), (6, .bool s4), (7, .pointer r2.1), (8, Sl.v r2.2), (9, .pointer r3), (11, .bool j21)] [(b1, c_api_Route.enc j22)] (weirlaw14_RouteAny.K2 a2 r2 r3 s4 j21 j22) weirlaw14_RouteAny.F0 := by
  unfold weirlaw14_RouteAny.K2
  refine SJ.sr 7 ?_
  refine OJ.go 2 [(73, .pointer (some (pt b1 0))), (72, .pointer (some (pt b1 0)))] ?_
  refine OJ.kld (d := 74) (y := .tmp 73) (cd := c_api_IP) (j := 0) (b := b1) (o := 0) j22.Prefix.IP (pend2 := []) Ty28 rfl (At.trans (At_api_Route_Prefix j22) (At_api_Prefix_IP j22.Prefix)) rfl ?_
  refine OJ.rowNew (d := 75) (t := 51) (parts := [(0, .tmp 74)]) (ps := [(0, c_api_IP.val j22.Prefix.IP)]) (cd := c_api_IP) (owed := []) Ty28 (Filled.cons (cd := c_api_IP) (q := j22.Prefix.IP) (o := 0) rfl (Upd.arr (i := 0) (by decide) (by decide)) Filled.nil) (fun b23 => ?_)
  refine OW.nil ?_
  refine OJ.go 1 [(76, Sl.v a2)] ?_
  refine OJ.appS (d := 77) (t := 51) (u := 51) (so := .tmp 75) (xo := .tmp 76) (owed := []) Ty28 (fun r24 => ?_)
  refine OW.nil ?_
  refine OJ.go 1 [(2, Sl.v r24)] ?_
  refine OJ.nil ?_
  refine SJ.seq ?_
  refine SJ.sr 1 ?_
  refine OJ.go 1 [(12, .int .i64 0)] ?_
  refine OJ.nil ?_
  refine SJ.block (id := 2) ?_
  exact SJ.loop (fun s_ : (Bool × Int) => [(2, Sl.v r24), (4, .pointer (some (pt b1 0))), (6, .bool s_.1), (7, .pointer r2.1), (8, Sl.v r2.2), (9, .pointer r3), (11, .bool j21), (12, .int .i64 s_.2)]) (fun s_ : (Bool × Int) => [(b1, c_api_Route.enc j22)]) [2, 4, 6, 7, 8, 9, 11, 12] rfl (fun _ _ => rfl) (fun s_ => weirlaw14_RouteAny.L1_ok b1 r2 r3 j21 j22 r24 s_.1 s_.2)
noncomputable def weirlaw14_RouteAny.K3 (a1 : api_Route) (a2 : Sl) (r2 : ((Option Addr) × Sl)) (r3 : (Option Addr)) (s4 : Bool) : M Bool :=
  (if r3 = none then
      pure true
    else
      route_Table_Len r3 >>= fun r12 =>
      route_Table_Len r2.1 >>= fun r13 =>
      pure (r12 != r13)) >>= fun y14 =>
  if y14 = true then
    pure false
  else
    route_Table_Add r2.1 a1 >>= fun r15 =>
    (if (r2.2.len : Int) = 0 then
        pure (r15 != 0)
      else
        pure false) >>= fun y16 =>
    if y16 = true then
      weirlaw14_route0 >>= fun r110 =>
      route_Table_Add r2.1 r110 >>= fun r111 =>
      if r111 ≠ 0 then
        pure false
      else
        weirlaw14_route0 >>= fun r112 =>
        weirlaw14_RouteAny.K2 a2 r2 r3 s4 (r111 != 0) r112
    else
      weirlaw14_RouteAny.K2 a2 r2 r3 s4 (r15 != 0) a1
theorem weirlaw14_RouteAny.K3_ok (a1 : api_Route) (a2 : Sl) (b1 : Nat) (r2 : ((Option Addr) × Sl)) (r3 : (Option Addr)) (s4 : Bool) :
    SJ weirlaw14_RouteAny.cx [.code (c2 (c2 (c2 (c2 (c2 weirlaw14_RouteAny.B)))))] [(2, Sl.v a2), (4, .pointer (some (pt b1 0))), (6, .bool s4), (7, .pointer r2.1), (8, Sl.v r2.2), (9, .pointer r3)] [(b1, c_api_Route.enc a1)] (weirlaw14_RouteAny.K3 a1 a2 r2 r3 s4) weirlaw14_RouteAny.F0 := by
  unfold weirlaw14_RouteAny.K3
  refine SJ.seq ?_
  refine SJ.sr 9 ?_
  refine OJ.go 3 [(49, .bool (Option.isNone r3)), (48, .bool (Option.isNone r3)), (47, .pointer r3)] ?_
  refine OJ.join (b := (Option.isNone r3)) [3, 4, 5, 6, 7, 8] [] [2, 4, 6, 7, 8, 9, 55] (fun y14 => [(2, Sl.v a2), (4, .pointer (some (pt b1 0))), (6, .bool s4), (7, .pointer r2.1), (8, Sl.v r2.2), (9, .pointer r3), (55, .bool y14)]) [] [] (t := 49) Option.isNone_iff_eq_none (fun hp_ => ?_) (fun hp_ => ?_) (fun _ _ _ _ _ _ h_ => h_) (fun y14 => ?_)
  · refine OJ.go 6 [(55, .bool true), (54, undef), (53, undef), (52, undef), (51, undef), (50, undef)] ?_
    exact OJ.nil ⟨(Cov.mem Cov.nil), rfl, _, rfl, by kernel_rfl⟩
  · refine OJ.go 1 [(50, .pointer r3)] ?_
    refine OJ.call (d := 51) (g := 12) (ats := #[22]) (args := [.tmp 50]) (owed := []) F12 (route_Table_Len_ok r3) (fun r12 => ?_)
    refine OW.nil ?_
    refine OJ.go 1 [(52, .pointer r2.1)] ?_
    refine OJ.call (d := 53) (g := 12) (ats := #[22]) (args := [.tmp 52]) (owed := []) F12 (route_Table_Len_ok r2.1) (fun r13 => ?_)
    refine OW.nil ?_
    refine OJ.go 2 [(55, .bool (r12 != r13)), (54, .bool (r12 != r13))] ?_
    exact OJ.nil ⟨(Cov.mem Cov.nil), rfl, _, rfl, by kernel_rfl⟩
  · refine OJ.nil ?_
    refine SJ.cond (t := (.tmp 55)) (b := y14) Iff.rfl (fun hc115 => ?_) (fun hc115 => ?_)
    · refine SJ.sr 1 ?_
      refine OJ.go 1 [(6, .bool false)] ?_
      refine OJ.nil ?_
      exact SJ.ret rfl (Res.run (ys := [.bool false]) (.tmp (by kernel_rfl) .nil) rfl)
    · refine SJ.skip ?_
      refine SJ.sr 5 ?_
      refine OJ.go 1 [(56, .pointer r2.1)] ?_
      refine OJ.kld (d := 57) (y := .tmp 4) (cd := c_api_Route) (j := 0) (b := b1) (o := 0) a1 (pend2 := []) Ty32 rfl (At.whole _) rfl ?_
      refine OJ.call (d := 58) (g := 10) (ats := #[22, 32]) (args := [.tmp 56, .tmp 57]) (owed := []) F10 (route_Table_Add_ok r2.1 a1) (fun r15 => ?_)
      refine OW.nil ?_
      refine OJ.go 2 [(11, .bool (r15 != 0)), (59, .bool (r15 != 0))] ?_
      refine OJ.nil ?_
      refine SJ.seq ?_
      refine SJ.sr 6 ?_
      refine OJ.go 4 [(63, .bool ((r2.2.len : Int) == 0)), (62, .bool ((r2.2.len : Int) == 0)), (61, .int .i64 (r2.2.len : Int)), (60, Sl.v r2.2)] ?_
      refine OJ.join (b := ((r2.2.len : Int) == 0)) [4, 5] [] [2, 4, 6, 7, 8, 9, 11, 65] (fun y16 => [(2, Sl.v a2), (4, .pointer (some (pt b1 0))), (6, .bool s4), (7, .pointer r2.1), (8, Sl.v r2.2), (9, .pointer r3), (11, .bool (r15 != 0)), (65, .bool y16)]) [] [] (t := 63) beq_iff_eq (fun hp_ => ?_) (fun hp_ => ?_) (fun _ _ _ _ _ _ h_ => h_) (fun y16 => ?_)
      · refine OJ.go 2 [(65, .bool (r15 != 0)), (64, .bool (r15 != 0))] ?_
        exact OJ.nil ⟨(Cov.mem Cov.nil), rfl, _, rfl, by kernel_rfl⟩
      · refine OJ.go 2 [(65, .bool false), (64, undef)] ?_
        exact OJ.nil ⟨(Cov.mem Cov.nil), rfl, _, rfl, by kernel_rfl⟩
      · refine OJ.nil ?_
        refine SJ.cond (t := (.tmp 65)) (b := y16) Iff.rfl (fun hc114 => ?_) (fun hc114 => ?_)
        · refine SJ.sr 5 ?_
          refine OJ.go 1 [(66, .pointer r2.1)] ?_
          refine OJ.call (d := 67) (g := 16) (ats := #[]) (args := []) (owed := []) F16 (weirlaw14_route0_ok ) (fun r110 => ?_)
          refine OW.nil ?_
          refine OJ.call (d := 68) (g := 10) (ats := #[22, 32]) (args := [.tmp 66, .tmp 67]) (owed := []) F10 (route_Table_Add_ok r2.1 r110) (fun r111 => ?_)
          refine OW.nil ?_
          refine OJ.go 2 [(11, .bool (r111 != 0)), (69, .bool (r111 != 0))] ?_
          refine OJ.nil ?_
          refine SJ.seq ?_
          refine SJ.sr 1 ?_
          refine OJ.go 1 [(70, .bool (r111 != 0))] ?_
          refine OJ.nil ?_
          refine SJ.cond (t := (.tmp 70)) (b := (r111 != 0)) bne_iff_ne (fun hc113 => ?_) (fun hc113 => ?_)
          · refine SJ.sr 1 ?_
            refine OJ.go 1 [(6, .bool false)] ?_
            refine OJ.nil ?_
            exact SJ.ret rfl (Res.run (ys := [.bool false]) (.tmp (by kernel_rfl) .nil) rfl)
          · refine SJ.skip ?_
            refine SJ.rg 2 ?_
            refine OJ.call (d := 71) (g := 16) (ats := #[]) (args := []) (owed := []) F16 (weirlaw14_route0_ok ) (fun r112 => ?_)
            refine OW.nil ?_
            refine OJ.kst (y := .tmp 4) (z := .tmp 71) (cd := c_api_Route) (u := r112) (j := 0) (b := b1) (o := 0) (c_api_Route.enc r112) (owed := []) Ty32 rfl (Upd.whole ((Cod.len _ _).trans (Cod.len _ _).symm)) rfl ?_
            refine OW.nil ?_
            refine OJ.nil ?_
            refine SJ.less [2, 4, 6, 7, 8, 9, 11] (m' := [(2, Sl.v a2), (4, .pointer (some (pt b1 0))), (6, .bool s4), (7, .pointer r2.1), (8, Sl.v r2.2), (9, .pointer r3), (11, .bool (r111 != 0))]) ?_
            exact weirlaw14_RouteAny.K2_ok a2 b1 r2 r3 s4 (r111 != 0) r112
        · refine SJ.skip ?_
          refine SJ.less [2, 4, 6, 7, 8, 9, 11] (m' := [(2, Sl.v a2), (4, .pointer (some (pt b1 0))), (6, .bool s4), (7, .pointer r2.1), (8, Sl.v r2.2), (9, .pointer r3), (11, .bool (r15 != 0))]) ?_
          exact weirlaw14_RouteAny.K2_ok a2 b1 r2 r3 s4 (r15 != 0) a1
noncomputable def weirlaw14_RouteAny.F2 (a1 : api_Route) (a2 : Sl) (b1 : Nat) (r2 : ((Option Addr) × Sl)) (r3 : (Option Addr)) : (LS (Bool × Int) Bool) → Reach := loopF [.inLoop (c1 (c1 (c2 (c1 (c2 (c2 (c2 (c2 weirlaw14_RouteAny.B)))))))), .inBlock 0, .code (c2 (c2 (c2 (c2 (c2 weirlaw14_RouteAny.B)))))] (fun s_ : (Bool × Int) => [(2, Sl.v a2), (4, .pointer (some (pt b1 0))), (6, .bool s_.1), (7, .pointer r2.1), (8, Sl.v r2.2), (9, .pointer r3), (10, .int .i64 s_.2)]) (fun s_ : (Bool × Int) => [(b1, c_api_Route.enc a1)]) weirlaw14_RouteAny.F0
noncomputable def weirlaw14_RouteAny.L2 (a1 : api_Route) (a2 : Sl) (r2 : ((Option Addr) × Sl)) (r3 : (Option Addr)) (s4 : Bool) (s5 : Int) : M (LS (Bool × Int) Bool) :=
  if s5 ≥ 0 then
    (if r3 = none then
        pure true
      else
        idx r2.2.a r2.2.len s5 36 >>= fun p116 =>
        ld c_api_Route p116 >>= fun x117 =>
        route_Table_Add r3 x117 >>= fun r118 =>
        pure (r118 != 0)) >>= fun y119 =>
    if y119 = true then
      pure (LS.done false)
    else
      pure (LS.next (s4, IntKind.wrap .i64 (s5 - 1)))
  else
    (weirlaw14_RouteAny.K3 a1 a2 r2 r3 s4) >>= fun b => pure (LS.done b)
theorem weirlaw14_RouteAny.L2_ok (a1 : api_Route) (a2 : Sl) (b1 : Nat) (r2 : ((Option Addr) × Sl)) (r3 : (Option Addr)) (s4 : Bool) (s5 : Int) :
    SJ weirlaw14_RouteAny.cx [.code (c1 (c1 (c2 (c1 (c2 (c2 (c2 (c2 weirlaw14_RouteAny.B)))))))), .inLoop (c1 (c1 (c2 (c1 (c2 (c2 (c2 (c2 weirlaw14_RouteAny.B)))))))), .inBlock 0, .code (c2 (c2 (c2 (c2 (c2 weirlaw14_RouteAny.B)))))] [(2, Sl.v a2), (4, .pointer (some (pt b1 0))), (6, .bool s4), (7, .pointer r2.1), (8, Sl.v r2.2), (9, .pointer r3), (10, .int .i64 s5)] [(b1, c_api_Route.enc a1)] (weirlaw14_RouteAny.L2 a1 a2 r2 r3 s4 s5) (weirlaw14_RouteAny.F2 a1 a2 b1 r2 r3) := by
  unfold weirlaw14_RouteAny.L2
  refine SJ.seq ?_
  refine SJ.sr 2 ?_
  refine OJ.go 2 [(33, .bool (decide (s5 ≥ 0))), (32, .int .i64 s5)] ?_
  refine OJ.nil ?_
  refine SJ.cond (t := (.tmp 33)) (b := decide (s5 ≥ 0)) decide_eq_true_iff (fun hc121 => ?_) (fun hc121 => ?_)
  · refine SJ.skip ?_
    refine SJ.seq ?_
    refine SJ.block (id := 1) ?_
    refine SJ.sr 11 ?_
    refine OJ.go 3 [(38, .bool (Option.isNone r3)), (37, .bool (Option.isNone r3)), (36, .pointer r3)] ?_
    refine OJ.join (b := (Option.isNone r3)) [3, 4, 5, 6, 7, 8, 9, 10] [] [2, 4, 6, 7, 8, 9, 10, 46] (fun y119 => [(2, Sl.v a2), (4, .pointer (some (pt b1 0))), (6, .bool s4), (7, .pointer r2.1), (8, Sl.v r2.2), (9, .pointer r3), (10, .int .i64 s5), (46, .bool y119)]) [] [] (t := 38) Option.isNone_iff_eq_none (fun hp_ => ?_) (fun hp_ => ?_) (fun _ _ _ _ _ _ h_ => h_) (fun y119 => ?_)
    · refine OJ.go 8 [(46, .bool true), (45, undef), (44, undef), (43, undef), (42, undef), (41, undef), (40, undef), (39, undef)] ?_
      exact OJ.nil ⟨(Cov.mem Cov.nil), rfl, _, rfl, by kernel_rfl⟩
    · refine OJ.go 3 [(41, .int .i64 s5), (40, Sl.v r2.2), (39, .pointer r3)] ?_
      refine OJ.idxS (d := 42) (T := 39) (y := .tmp 40) (j := .tmp 41) (E := 32) (cap := r2.2.cap) (k := .i64) (fun p116 => ?_)
      refine OJ.ld (d := 43) (y := .tmp 42) (pend2 := fun x117 => []) Ty32 (fun _ => rfl) (fun x117 => ?_)
      refine OJ.call (d := 44) (g := 10) (ats := #[22, 32]) (args := [.tmp 39, .tmp 43]) (owed := []) F10 (route_Table_Add_ok r3 x117) (fun r118 => ?_)
      refine OW.nil ?_
      refine OJ.go 2 [(46, .bool (r118 != 0)), (45, .bool (r118 != 0))] ?_
      exact OJ.nil ⟨(Cov.mem Cov.nil), rfl, _, rfl, by kernel_rfl⟩
    · refine OJ.nil ?_
      refine SJ.cond (t := (.tmp 46)) (b := y119) Iff.rfl (fun hc120 => ?_) (fun hc120 => ?_)
      · refine SJ.sr 1 ?_
        refine OJ.go 1 [(6, .bool false)] ?_
        refine OJ.nil ?_
        exact SJ.ret rfl (Res.run (ys := [.bool false]) (.tmp (by kernel_rfl) .nil) rfl)
      · refine SJ.skip ?_
        refine SJ.inBlock ?_
        refine SJ.rg 3 ?_
        refine OJ.go 3 [(10, .int .i64 (IntKind.wrap .i64 (s5 - 1))), (35, .int .i64 (IntKind.wrap .i64 (s5 - 1))), (34, .int .i64 s5)] ?_
        refine OJ.nil ?_
        exact SJ.at_ [2, 4, 6, 7, 8, 9, 10] rfl
  · refine SJ.exit (id := 0) (by rfl) ?_
    refine SJ.less [2, 4, 6, 7, 8, 9] (m' := [(2, Sl.v a2), (4, .pointer (some (pt b1 0))), (6, .bool s4), (7, .pointer r2.1), (8, Sl.v r2.2), (9, .pointer r3)]) ?_
    refine SJ.done ?_
    exact weirlaw14_RouteAny.K3_ok a1 a2 b1 r2 r3 s4
noncomputable def weirlaw14_RouteAny (a0 : Sl) (a1 : api_Route) (a2 : Sl) : M Bool :=
  slot 32 >>= fun b1 =>
  weirlaw14_filled a0 >>= fun r2 =>
  if r2.1 = none then
    pure false
  else
    route_New >>= fun r3 =>
    loopM (fun s_ : (Bool × Int) => weirlaw14_RouteAny.L2 a1 a2 r2 r3 s_.1 s_.2) (false, IntKind.wrap .i64 ((r2.2.len : Int) - 1))
theorem weirlaw14_RouteAny_ok (a0 : Sl) (a1 : api_Route) (a2 : Sl) : Ref Tryd.prog 8 [Sl.v a0, c_api_Route.val a1, Sl.v a2] (weirlaw14_RouteAny a0 a1 a2) weirlaw14_RouteAny.out := by
  refine Ref.of (cd := weirlaw14_RouteAny.B) Tryd.func8 ?_
  show SJ weirlaw14_RouteAny.cx [.code weirlaw14_RouteAny.B] [(0, Sl.v a0), (1, c_api_Route.val a1), (2, Sl.v a2)] [] (weirlaw14_RouteAny a0 a1 a2) weirlaw14_RouteAny.F0
  unfold weirlaw14_RouteAny
  refine SJ.sr 2 ?_
  refine OJ.slotOf (d := 4) (op := (.box 32 (.tmp 1))) (cd := c_api_Route) (u := a1) (owed := []) (box_run (by kernel_rfl)) (fun b1 => ?_)
  refine OW.nil ?_
  refine OJ.go 1 [(6, .bool false)] ?_
  refine OJ.nil ?_
  refine SJ.sr 7 ?_
  refine OJ.go 1 [(22, Sl.v a0)] ?_
  refine OJ.call (d := 23) (g := 15) (ats := #[39]) (args := [.tmp 22]) (owed := []) F15 (weirlaw14_filled_ok a0) (fun r2 => ?_)
  refine OW.nil ?_
  refine OJ.go 5 [(8, Sl.v r2.2), (7, .pointer r2.1), (25, Sl.v r2.2), (24, .pointer r2.1), (21, .tuple #[.pointer r2.1, Sl.v r2.2])] ?_
  refine OJ.nil ?_
  refine SJ.seq ?_
  refine SJ.sr 2 ?_
  refine OJ.go 2 [(27, .bool (Option.isNone r2.1)), (26, .pointer r2.1)] ?_
  refine OJ.nil ?_
  refine SJ.cond (t := (.tmp 27)) (b := (Option.isNone r2.1)) Option.isNone_iff_eq_none (fun hc122 => ?_) (fun hc122 => ?_)
  · refine SJ.sr 1 ?_
    refine OJ.go 1 [(6, .bool false)] ?_
    refine OJ.nil ?_
    exact SJ.ret rfl (Res.run (ys := [.bool false]) (.tmp (by kernel_rfl) .nil) rfl)
  · refine SJ.skip ?_
    refine SJ.sr 2 ?_
    refine OJ.call (d := 28) (g := 9) (ats := #[]) (args := []) (owed := []) F9 (route_New_ok ) (fun r3 => ?_)
    refine OW.nil ?_
    refine OJ.go 1 [(9, .pointer r3)] ?_
    refine OJ.nil ?_
    refine SJ.seq ?_
    refine SJ.sr 4 ?_
    refine OJ.go 4 [(10, .int .i64 (IntKind.wrap .i64 ((r2.2.len : Int) - 1))), (31, .int .i64 (IntKind.wrap .i64 ((r2.2.len : Int) - 1))), (30, .int .i64 (r2.2.len : Int)), (29, Sl.v r2.2)] ?_
    refine OJ.nil ?_
    refine SJ.block (id := 0) ?_
    exact SJ.loop (fun s_ : (Bool × Int) => [(2, Sl.v a2), (4, .pointer (some (pt b1 0))), (6, .bool s_.1), (7, .pointer r2.1), (8, Sl.v r2.2), (9, .pointer r3), (10, .int .i64 s_.2)]) (fun s_ : (Bool × Int) => [(b1, c_api_Route.enc a1)]) [2, 4, 6, 7, 8, 9, 10] rfl (fun _ _ => rfl) (fun s_ => weirlaw14_RouteAny.L2_ok a1 a2 b1 r2 r3 s_.1 s_.2)
end Go.Proofs.YtfgcobigollfjaaDoor.Lx
