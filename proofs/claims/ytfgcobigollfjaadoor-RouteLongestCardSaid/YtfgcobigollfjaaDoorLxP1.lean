/- Programs of the M-world for Go functions, each with the proof that the Go text does what it says. Printed by lxgen.py. -/
import Derived.Test.YtfgcobigollfjaaDoorLxT
import Derived.Test.YtfgcobigollfjaaDoorLxP0
set_option linter.unusedVariables false
set_option linter.unusedSimpArgs false
set_option linter.unusedSectionVars false
namespace Go.Proofs.YtfgcobigollfjaaDoor.Lx
open Go Go.Proofs
variable [Loops]
/-! ### weir/weirlaw14.RouteLongest: function 5 -/
noncomputable def weirlaw14_RouteLongest.B : Code := (Tryd.f5.body).getD .skip
noncomputable def weirlaw14_RouteLongest.cx : Fx := ⟨Tryd.prog, 5, Tryd.f5, none⟩
noncomputable def weirlaw14_RouteLongest.out (r_ : Bool) : Value := .bool r_
noncomputable def weirlaw14_RouteLongest.F0 (r_ : Bool) : Reach := .ret (weirlaw14_RouteLongest.out r_)
noncomputable def weirlaw14_RouteLongest.F1 (r4 : ((Option Addr) × Sl)) (r9 : Sl) : (LS Int Bool) → Reach := loopF [.inLoop (c1 (c1 (c2 (c1 (c2 (c2 (c2 (c2 weirlaw14_RouteLongest.B)))))))), .inBlock 0, .code (c2 (c2 (c2 (c2 (c2 weirlaw14_RouteLongest.B)))))] (fun s_ : Int => [(1, Sl.v r9), (5, .pointer r4.1), (6, Sl.v r4.2), (7, .int .i64 s_)]) (fun s_ : Int => []) weirlaw14_RouteLongest.F0
noncomputable def weirlaw14_RouteLongest.F2 (r4 : ((Option Addr) × Sl)) (r9 : Sl) (s10 : Int) (r108 : Sl) : (LS Int (LS Int Bool)) → Reach := loopF [.inLoop (c1 (c1 (c2 (c2 (c2 (c2 (c2 (c2 (c2 (c1 (c1 (c2 (c1 (c1 (c2 (c1 (c2 (c2 (c2 (c2 weirlaw14_RouteLongest.B)))))))))))))))))))), .inBlock 4, .inBlock 1, .code (c2 (c2 (c1 (c1 (c2 (c1 (c2 (c2 (c2 (c2 weirlaw14_RouteLongest.B)))))))))), .inLoop (c1 (c1 (c2 (c1 (c2 (c2 (c2 (c2 weirlaw14_RouteLongest.B)))))))), .inBlock 0, .code (c2 (c2 (c2 (c2 (c2 weirlaw14_RouteLongest.B)))))] (fun s_ : Int => [(1, Sl.v r9), (5, .pointer r4.1), (6, Sl.v r4.2), (7, .int .i64 s10), (13, Sl.v r108), (14, .int .i64 s_)]) (fun s_ : Int => []) (weirlaw14_RouteLongest.F1 r4 r9)
noncomputable def weirlaw14_RouteLongest.L2 (r9 : Sl) (s10 : Int) (r108 : Sl) (s116 : Int) : M (LS Int (LS Int Bool)) :=
  if s116 < (r108.len : Int) then
    draw >>= fun _ =>
    idx r108.a r108.len s116 36 >>= fun p129 =>
    ld (cI .i64) (Addr.add p129 17) >>= fun x130 =>
    idx r108.a r108.len (IntKind.wrap .i64 (s116 - 1)) 36 >>= fun p131 =>
    ld (cI .i64) (Addr.add p131 17) >>= fun x132 =>
    (if x130 ≥ x132 then
        pure true
      else
        idx r108.a r108.len s116 36 >>= fun p133 =>
        ld c_api_Prefix p133 >>= fun x134 =>
        idx r9.a r9.len s10 17 >>= fun p135 =>
        ld c_api_IP p135 >>= fun x136 =>
        addr_Contains x134 x136 >>= fun r137 =>
        pure (!r137)) >>= fun y138 =>
    if y138 = true then
      pure (LS.done (LS.done false))
    else
      pure (LS.next (IntKind.wrap .i64 (s116 + 1)))
  else
    pure (LS.done (LS.next (IntKind.wrap .i64 (s10 + 1))))
theorem weirlaw14_RouteLongest.L2_ok (r4 : ((Option Addr) × Sl)) (r9 : Sl) (s10 : Int) (r108 : Sl) (s116 : Int) :
    SJ weirlaw14_RouteLongest.cx [.code (c1 (c1 (c2 (c2 (c2 (c2 (c2 (c2 (c2 (c1 (c1 (c2 (c1 (c1 (c2 (c1 (c2 (c2 (c2 (c2 weirlaw14_RouteLongest.B)))))))))))))))))))), .inLoop (c1 (c1 (c2 (c2 (c2 (c2 (c2 (c2 (c2 (c1 (c1 (c2 (c1 (c1 (c2 (c1 (c2 (c2 (c2 (c2 weirlaw14_RouteLongest.B)))))))))))))))))))), .inBlock 4, .inBlock 1, .code (c2 (c2 (c1 (c1 (c2 (c1 (c2 (c2 (c2 (c2 weirlaw14_RouteLongest.B)))))))))), .inLoop (c1 (c1 (c2 (c1 (c2 (c2 (c2 (c2 weirlaw14_RouteLongest.B)))))))), .inBlock 0, .code (c2 (c2 (c2 (c2 (c2 weirlaw14_RouteLongest.B)))))] [(1, Sl.v r9), (5, .pointer r4.1), (6, Sl.v r4.2), (7, .int .i64 s10), (13, Sl.v r108), (14, .int .i64 s116)] [] (weirlaw14_RouteLongest.L2 r9 s10 r108 s116) (weirlaw14_RouteLongest.F2 r4 r9 s10 r108) := by
  unfold weirlaw14_RouteLongest.L2
  refine SJ.seq ?_
  refine SJ.sr 4 ?_
  refine OJ.go 4 [(141, .bool (decide (s116 < (r108.len : Int)))), (140, .int .i64 (r108.len : Int)), (139, Sl.v r108), (138, .int .i64 s116)] ?_
  refine OJ.nil ?_
  refine SJ.cond (t := (.tmp 141)) (b := decide (s116 < (r108.len : Int))) decide_eq_true_iff (fun hc140 => ?_) (fun hc140 => ?_)
  · refine SJ.skip ?_
    refine SJ.seq ?_
    refine SJ.block (id := 5) ?_
    refine SJ.seq ?_
    refine SJ.draw (id := 25) (kd := [0, 0, 0, 0, 0, 1, 0, 0, 0, 0, 0, 0, 1, 0, 0, 0, 0, 0, 0, 1, 0, 0, 0, 1, 2, 0, 0]) (bef := [0, 0, 3, 7, 15, 31, 0, 0, 128, 448, 960, 1984, 4032, 8191, 16383, 32767, 32767, 131071, 262143, 524287, 32767, 32767, 3178495, 7372799, 16777215, 33554431, 67108863]) (ord := [0, 1, 2, 3, 4, 5, 6, 7, 8, 9, 10, 11, 12, 13, 14, 15, 16, 17, 18, 19, 20, 21, 22, 23, 24, 25, 26]) mixed ?_
    refine OJ.go 2 [(145, .int .i64 s116), (144, Sl.v r108)] ?_
    refine OJ.idxS (d := 146) (T := 39) (y := .tmp 144) (j := .tmp 145) (E := 32) (cap := r108.cap) (k := .i64) (fun p129 => ?_)
    refine OJ.go 2 [(148, .pointer (some (Addr.add p129 17))), (147, .pointer (some p129))] ?_
    refine OJ.ld (d := 149) (y := .tmp 148) (pend2 := fun x130 => [⟨5, 3, (Addr.add p129 17), (cI .i64).val x130⟩]) Ty3 (fun _ => rfl) (fun x130 => ?_)
    refine OJ.go 3 [(152, .int .i64 (IntKind.wrap .i64 (s116 - 1))), (151, .int .i64 s116), (150, Sl.v r108)] ?_
    refine OJ.idxS (d := 153) (T := 39) (y := .tmp 150) (j := .tmp 152) (E := 32) (cap := r108.cap) (k := .i64) (fun p131 => ?_)
    refine OJ.go 2 [(155, .pointer (some (Addr.add p131 17))), (154, .pointer (some p131))] ?_
    refine OJ.ld (d := 156) (y := .tmp 155) (pend2 := fun x132 => [⟨12, 3, (Addr.add p131 17), (cI .i64).val x132⟩, ⟨5, 3, (Addr.add p129 17), (cI .i64).val x130⟩]) Ty3 (fun _ => rfl) (fun x132 => ?_)
    refine OJ.go 2 [(158, .bool (decide (x130 ≥ x132))), (157, .bool (decide (x130 ≥ x132)))] ?_
    refine OJ.join (b := decide (x130 ≥ x132)) [15, 16, 17, 18, 19, 20, 21, 22, 23, 24, 25, 26] [] [1, 5, 6, 7, 13, 14, 170] (fun y138 => [(1, Sl.v r9), (5, .pointer r4.1), (6, Sl.v r4.2), (7, .int .i64 s10), (13, Sl.v r108), (14, .int .i64 s116), (170, .bool y138)]) [⟨12, 3, (Addr.add p131 17), (cI .i64).val x132⟩, ⟨5, 3, (Addr.add p129 17), (cI .i64).val x130⟩] [19, 23] (t := 158) decide_eq_true_iff (fun hp_ => ?_) (fun hp_ => ?_) (fun _ _ _ _ _ _ h_ => h_) (fun y138 => ?_)
    · refine OJ.go 12 [(170, .bool true), (169, undef), (168, undef), (167, undef), (166, undef), (165, undef), (164, undef), (163, undef), (162, undef), (161, undef), (160, undef), (159, undef)] ?_
      exact OJ.nil ⟨(Cov.mem (Cov.keep (List.mem_of_getElem? (i := 0) rfl) (Cov.keep (List.mem_of_getElem? (i := 1) rfl) Cov.nil))), rfl, _, rfl, by kernel_rfl⟩
    · refine OJ.go 2 [(160, .int .i64 s116), (159, Sl.v r108)] ?_
      refine OJ.idxS (d := 161) (T := 39) (y := .tmp 159) (j := .tmp 160) (E := 32) (cap := r108.cap) (k := .i64) (fun p133 => ?_)
      refine OJ.go 1 [(162, .pointer (some p133))] ?_
      refine OJ.ld (d := 163) (y := .tmp 162) (pend2 := fun x134 => [⟨19, 30, p133, c_api_Prefix.val x134⟩, ⟨12, 3, (Addr.add p131 17), (cI .i64).val x132⟩, ⟨5, 3, (Addr.add p129 17), (cI .i64).val x130⟩]) Ty30 (fun _ => rfl) (fun x134 => ?_)
      refine OJ.go 2 [(165, .int .i64 s10), (164, Sl.v r9)] ?_
      refine OJ.idxS (d := 166) (T := 51) (y := .tmp 164) (j := .tmp 165) (E := 28) (cap := r9.cap) (k := .i64) (fun p135 => ?_)
      refine OJ.ld (d := 167) (y := .tmp 166) (pend2 := fun x136 => [⟨23, 28, p135, c_api_IP.val x136⟩, ⟨19, 30, p133, c_api_Prefix.val x134⟩, ⟨12, 3, (Addr.add p131 17), (cI .i64).val x132⟩, ⟨5, 3, (Addr.add p129 17), (cI .i64).val x130⟩]) Ty28 (fun _ => rfl) (fun x136 => ?_)
      refine OJ.call (d := 168) (g := 22) (ats := #[30, 28]) (args := [.tmp 163, .tmp 167]) (owed := []) F22 (addr_Contains_ok x134 x136) (fun r137 => ?_)
      refine OW.nil ?_
      refine OJ.go 2 [(170, .bool (!r137)), (169, .bool (!r137))] ?_
      exact OJ.nil ⟨(Cov.mem (Cov.drop (List.mem_of_getElem? (i := 1) rfl) (Cov.drop (List.mem_of_getElem? (i := 0) rfl) (Cov.keep (List.mem_of_getElem? (i := 0) rfl) (Cov.keep (List.mem_of_getElem? (i := 1) rfl) Cov.nil))))), rfl, _, rfl, by kernel_rfl⟩
    · refine OJ.nil ?_
      refine SJ.cond (t := (.tmp 170)) (b := y138) Iff.rfl (fun hc139 => ?_) (fun hc139 => ?_)
      · refine SJ.sr 1 ?_
        refine OJ.go 1 [(4, .bool false)] ?_
        refine OJ.nil ?_
        exact SJ.ret rfl (Res.run (ys := [.bool false]) (.tmp (by kernel_rfl) .nil) rfl)
      · refine SJ.skip ?_
        refine SJ.inBlock ?_
        refine SJ.rg 3 ?_
        refine OJ.go 3 [(14, .int .i64 (IntKind.wrap .i64 (s116 + 1))), (143, .int .i64 (IntKind.wrap .i64 (s116 + 1))), (142, .int .i64 s116)] ?_
        refine OJ.nil ?_
        exact SJ.at_ [1, 5, 6, 7, 13, 14] rfl
  · refine SJ.exit (id := 4) (by rfl) ?_
    refine SJ.inBlock ?_
    refine SJ.rg 3 ?_
    refine OJ.go 3 [(7, .int .i64 (IntKind.wrap .i64 (s10 + 1))), (51, .int .i64 (IntKind.wrap .i64 (s10 + 1))), (50, .int .i64 s10)] ?_
    refine OJ.nil ?_
    exact SJ.at_ [1, 5, 6, 7] rfl
noncomputable def weirlaw14_RouteLongest.K1 (r4 : ((Option Addr) × Sl)) (r9 : Sl) (s10 : Int) (r87 : (api_Route × Bool)) (s89 : Int) (s90 : Bool) : M (LS Int Bool) :=
  idx r9.a r9.len s10 17 >>= fun p106 =>
  ld c_api_IP p106 >>= fun x107 =>
  route_Table_Matches r4.1 x107 >>= fun r108 =>
  draw >>= fun _ =>
  (if ¬ (r87.2 = s90) then
      pure true
    else
      (if ¬ (r87.2 = true) then
          pure (!eqv r87.1 z_api_Route)
        else
          pure false) >>= fun y109 =>
      pure y109) >>= fun y110 =>
  (if y110 = true then
      pure true
    else
      pure ((r108.len : Int) != s89)) >>= fun y111 =>
  (if y111 = true then
      pure true
    else
      (if s89 > 0 then
          idx r108.a r108.len 0 36 >>= fun p112 =>
          ld c_api_Route p112 >>= fun x113 =>
          pure (!eqv x113 r87.1)
        else
          pure false) >>= fun y114 =>
      pure y114) >>= fun y115 =>
  if y115 = true then
    pure (LS.done false)
  else
    loopM (fun s_ : Int => weirlaw14_RouteLongest.L2 r9 s10 r108 s_) 1
theorem weirlaw14_RouteLongest.K1_ok (r4 : ((Option Addr) × Sl)) (r9 : Sl) (s10 : Int) (r87 : (api_Route × Bool)) (b88 : Nat) (s89 : Int) (s90 : Bool) :
    SJ weirlaw14_RouteLongest.cx [.code (c2 (c2 (c2 (c2 (c1 (c1 (c2 (c1 (c1 (c2 (c1 (c2 (c2 (c2 (c2 weirlaw14_RouteLongest.B))))))))))))))), .inBlock 1, .code (c2 (c2 (c1 (c1 (c2 (c1 (c2 (c2 (c2 (c2 weirlaw14_RouteLongest.B)))))))))), .inLoop (c1 (c1 (c2 (c1 (c2 (c2 (c2 (c2 weirlaw14_RouteLongest.B)))))))), .inBlock 0, .code (c2 (c2 (c2 (c2 (c2 weirlaw14_RouteLongest.B)))))] [(1, Sl.v r9), (5, .pointer r4.1), (6, Sl.v r4.2), (7, .int .i64 s10), (8, .pointer (some (pt b88 0))), (9, .bool r87.2), (10, .int .i64 s89), (11, .bool s90)] [(b88, c_api_Route.enc r87.1)] (weirlaw14_RouteLongest.K1 r4 r9 s10 r87 s89 s90) (weirlaw14_RouteLongest.F1 r4 r9) := by
  unfold weirlaw14_RouteLongest.K1
  refine SJ.sr 7 ?_
  refine OJ.go 3 [(105, .int .i64 s10), (104, Sl.v r9), (103, .pointer r4.1)] ?_
  refine OJ.idxS (d := 106) (T := 51) (y := .tmp 104) (j := .tmp 105) (E := 28) (cap := r9.cap) (k := .i64) (fun p106 => ?_)
  refine OJ.ld (d := 107) (y := .tmp 106) (pend2 := fun x107 => []) Ty28 (fun _ => rfl) (fun x107 => ?_)
  refine OJ.call (d := 108) (g := 19) (ats := #[22, 28]) (args := [.tmp 103, .tmp 107]) (owed := []) F19 (route_Table_Matches_ok r4.1 x107) (fun r108 => ?_)
  refine OW.nil ?_
  refine OJ.go 1 [(13, Sl.v r108)] ?_
  refine OJ.nil ?_
  refine SJ.seq ?_
  refine SJ.seq ?_
  refine SJ.draw (id := 20) (kd := [0, 0, 0, 0, 0, 0, 0, 1, 0, 0, 0, 0, 0, 0, 0, 0, 0, 0, 0, 0, 0, 0, 0, 0, 1, 1, 0, 0, 0]) (bef := [0, 0, 3, 7, 15, 31, 63, 127, 127, 511, 1023, 2047, 4095, 8191, 16383, 8191, 65535, 131071, 262143, 524287, 1048575, 2097151, 4194303, 8388607, 16777215, 4194303, 67108863, 134217727, 268435455]) (ord := [0, 1, 2, 3, 4, 5, 6, 7, 8, 9, 10, 11, 12, 13, 14, 15, 16, 17, 18, 19, 20, 21, 22, 23, 24, 25, 26, 27, 28]) mixed ?_
  refine OJ.go 4 [(112, .bool (!(r87.2 == s90))), (111, .bool (!(r87.2 == s90))), (110, .bool s90), (109, .bool r87.2)] ?_
  refine OJ.join (b := (!(r87.2 == s90))) [4, 5, 6, 7, 8, 9, 10, 11] [12, 13, 14, 15, 16, 17, 18, 19, 20, 21, 22, 23, 24, 25, 26, 27, 28] [1, 5, 6, 7, 8, 10, 13, 120] (fun y110 => [(1, Sl.v r9), (5, .pointer r4.1), (6, Sl.v r4.2), (7, .int .i64 s10), (8, .pointer (some (pt b88 0))), (10, .int .i64 s89), (13, Sl.v r108), (120, .bool y110)]) [⟨7, 32, (pt b88 0), c_api_Route.val r87.1⟩] [] (t := 112) (bnot_iff beq_iff_eq) (fun hp_ => ?_) (fun hp_ => ?_) (fun _ _ _ _ _ _ h_ => h_) (fun y110 => ?_)
  · refine OJ.go 8 [(120, .bool true), (119, undef), (118, undef), (117, undef), (116, undef), (115, undef), (114, undef), (113, undef)] ?_
    exact OJ.nil ⟨(Cov.mem Cov.nil), rfl, _, rfl, by kernel_rfl⟩
  · refine OJ.go 3 [(115, .bool (!r87.2)), (114, .bool (!r87.2)), (113, .bool r87.2)] ?_
    refine OJ.join (b := (!r87.2)) [7, 8, 9, 10] [11] [1, 5, 6, 7, 8, 10, 13, 112, 119] (fun y109 => [(1, Sl.v r9), (5, .pointer r4.1), (6, Sl.v r4.2), (7, .int .i64 s10), (8, .pointer (some (pt b88 0))), (10, .int .i64 s89), (13, Sl.v r108), (112, .bool false), (119, .bool y109)]) [⟨7, 32, (pt b88 0), c_api_Route.val r87.1⟩] [] (t := 115) (bnot_iff Iff.rfl) (fun hp_ => ?_) (fun hp_ => ?_) (fun _ _ _ _ _ hq_ h_ => ⟨fun e_ he_ => (hq_ e_ he_).elim (fun h => h_.1 e_ h) (fun h => nomatch h), h_.2⟩) (fun y109 => ?_)
    · refine OJ.kld (d := 116) (y := .tmp 8) (cd := c_api_Route) (j := 0) (b := b88) (o := 0) r87.1 (pend2 := [⟨7, 32, (pt b88 0), c_api_Route.val r87.1⟩]) Ty32 rfl (At.whole _) rfl ?_
      refine OJ.build (d := 117) (T := 32) (parts := []) (ps := []) (cd := c_api_Route) (z0 := z_api_Route) z_api_Route Ty32 rfl Filled.nil ?_
      refine OJ.neq (d := 118) (T := 32) (yT := 32) (y := .tmp 116) (z := .tmp 117) (cd := c_api_Route) (p := r87.1) (q := z_api_Route) rfl Eq32 ?_
      refine OJ.go 1 [(119, .bool (!eqv r87.1 z_api_Route))] ?_
      exact OJ.nil ⟨(Cov.mem (Cov.keep (List.mem_of_getElem? (i := 0) rfl) Cov.nil)), rfl, _, rfl, by kernel_rfl⟩
    · refine OJ.go 4 [(119, .bool false), (118, undef), (117, undef), (116, undef)] ?_
      exact OJ.nil ⟨(Cov.mem Cov.nil), rfl, _, rfl, by kernel_rfl⟩
    · refine OJ.go 1 [(120, .bool y109)] ?_
      exact OJ.nil ⟨(Cov.mem (Cov.keep (List.mem_of_getElem? (i := 0) rfl) Cov.nil)), rfl, _, rfl, by kernel_rfl⟩
  · refine OJ.go 1 [(121, .bool y110)] ?_
    refine OJ.join (b := y110) [13, 14, 15, 16, 17] [18, 19, 20, 21, 22, 23, 24, 25, 26, 27, 28] [1, 5, 6, 7, 8, 10, 13, 126] (fun y111 => [(1, Sl.v r9), (5, .pointer r4.1), (6, Sl.v r4.2), (7, .int .i64 s10), (8, .pointer (some (pt b88 0))), (10, .int .i64 s89), (13, Sl.v r108), (126, .bool y111)]) [⟨7, 32, (pt b88 0), c_api_Route.val r87.1⟩] [] (t := 121) Iff.rfl (fun hp_ => ?_) (fun hp_ => ?_) (fun _ _ _ _ _ _ h_ => h_) (fun y111 => ?_)
    · refine OJ.go 5 [(126, .bool true), (125, undef), (124, undef), (123, undef), (122, undef)] ?_
      exact OJ.nil ⟨(Cov.mem (Cov.keep (List.mem_of_getElem? (i := 0) rfl) Cov.nil)), rfl, _, rfl, by kernel_rfl⟩
    · refine OJ.go 5 [(126, .bool ((r108.len : Int) != s89)), (125, .bool ((r108.len : Int) != s89)), (124, .int .i64 s89), (123, .int .i64 (r108.len : Int)), (122, Sl.v r108)] ?_
      exact OJ.nil ⟨(Cov.mem (Cov.keep (List.mem_of_getElem? (i := 0) rfl) Cov.nil)), rfl, _, rfl, by kernel_rfl⟩
    · refine OJ.go 1 [(127, .bool y111)] ?_
      refine OJ.join (b := y111) [19, 20, 21, 22, 23, 24, 25, 26, 27, 28] [] [1, 5, 6, 7, 13, 137] (fun y115 => [(1, Sl.v r9), (5, .pointer r4.1), (6, Sl.v r4.2), (7, .int .i64 s10), (13, Sl.v r108), (137, .bool y115)]) [⟨25, 32, (pt b88 0), c_api_Route.val r87.1⟩, ⟨7, 32, (pt b88 0), c_api_Route.val r87.1⟩] [24] (t := 127) Iff.rfl (fun hp_ => ?_) (fun hp_ => ?_) (fun _ _ _ _ _ _ h_ => h_) (fun y115 => ?_)
      · refine OJ.go 10 [(137, .bool true), (136, undef), (135, undef), (134, undef), (133, undef), (132, undef), (131, undef), (130, undef), (129, undef), (128, undef)] ?_
        exact OJ.nil ⟨(Cov.mem (Cov.keep (List.mem_of_getElem? (i := 1) rfl) Cov.nil)), rfl, _, rfl, by kernel_rfl⟩
      · refine OJ.go 3 [(130, .bool (decide (s89 > 0))), (129, .bool (decide (s89 > 0))), (128, .int .i64 s89)] ?_
        refine OJ.join (b := decide (s89 > 0)) [22, 23, 24, 25, 26, 27] [28] [1, 5, 6, 7, 13, 127, 136] (fun y114 => [(1, Sl.v r9), (5, .pointer r4.1), (6, Sl.v r4.2), (7, .int .i64 s10), (13, Sl.v r108), (127, .bool false), (136, .bool y114)]) [⟨25, 32, (pt b88 0), c_api_Route.val r87.1⟩, ⟨7, 32, (pt b88 0), c_api_Route.val r87.1⟩] [24] (t := 130) decide_eq_true_iff (fun hp_ => ?_) (fun hp_ => ?_) (fun _ _ _ _ _ hq_ h_ => ⟨fun e_ he_ => by rcases hq_ e_ he_ with h | h; exact h_.1 e_ h; exact .inr ((by decide : ∀ i ∈ [24], i ∈ [24]) _ h), h_.2⟩) (fun y114 => ?_)
        · refine OJ.go 1 [(131, Sl.v r108)] ?_
          refine OJ.idxS (d := 132) (T := 39) (y := .tmp 131) (j := .const (.int .i64 0)) (E := 32) (cap := r108.cap) (k := .i64) (fun p112 => ?_)
          refine OJ.ld (d := 133) (y := .tmp 132) (pend2 := fun x113 => [⟨24, 32, p112, c_api_Route.val x113⟩, ⟨7, 32, (pt b88 0), c_api_Route.val r87.1⟩]) Ty32 (fun _ => rfl) (fun x113 => ?_)
          refine OJ.kld (d := 134) (y := .tmp 8) (cd := c_api_Route) (j := 0) (b := b88) (o := 0) r87.1 (pend2 := [⟨25, 32, (pt b88 0), c_api_Route.val r87.1⟩, ⟨24, 32, p112, c_api_Route.val x113⟩, ⟨7, 32, (pt b88 0), c_api_Route.val r87.1⟩]) Ty32 rfl (At.whole _) rfl ?_
          refine OJ.neq (d := 135) (T := 32) (yT := 32) (y := .tmp 133) (z := .tmp 134) (cd := c_api_Route) (p := x113) (q := r87.1) rfl Eq32 ?_
          refine OJ.go 1 [(136, .bool (!eqv x113 r87.1))] ?_
          exact OJ.nil ⟨(Cov.mem (Cov.keep (List.mem_of_getElem? (i := 0) rfl) (Cov.drop (List.mem_of_getElem? (i := 0) rfl) (Cov.keep (List.mem_of_getElem? (i := 1) rfl) Cov.nil)))), rfl, _, rfl, by kernel_rfl⟩
        · refine OJ.go 6 [(136, .bool false), (135, undef), (134, undef), (133, undef), (132, undef), (131, undef)] ?_
          exact OJ.nil ⟨(Cov.mem (Cov.keep (List.mem_of_getElem? (i := 1) rfl) Cov.nil)), rfl, _, rfl, by kernel_rfl⟩
        · refine OJ.go 1 [(137, .bool y114)] ?_
          exact OJ.nil ⟨(Cov.mem (Cov.keep (List.mem_of_getElem? (i := 0) rfl) (Cov.keep (List.mem_of_getElem? (i := 1) rfl) Cov.nil))), rfl, _, rfl, by kernel_rfl⟩
      · refine OJ.nil ?_
        refine SJ.cond (t := (.tmp 137)) (b := y115) Iff.rfl (fun hc141 => ?_) (fun hc141 => ?_)
        · refine SJ.sr 1 ?_
          refine OJ.go 1 [(4, .bool false)] ?_
          refine OJ.nil ?_
          exact SJ.ret rfl (Res.run (ys := [.bool false]) (.tmp (by kernel_rfl) .nil) rfl)
        · refine SJ.skip ?_
          refine SJ.sr 1 ?_
          refine OJ.go 1 [(14, .int .i64 1)] ?_
          refine OJ.nil ?_
          refine SJ.block (id := 4) ?_
          refine SJ.forget (List.Sublist.cons _ List.Sublist.slnil) ?_
          exact SJ.loop (fun s_ : Int => [(1, Sl.v r9), (5, .pointer r4.1), (6, Sl.v r4.2), (7, .int .i64 s10), (13, Sl.v r108), (14, .int .i64 s_)]) (fun s_ : Int => []) [1, 5, 6, 7, 13, 14] rfl (fun _ _ => rfl) (fun s_ => weirlaw14_RouteLongest.L2_ok r4 r9 s10 r108 s_)
noncomputable def weirlaw14_RouteLongest.F3 (r4 : ((Option Addr) × Sl)) (r9 : Sl) (s10 : Int) (r87 : (api_Route × Bool)) (b88 : Nat) : (LS (Int × Bool × Int) (LS Int Bool)) → Reach := loopF [.inLoop (c1 (c1 (c2 (c1 (c2 (c2 (c2 (c1 (c1 (c2 (c1 (c1 (c2 (c1 (c2 (c2 (c2 (c2 weirlaw14_RouteLongest.B)))))))))))))))))), .inBlock 2, .code (c2 (c2 (c2 (c2 (c1 (c1 (c2 (c1 (c1 (c2 (c1 (c2 (c2 (c2 (c2 weirlaw14_RouteLongest.B))))))))))))))), .inBlock 1, .code (c2 (c2 (c1 (c1 (c2 (c1 (c2 (c2 (c2 (c2 weirlaw14_RouteLongest.B)))))))))), .inLoop (c1 (c1 (c2 (c1 (c2 (c2 (c2 (c2 weirlaw14_RouteLongest.B)))))))), .inBlock 0, .code (c2 (c2 (c2 (c2 (c2 weirlaw14_RouteLongest.B)))))] (fun s_ : (Int × Bool × Int) => [(1, Sl.v r9), (5, .pointer r4.1), (6, Sl.v r4.2), (7, .int .i64 s10), (8, .pointer (some (pt b88 0))), (9, .bool r87.2), (10, .int .i64 s_.1), (11, .bool s_.2.1), (12, .int .i64 s_.2.2)]) (fun s_ : (Int × Bool × Int) => [(b88, c_api_Route.enc r87.1)]) (weirlaw14_RouteLongest.F1 r4 r9)
noncomputable def weirlaw14_RouteLongest.L3 (r4 : ((Option Addr) × Sl)) (r9 : Sl) (s10 : Int) (r87 : (api_Route × Bool)) (s89 : Int) (s90 : Bool) (s91 : Int) : M (LS (Int × Bool × Int) (LS Int Bool)) :=
  if s91 < (r4.2.len : Int) then
    draw >>= fun _ =>
    idx r4.2.a r4.2.len s91 36 >>= fun p142 =>
    ld c_api_Prefix p142 >>= fun x143 =>
    idx r9.a r9.len s10 17 >>= fun p144 =>
    ld c_api_IP p144 >>= fun x145 =>
    addr_Contains x143 x145 >>= fun r146 =>
    if ¬ (r146 = true) then
      pure (LS.next (s89, s90, IntKind.wrap .i64 (s91 + 1)))
    else
      draw >>= fun _ =>
      (if s90 = true then
          pure true
        else
          idx r4.2.a r4.2.len s91 36 >>= fun p147 =>
          ld c_api_Route p147 >>= fun x148 =>
          pure (eqv x148 r87.1)) >>= fun y149 =>
      draw >>= fun _ =>
      (if ¬ (r87.2 = true) then
          pure true
        else
          idx r4.2.a r4.2.len s91 36 >>= fun p150 =>
          ld (cI .i64) (Addr.add p150 17) >>= fun x151 =>
          pure (decide (x151 > r87.1.Prefix.Len))) >>= fun y152 =>
      if y152 = true then
        pure (LS.done (LS.done false))
      else
        pure (LS.next (IntKind.wrap .i64 (s89 + 1), y149, IntKind.wrap .i64 (s91 + 1)))
  else
    (weirlaw14_RouteLongest.K1 r4 r9 s10 r87 s89 s90) >>= fun b => pure (LS.done b)
theorem weirlaw14_RouteLongest.L3_ok (r4 : ((Option Addr) × Sl)) (r9 : Sl) (s10 : Int) (r87 : (api_Route × Bool)) (b88 : Nat) (s89 : Int) (s90 : Bool) (s91 : Int) :
    SJ weirlaw14_RouteLongest.cx [.code (c1 (c1 (c2 (c1 (c2 (c2 (c2 (c1 (c1 (c2 (c1 (c1 (c2 (c1 (c2 (c2 (c2 (c2 weirlaw14_RouteLongest.B)))))))))))))))))), .inLoop (c1 (c1 (c2 (c1 (c2 (c2 (c2 (c1 (c1 (c2 (c1 (c1 (c2 (c1 (c2 (c2 (c2 (c2 weirlaw14_RouteLongest.B)))))))))))))))))), .inBlock 2, .code (c2 (c2 (c2 (c2 (c1 (c1 (c2 (c1 (c1 (c2 (c1 (c2 (c2 (c2 (c2 weirlaw14_RouteLongest.B))))))))))))))), .inBlock 1, .code (c2 (c2 (c1 (c1 (c2 (c1 (c2 (c2 (c2 (c2 weirlaw14_RouteLongest.B)))))))))), .inLoop (c1 (c1 (c2 (c1 (c2 (c2 (c2 (c2 weirlaw14_RouteLongest.B)))))))), .inBlock 0, .code (c2 (c2 (c2 (c2 (c2 weirlaw14_RouteLongest.B)))))] [(1, Sl.v r9), (5, .pointer r4.1), (6, Sl.v r4.2), (7, .int .i64 s10), (8, .pointer (some (pt b88 0))), (9, .bool r87.2), (10, .int .i64 s89), (11, .bool s90), (12, .int .i64 s91)] [(b88, c_api_Route.enc r87.1)] (weirlaw14_RouteLongest.L3 r4 r9 s10 r87 s89 s90 s91) (weirlaw14_RouteLongest.F3 r4 r9 s10 r87 b88) := by
  unfold weirlaw14_RouteLongest.L3
  refine SJ.seq ?_
  refine SJ.sr 4 ?_
  refine OJ.go 4 [(64, .bool (decide (s91 < (r4.2.len : Int)))), (63, .int .i64 (r4.2.len : Int)), (62, Sl.v r4.2), (61, .int .i64 s91)] ?_
  refine OJ.nil ?_
  refine SJ.cond (t := (.tmp 64)) (b := decide (s91 < (r4.2.len : Int))) decide_eq_true_iff (fun hc155 => ?_) (fun hc155 => ?_)
  · refine SJ.skip ?_
    refine SJ.seq ?_
    refine SJ.block (id := 3) ?_
    refine SJ.seq ?_
    refine SJ.seq ?_
    refine SJ.draw (id := 14) (kd := [0, 0, 0, 0, 1, 0, 0, 0, 1, 2, 0]) (bef := [0, 0, 3, 7, 15, 0, 0, 96, 224, 511, 1023]) (ord := [0, 1, 2, 3, 4, 5, 6, 7, 8, 9, 10]) mixed ?_
    refine OJ.go 2 [(68, .int .i64 s91), (67, Sl.v r4.2)] ?_
    refine OJ.idxS (d := 69) (T := 39) (y := .tmp 67) (j := .tmp 68) (E := 32) (cap := r4.2.cap) (k := .i64) (fun p142 => ?_)
    refine OJ.go 1 [(70, .pointer (some p142))] ?_
    refine OJ.ld (d := 71) (y := .tmp 70) (pend2 := fun x143 => [⟨4, 30, p142, c_api_Prefix.val x143⟩]) Ty30 (fun _ => rfl) (fun x143 => ?_)
    refine OJ.go 2 [(73, .int .i64 s10), (72, Sl.v r9)] ?_
    refine OJ.idxS (d := 74) (T := 51) (y := .tmp 72) (j := .tmp 73) (E := 28) (cap := r9.cap) (k := .i64) (fun p144 => ?_)
    refine OJ.ld (d := 75) (y := .tmp 74) (pend2 := fun x145 => [⟨8, 28, p144, c_api_IP.val x145⟩, ⟨4, 30, p142, c_api_Prefix.val x143⟩]) Ty28 (fun _ => rfl) (fun x145 => ?_)
    refine OJ.call (d := 76) (g := 22) (ats := #[30, 28]) (args := [.tmp 71, .tmp 75]) (owed := []) F22 (addr_Contains_ok x143 x145) (fun r146 => ?_)
    refine OW.nil ?_
    refine OJ.go 1 [(77, .bool (!r146))] ?_
    refine OJ.nil ?_
    refine SJ.cond (t := (.tmp 77)) (b := (!r146)) (bnot_iff Iff.rfl) (fun hc154 => ?_) (fun hc154 => ?_)
    · refine SJ.exit (id := 3) (by rfl) ?_
      refine SJ.rg 3 ?_
      refine OJ.go 3 [(12, .int .i64 (IntKind.wrap .i64 (s91 + 1))), (66, .int .i64 (IntKind.wrap .i64 (s91 + 1))), (65, .int .i64 s91)] ?_
      refine OJ.nil ?_
      exact SJ.at_ [1, 5, 6, 7, 8, 9, 10, 11, 12] rfl
    · refine SJ.skip ?_
      refine SJ.sr 3 ?_
      refine OJ.go 3 [(10, .int .i64 (IntKind.wrap .i64 (s89 + 1))), (79, .int .i64 (IntKind.wrap .i64 (s89 + 1))), (78, .int .i64 s89)] ?_
      refine OJ.nil ?_
      refine SJ.seq ?_
      refine SJ.draw (id := 16) (kd := [0, 0, 0, 0, 0, 1, 1, 0, 0, 0]) (bef := [0, 1, 3, 3, 15, 31, 3, 127, 255, 511]) (ord := [0, 1, 2, 3, 4, 5, 6, 7, 8, 9]) mixed ?_
      refine OJ.go 2 [(81, .bool s90), (80, .bool s90)] ?_
      refine OJ.join (b := s90) [2, 3, 4, 5, 6, 7, 8] [9] [1, 5, 6, 7, 8, 9, 10, 11, 12, 88] (fun y149 => [(1, Sl.v r9), (5, .pointer r4.1), (6, Sl.v r4.2), (7, .int .i64 s10), (8, .pointer (some (pt b88 0))), (9, .bool r87.2), (10, .int .i64 (IntKind.wrap .i64 (s89 + 1))), (11, .bool s90), (12, .int .i64 s91), (88, .bool y149)]) [⟨6, 32, (pt b88 0), c_api_Route.val r87.1⟩] [5] (t := 81) Iff.rfl (fun hp_ => ?_) (fun hp_ => ?_) (fun _ _ _ _ _ _ h_ => h_) (fun y149 => ?_)
      · refine OJ.go 7 [(88, .bool true), (87, undef), (86, undef), (85, undef), (84, undef), (83, undef), (82, undef)] ?_
        exact OJ.nil ⟨(Cov.mem Cov.nil), rfl, _, rfl, by kernel_rfl⟩
      · refine OJ.go 2 [(83, .int .i64 s91), (82, Sl.v r4.2)] ?_
        refine OJ.idxS (d := 84) (T := 39) (y := .tmp 82) (j := .tmp 83) (E := 32) (cap := r4.2.cap) (k := .i64) (fun p147 => ?_)
        refine OJ.ld (d := 85) (y := .tmp 84) (pend2 := fun x148 => [⟨5, 32, p147, c_api_Route.val x148⟩]) Ty32 (fun _ => rfl) (fun x148 => ?_)
        refine OJ.kld (d := 86) (y := .tmp 8) (cd := c_api_Route) (j := 0) (b := b88) (o := 0) r87.1 (pend2 := [⟨6, 32, (pt b88 0), c_api_Route.val r87.1⟩, ⟨5, 32, p147, c_api_Route.val x148⟩]) Ty32 rfl (At.whole _) rfl ?_
        refine OJ.eql (d := 87) (T := 32) (yT := 32) (y := .tmp 85) (z := .tmp 86) (cd := c_api_Route) (p := x148) (q := r87.1) rfl Eq32 ?_
        refine OJ.go 1 [(88, .bool (eqv x148 r87.1))] ?_
        exact OJ.nil ⟨(Cov.mem (Cov.keep (List.mem_of_getElem? (i := 0) rfl) (Cov.drop (List.mem_of_getElem? (i := 0) rfl) Cov.nil))), rfl, _, rfl, by kernel_rfl⟩
      · refine OJ.go 1 [(11, .bool y149)] ?_
        refine OJ.nil ?_
        refine SJ.seq ?_
        refine SJ.draw (id := 17) (kd := [0, 0, 0, 0, 0, 0, 0, 0, 1, 0, 0, 1, 0, 0]) (bef := [0, 1, 3, 7, 7, 31, 63, 127, 255, 7, 519, 1543, 4095, 8191]) (ord := [0, 1, 2, 3, 4, 5, 6, 7, 8, 9, 10, 11, 12, 13]) mixed ?_
        refine OJ.go 3 [(91, .bool (!r87.2)), (90, .bool (!r87.2)), (89, .bool r87.2)] ?_
        refine OJ.join (b := (!r87.2)) [3, 4, 5, 6, 7, 8, 9, 10, 11, 12, 13] [] [1, 5, 6, 7, 8, 9, 10, 11, 12, 102] (fun y152 => [(1, Sl.v r9), (5, .pointer r4.1), (6, Sl.v r4.2), (7, .int .i64 s10), (8, .pointer (some (pt b88 0))), (9, .bool r87.2), (10, .int .i64 (IntKind.wrap .i64 (s89 + 1))), (11, .bool y149), (12, .int .i64 s91), (102, .bool y152)]) [⟨11, 3, (pt b88 17), (cI .i64).val r87.1.Prefix.Len⟩] [8] (t := 91) (bnot_iff Iff.rfl) (fun hp_ => ?_) (fun hp_ => ?_) (fun _ _ _ _ _ _ h_ => h_) (fun y152 => ?_)
        · refine OJ.go 11 [(102, .bool true), (101, undef), (100, undef), (99, undef), (98, undef), (97, undef), (96, undef), (95, undef), (94, undef), (93, undef), (92, undef)] ?_
          exact OJ.nil ⟨(Cov.mem Cov.nil), rfl, _, rfl, by kernel_rfl⟩
        · refine OJ.go 2 [(93, .int .i64 s91), (92, Sl.v r4.2)] ?_
          refine OJ.idxS (d := 94) (T := 39) (y := .tmp 92) (j := .tmp 93) (E := 32) (cap := r4.2.cap) (k := .i64) (fun p150 => ?_)
          refine OJ.go 2 [(96, .pointer (some (Addr.add p150 17))), (95, .pointer (some p150))] ?_
          refine OJ.ld (d := 97) (y := .tmp 96) (pend2 := fun x151 => [⟨8, 3, (Addr.add p150 17), (cI .i64).val x151⟩]) Ty3 (fun _ => rfl) (fun x151 => ?_)
          refine OJ.go 2 [(99, .pointer (some (pt b88 17))), (98, .pointer (some (pt b88 0)))] ?_
          refine OJ.kld (d := 100) (y := .tmp 99) (cd := (cI .i64)) (j := 0) (b := b88) (o := 17) r87.1.Prefix.Len (pend2 := [⟨11, 3, (pt b88 17), (cI .i64).val r87.1.Prefix.Len⟩, ⟨8, 3, (Addr.add p150 17), (cI .i64).val x151⟩]) Ty3 rfl (At.trans (At_api_Route_Prefix r87.1) (At_api_Prefix_Len r87.1.Prefix)) rfl ?_
          refine OJ.go 2 [(102, .bool (decide (x151 > r87.1.Prefix.Len))), (101, .bool (decide (x151 > r87.1.Prefix.Len)))] ?_
          exact OJ.nil ⟨(Cov.mem (Cov.keep (List.mem_of_getElem? (i := 0) rfl) (Cov.drop (List.mem_of_getElem? (i := 0) rfl) Cov.nil))), rfl, _, rfl, by kernel_rfl⟩
        · refine OJ.nil ?_
          refine SJ.cond (t := (.tmp 102)) (b := y152) Iff.rfl (fun hc153 => ?_) (fun hc153 => ?_)
          · refine SJ.sr 1 ?_
            refine OJ.go 1 [(4, .bool false)] ?_
            refine OJ.nil ?_
            exact SJ.ret rfl (Res.run (ys := [.bool false]) (.tmp (by kernel_rfl) .nil) rfl)
          · refine SJ.skip ?_
            refine SJ.inBlock ?_
            refine SJ.rg 3 ?_
            refine OJ.go 3 [(12, .int .i64 (IntKind.wrap .i64 (s91 + 1))), (66, .int .i64 (IntKind.wrap .i64 (s91 + 1))), (65, .int .i64 s91)] ?_
            refine OJ.nil ?_
            exact SJ.at_ [1, 5, 6, 7, 8, 9, 10, 11, 12] rfl
  · refine SJ.exit (id := 2) (by rfl) ?_
    refine SJ.less [1, 5, 6, 7, 8, 9, 10, 11] (m' := [(1, Sl.v r9), (5, .pointer r4.1), (6, Sl.v r4.2), (7, .int .i64 s10), (8, .pointer (some (pt b88 0))), (9, .bool r87.2), (10, .int .i64 s89), (11, .bool s90)]) ?_
    refine SJ.done ?_
    exact weirlaw14_RouteLongest.K1_ok r4 r9 s10 r87 b88 s89 s90
noncomputable def weirlaw14_RouteLongest.L1 (r4 : ((Option Addr) × Sl)) (r9 : Sl) (s10 : Int) : M (LS Int Bool) :=
  (if s10 < (r9.len : Int) then
      pure (decide (s10 < 60))
    else
      pure false) >>= fun y84 =>
  if y84 = true then
    idx r9.a r9.len s10 17 >>= fun p85 =>
    ld c_api_IP p85 >>= fun x86 =>
    route_Table_Find r4.1 x86 >>= fun r87 =>
    slot 32 >>= fun b88 =>
    loopM (fun s_ : (Int × Bool × Int) => weirlaw14_RouteLongest.L3 r4 r9 s10 r87 s_.1 s_.2.1 s_.2.2) (0, false, 0)
  else
    pure (LS.done true)
theorem weirlaw14_RouteLongest.L1_ok (r4 : ((Option Addr) × Sl)) (r9 : Sl) (s10 : Int) :
    SJ weirlaw14_RouteLongest.cx [.code (c1 (c1 (c2 (c1 (c2 (c2 (c2 (c2 weirlaw14_RouteLongest.B)))))))), .inLoop (c1 (c1 (c2 (c1 (c2 (c2 (c2 (c2 weirlaw14_RouteLongest.B)))))))), .inBlock 0, .code (c2 (c2 (c2 (c2 (c2 weirlaw14_RouteLongest.B)))))] [(1, Sl.v r9), (5, .pointer r4.1), (6, Sl.v r4.2), (7, .int .i64 s10)] [] (weirlaw14_RouteLongest.L1 r4 r9 s10) (weirlaw14_RouteLongest.F1 r4 r9) := by
  unfold weirlaw14_RouteLongest.L1
  refine SJ.seq ?_
  refine SJ.sr 8 ?_
  refine OJ.go 5 [(46, .bool (decide (s10 < (r9.len : Int)))), (45, .bool (decide (s10 < (r9.len : Int)))), (44, .int .i64 (r9.len : Int)), (43, Sl.v r9), (42, .int .i64 s10)] ?_
  refine OJ.join (b := decide (s10 < (r9.len : Int))) [5, 6, 7] [] [1, 5, 6, 7, 49] (fun y84 => [(1, Sl.v r9), (5, .pointer r4.1), (6, Sl.v r4.2), (7, .int .i64 s10), (49, .bool y84)]) [] [] (t := 46) decide_eq_true_iff (fun hp_ => ?_) (fun hp_ => ?_) (fun _ _ _ _ _ _ h_ => h_) (fun y84 => ?_)
  · refine OJ.go 3 [(49, .bool (decide (s10 < 60))), (48, .bool (decide (s10 < 60))), (47, .int .i64 s10)] ?_
    exact OJ.nil ⟨(Cov.mem Cov.nil), rfl, _, rfl, by kernel_rfl⟩
  · refine OJ.go 3 [(49, .bool false), (48, undef), (47, undef)] ?_
    exact OJ.nil ⟨(Cov.mem Cov.nil), rfl, _, rfl, by kernel_rfl⟩
  · refine OJ.nil ?_
    refine SJ.cond (t := (.tmp 49)) (b := y84) Iff.rfl (fun hc156 => ?_) (fun hc156 => ?_)
    · refine SJ.skip ?_
      refine SJ.seq ?_
      refine SJ.block (id := 1) ?_
      refine SJ.sr 12 ?_
      refine OJ.go 3 [(55, .int .i64 s10), (54, Sl.v r9), (53, .pointer r4.1)] ?_
      refine OJ.idxS (d := 56) (T := 51) (y := .tmp 54) (j := .tmp 55) (E := 28) (cap := r9.cap) (k := .i64) (fun p85 => ?_)
      refine OJ.ld (d := 57) (y := .tmp 56) (pend2 := fun x86 => []) Ty28 (fun _ => rfl) (fun x86 => ?_)
      refine OJ.call (d := 58) (g := 14) (ats := #[22, 28]) (args := [.tmp 53, .tmp 57]) (owed := []) F14 (route_Table_Find_ok r4.1 x86) (fun r87 => ?_)
      refine OW.nil ?_
      refine OJ.go 3 [(60, .bool r87.2), (59, c_api_Route.val r87.1), (52, .tuple #[c_api_Route.val r87.1, .bool r87.2])] ?_
      refine OJ.slotOf (d := 8) (op := (.alloc 32)) (cd := c_api_Route) (u := z_api_Route) (owed := []) (alloc_run Ty32) (fun b88 => ?_)
      refine OW.nil ?_
      refine OJ.kst (y := .tmp 8) (z := .tmp 59) (cd := c_api_Route) (u := r87.1) (j := 0) (b := b88) (o := 0) (c_api_Route.enc r87.1) (owed := []) Ty32 rfl (Upd.whole ((Cod.len _ _).trans (Cod.len _ _).symm)) rfl ?_
      refine OW.nil ?_
      refine OJ.go 1 [(9, .bool r87.2)] ?_
      refine OJ.nil ?_
      refine SJ.sr 1 ?_
      refine OJ.go 1 [(10, .int .i64 0)] ?_
      refine OJ.nil ?_
      refine SJ.sr 1 ?_
      refine OJ.go 1 [(11, .bool false)] ?_
      refine OJ.nil ?_
      refine SJ.seq ?_
      refine SJ.sr 1 ?_
      refine OJ.go 1 [(12, .int .i64 0)] ?_
      refine OJ.nil ?_
      refine SJ.block (id := 2) ?_
      exact SJ.loop (fun s_ : (Int × Bool × Int) => [(1, Sl.v r9), (5, .pointer r4.1), (6, Sl.v r4.2), (7, .int .i64 s10), (8, .pointer (some (pt b88 0))), (9, .bool r87.2), (10, .int .i64 s_.1), (11, .bool s_.2.1), (12, .int .i64 s_.2.2)]) (fun s_ : (Int × Bool × Int) => [(b88, c_api_Route.enc r87.1)]) [1, 5, 6, 7, 8, 9, 10, 11, 12] rfl (fun _ _ => rfl) (fun s_ => weirlaw14_RouteLongest.L3_ok r4 r9 s10 r87 b88 s_.1 s_.2.1 s_.2.2)
    · refine SJ.exit (id := 0) (by rfl) ?_
      refine SJ.sr 1 ?_
      refine OJ.go 1 [(4, .bool true)] ?_
      refine OJ.nil ?_
      exact SJ.ret rfl (Res.run (ys := [.bool true]) (.tmp (by kernel_rfl) .nil) rfl)
noncomputable def weirlaw14_RouteLongest (a0 : Sl) (a1 : Sl) : M Bool :=
  weirlaw14_route0 >>= fun r1 =>
  newv 32 (c_api_Route.arr 1) (⟨[r1], rfl⟩ : Vec api_Route 1) >>= fun b2 =>
  appS c_api_Route 32 64 z_api_Route (⟨some (pt b2 0), 1, 1⟩ : Sl) a0 >>= fun r3 =>
  weirlaw14_filled r3 >>= fun r4 =>
  (if r4.1 = none then
      pure true
    else
      pure ((r4.2.len : Int) == 0)) >>= fun y5 =>
  (if y5 = true then
      pure true
    else
      route_Table_Len r4.1 >>= fun r6 =>
      pure (r6 != (r4.2.len : Int))) >>= fun y7 =>
  if y7 = true then
    pure false
  else
    newv 28 (c_api_IP.arr 1) (⟨[(⟨4, (⟨[10, 1, 0, 0, 0, 0, 0, 0, 0, 0, 0, 0, 0, 0, 0, 0], rfl⟩ : (Vec Int 16))⟩ : api_IP)], rfl⟩ : Vec api_IP 1) >>= fun b8 =>
    appS c_api_IP 28 24 z_api_IP (⟨some (pt b8 0), 1, 1⟩ : Sl) a1 >>= fun r9 =>
    loopM (fun s_ : Int => weirlaw14_RouteLongest.L1 r4 r9 s_) 0
theorem weirlaw14_RouteLongest_ok (a0 : Sl) (a1 : Sl) : Ref Tryd.prog 5 [Sl.v a0, Sl.v a1] (weirlaw14_RouteLongest a0 a1) weirlaw14_RouteLongest.out := by
  refine Ref.of (cd := weirlaw14_RouteLongest.B) Tryd.func5 ?_
  show SJ weirlaw14_RouteLongest.cx [.code weirlaw14_RouteLongest.B] [(0, Sl.v a0), (1, Sl.v a1)] [] (weirlaw14_RouteLongest a0 a1) weirlaw14_RouteLongest.F0
  unfold weirlaw14_RouteLongest
  refine SJ.sr 1 ?_
  refine OJ.go 1 [(4, .bool false)] ?_
  refine OJ.nil ?_
  refine SJ.sr 10 ?_
  refine OJ.call (d := 16) (g := 16) (ats := #[]) (args := []) (owed := []) F16 (weirlaw14_route0_ok ) (fun r1 => ?_)
  refine OW.nil ?_
  refine OJ.rowNew (d := 17) (t := 39) (parts := [(0, .tmp 16)]) (ps := [(0, c_api_Route.val r1)]) (cd := c_api_Route) (owed := []) Ty32 (Filled.cons (cd := c_api_Route) (q := r1) (o := 0) rfl (Upd.arr (i := 0) (by decide) (by decide)) Filled.nil) (fun b2 => ?_)
  refine OW.nil ?_
  refine OJ.go 1 [(18, Sl.v a0)] ?_
  refine OJ.appS (d := 19) (t := 39) (u := 39) (so := .tmp 17) (xo := .tmp 18) (owed := []) Ty32 (fun r3 => ?_)
  refine OW.nil ?_
  refine OJ.call (d := 20) (g := 15) (ats := #[39]) (args := [.tmp 19]) (owed := []) F15 (weirlaw14_filled_ok r3) (fun r4 => ?_)
  refine OW.nil ?_
  refine OJ.go 5 [(6, Sl.v r4.2), (5, .pointer r4.1), (22, Sl.v r4.2), (21, .pointer r4.1), (15, .tuple #[.pointer r4.1, Sl.v r4.2])] ?_
  refine OJ.nil ?_
  refine SJ.seq ?_
  refine SJ.sr 14 ?_
  refine OJ.go 3 [(25, .bool (Option.isNone r4.1)), (24, .bool (Option.isNone r4.1)), (23, .pointer r4.1)] ?_
  refine OJ.join (b := (Option.isNone r4.1)) [3, 4, 5, 6] [7, 8, 9, 10, 11, 12, 13] [1, 5, 6, 29] (fun y5 => [(1, Sl.v a1), (5, .pointer r4.1), (6, Sl.v r4.2), (29, .bool y5)]) [] [] (t := 25) Option.isNone_iff_eq_none (fun hp_ => ?_) (fun hp_ => ?_) (fun _ _ _ _ _ _ h_ => h_) (fun y5 => ?_)
  · refine OJ.go 4 [(29, .bool true), (28, undef), (27, undef), (26, undef)] ?_
    exact OJ.nil ⟨(Cov.mem Cov.nil), rfl, _, rfl, by kernel_rfl⟩
  · refine OJ.go 4 [(29, .bool ((r4.2.len : Int) == 0)), (28, .bool ((r4.2.len : Int) == 0)), (27, .int .i64 (r4.2.len : Int)), (26, Sl.v r4.2)] ?_
    exact OJ.nil ⟨(Cov.mem Cov.nil), rfl, _, rfl, by kernel_rfl⟩
  · refine OJ.go 1 [(30, .bool y5)] ?_
    refine OJ.join (b := y5) [8, 9, 10, 11, 12, 13] [] [1, 5, 6, 36] (fun y7 => [(1, Sl.v a1), (5, .pointer r4.1), (6, Sl.v r4.2), (36, .bool y7)]) [] [] (t := 30) Iff.rfl (fun hp_ => ?_) (fun hp_ => ?_) (fun _ _ _ _ _ _ h_ => h_) (fun y7 => ?_)
    · refine OJ.go 6 [(36, .bool true), (35, undef), (34, undef), (33, undef), (32, undef), (31, undef)] ?_
      exact OJ.nil ⟨(Cov.mem Cov.nil), rfl, _, rfl, by kernel_rfl⟩
    · refine OJ.go 1 [(31, .pointer r4.1)] ?_
      refine OJ.call (d := 32) (g := 12) (ats := #[22]) (args := [.tmp 31]) (owed := []) F12 (route_Table_Len_ok r4.1) (fun r6 => ?_)
      refine OW.nil ?_
      refine OJ.go 4 [(36, .bool (r6 != (r4.2.len : Int))), (35, .bool (r6 != (r4.2.len : Int))), (34, .int .i64 (r4.2.len : Int)), (33, Sl.v r4.2)] ?_
      exact OJ.nil ⟨(Cov.mem Cov.nil), rfl, _, rfl, by kernel_rfl⟩
    · refine OJ.nil ?_
      refine SJ.cond (t := (.tmp 36)) (b := y7) Iff.rfl (fun hc157 => ?_) (fun hc157 => ?_)
      · refine SJ.sr 1 ?_
        refine OJ.go 1 [(4, .bool false)] ?_
        refine OJ.nil ?_
        exact SJ.ret rfl (Res.run (ys := [.bool false]) (.tmp (by kernel_rfl) .nil) rfl)
      · refine SJ.skip ?_
        refine SJ.sr 6 ?_
        refine OJ.build (d := 37) (T := 26) (parts := [(0, .const (.int .u8 10)), (1, .const (.int .u8 1))]) (ps := [(0, (cI .u8).val 10), (1, (cI .u8).val 1)]) (cd := ((cI .u8).arr 16)) (z0 := (Vec.rep 16 0)) (⟨[10, 1, 0, 0, 0, 0, 0, 0, 0, 0, 0, 0, 0, 0, 0, 0], rfl⟩ : (Vec Int 16)) Ty26 rfl (Filled.cons (cd := (cI .u8)) (q := 10) (o := 0) (by kernel_rfl) (Upd.arr (i := 0) (by decide) (by decide)) (Filled.cons (cd := (cI .u8)) (q := 1) (o := 1) (by kernel_rfl) (Upd.arr (i := 1) (by decide) (by decide)) Filled.nil)) ?_
        refine OJ.build (d := 38) (T := 28) (parts := [(0, .const (.int .i64 4)), (1, .tmp 37)]) (ps := [(0, (cI .i64).val 4), (1, ((cI .u8).arr 16).val (⟨[10, 1, 0, 0, 0, 0, 0, 0, 0, 0, 0, 0, 0, 0, 0, 0], rfl⟩ : (Vec Int 16)))]) (cd := c_api_IP) (z0 := z_api_IP) (⟨4, (⟨[10, 1, 0, 0, 0, 0, 0, 0, 0, 0, 0, 0, 0, 0, 0, 0], rfl⟩ : (Vec Int 16))⟩ : api_IP) Ty28 rfl (Filled.cons (cd := (cI .i64)) (q := 4) (o := 0) (by kernel_rfl) (Up_api_IP_V z_api_IP 4) (Filled.cons (cd := ((cI .u8).arr 16)) (q := (⟨[10, 1, 0, 0, 0, 0, 0, 0, 0, 0, 0, 0, 0, 0, 0, 0], rfl⟩ : (Vec Int 16))) (o := 1) (by kernel_rfl) (Up_api_IP_A (⟨4, z_api_IP.A⟩ : api_IP) (⟨[10, 1, 0, 0, 0, 0, 0, 0, 0, 0, 0, 0, 0, 0, 0, 0], rfl⟩ : (Vec Int 16))) Filled.nil)) ?_
        refine OJ.rowNew (d := 39) (t := 51) (parts := [(0, .tmp 38)]) (ps := [(0, c_api_IP.val (⟨4, (⟨[10, 1, 0, 0, 0, 0, 0, 0, 0, 0, 0, 0, 0, 0, 0, 0], rfl⟩ : (Vec Int 16))⟩ : api_IP))]) (cd := c_api_IP) (owed := []) Ty28 (Filled.cons (cd := c_api_IP) (q := (⟨4, (⟨[10, 1, 0, 0, 0, 0, 0, 0, 0, 0, 0, 0, 0, 0, 0, 0], rfl⟩ : (Vec Int 16))⟩ : api_IP)) (o := 0) rfl (Upd.arr (i := 0) (by decide) (by decide)) Filled.nil) (fun b8 => ?_)
        refine OW.nil ?_
        refine OJ.go 1 [(40, Sl.v a1)] ?_
        refine OJ.appS (d := 41) (t := 51) (u := 51) (so := .tmp 39) (xo := .tmp 40) (owed := []) Ty28 (fun r9 => ?_)
        refine OW.nil ?_
        refine OJ.go 1 [(1, Sl.v r9)] ?_
        refine OJ.nil ?_
        refine SJ.seq ?_
        refine SJ.sr 1 ?_
        refine OJ.go 1 [(7, .int .i64 0)] ?_
        refine OJ.nil ?_
        refine SJ.block (id := 0) ?_
        exact SJ.loop (fun s_ : Int => [(1, Sl.v r9), (5, .pointer r4.1), (6, Sl.v r4.2), (7, .int .i64 s_)]) (fun s_ : Int => []) [1, 5, 6, 7] rfl (fun _ _ => rfl) (fun s_ => weirlaw14_RouteLongest.L1_ok r4 r9 s_)

/-! ### (*weir/route.Table).Drop: function 13 -/
noncomputable def route_Table_Drop.B : Code := (Tryd.f13.body).getD .skip
noncomputable def route_Table_Drop.cx : Fx := ⟨Tryd.prog, 13, Tryd.f13, none⟩
noncomputable def route_Table_Drop.out (r_ : Bool) : Value := .bool r_
noncomputable def route_Table_Drop.F0 (r_ : Bool) : Reach := .ret (route_Table_Drop.out r_)
noncomputable def route_Table_Drop.K1 (a0 : (Option Addr)) (a1 : api_Prefix) (j12 : Bool) : M Bool :=
  draw >>= fun _ =>
  nilck a0 >>= fun p13 =>
  ld cM p13 >>= fun x14 =>
  mdel c_api_Prefix c_api_Route x14 a1 >>= fun _ =>
  pure j12
theorem route_Table_Drop.K1_ok (a0 : (Option Addr)) (a1 : api_Prefix) (b1 : Nat) (j12 : Bool) :
    SJ route_Table_Drop.cx [.code (c2 (c2 route_Table_Drop.B))] [(0, .pointer a0), (3, .pointer (some (pt b1 0))), (6, .bool j12)] [(b1, c_api_Prefix.enc a1)] (route_Table_Drop.K1 a0 a1 j12) route_Table_Drop.F0 := by
  unfold route_Table_Drop.K1
  refine SJ.seq ?_
  refine SJ.draw (id := 2) (kd := [0, 0, 0, 1, 1, 2]) (bef := [0, 1, 3, 7, 0, 31]) (ord := [0, 1, 2, 3, 4, 5]) mixed ?_
  refine OJ.go 1 [(16, .pointer a0)] ?_
  refine OJ.nilck (d := 17) (y := .tmp 16) (fun p13 => ?_)
  refine OJ.go 1 [(18, .pointer (some p13))] ?_
  refine OJ.ld (d := 19) (y := .tmp 18) (pend2 := fun x14 => [⟨3, 79, p13, cM.val x14⟩]) Ty79 (fun _ => rfl) (fun x14 => ?_)
  refine OJ.kld (d := 20) (y := .tmp 3) (cd := c_api_Prefix) (j := 0) (b := b1) (o := 0) a1 (pend2 := [⟨4, 30, (pt b1 0), c_api_Prefix.val a1⟩, ⟨3, 79, p13, cM.val x14⟩]) Ty30 rfl (At.whole _) rfl ?_
  refine OJ.mdel (uT := 30) (x := .tmp 19) (y := .tmp 20) (owed := []) Kt79 ?_
  refine OW.nil ?_
  refine OJ.nil ?_
  refine SJ.sr 2 ?_
  refine OJ.go 2 [(4, .bool j12), (21, .bool j12)] ?_
  refine OJ.nil ?_
  exact SJ.ret rfl (Res.run (ys := [.bool j12]) (.tmp (by kernel_rfl) .nil) rfl)
noncomputable def route_Table_Drop (a0 : (Option Addr)) (a1 : api_Prefix) : M Bool :=
  slot 30 >>= fun b1 =>
  draws 13 1 (opsOf (c1 (c2 route_Table_Drop.B))) >>= fun o2 =>
  if bfr o2 5 9 = true then
    nilck a0 >>= fun p16 =>
    ld cM p16 >>= fun x17 =>
    mget c_api_Prefix c_api_Route z_api_Route x17 a1 >>= fun r18 =>
    slot 32 >>= fun b19 =>
    same cM p16 x17 >>= fun _ =>
    route_Table_Drop.K1 a0 a1 r18.2
  else
    nilck a0 >>= fun p20 =>
    ld cM p20 >>= fun x21 =>
    slot 32 >>= fun b22 =>
    same cM p20 x21 >>= fun _ =>
    mget c_api_Prefix c_api_Route z_api_Route x21 a1 >>= fun r23 =>
    route_Table_Drop.K1 a0 a1 r23.2
theorem route_Table_Drop_ok (a0 : (Option Addr)) (a1 : api_Prefix) : Ref Tryd.prog 13 [.pointer a0, c_api_Prefix.val a1] (route_Table_Drop a0 a1) route_Table_Drop.out := by
  refine Ref.of (cd := route_Table_Drop.B) Tryd.func13 ?_
  show SJ route_Table_Drop.cx [.code route_Table_Drop.B] [(0, .pointer a0), (1, c_api_Prefix.val a1)] [] (route_Table_Drop a0 a1) route_Table_Drop.F0
  unfold route_Table_Drop
  refine SJ.sr 2 ?_
  refine OJ.slotOf (d := 3) (op := (.box 30 (.tmp 1))) (cd := c_api_Prefix) (u := a1) (owed := []) (box_run (by kernel_rfl)) (fun b1 => ?_)
  refine OW.nil ?_
  refine OJ.go 1 [(4, .bool false)] ?_
  refine OJ.nil ?_
  refine SJ.seq ?_
  refine SJ.draws (id := 1) (kd := [0, 0, 0, 1, 1, 2, 0, 0, 0, 2, 2, 0]) (bef := [0, 1, 3, 7, 0, 31, 63, 127, 127, 0, 767, 2047]) (ord := [0, 1, 2, 3, 4, 5, 6, 7, 8, 9, 10, 11]) (E := [(5, 9)]) mixed (fun o2 hg_ => ?_)
  refine SJ.bfr hg_ (by decide) (fun ho15 => ?_) (fun ho15 => ?_)
  · refine SJ.leaf hg_ (kd := [0, 0, 0, 1, 1, 2, 0, 0, 0, 2, 2, 0]) (bef := [0, 1, 3, 7, 0, 31, 63, 127, 127, 0, 767, 2047]) (ord := [0, 1, 2, 3, 4, 5, 6, 7, 8, 9, 10, 11]) (E := [(5, 9)]) (allB.cons ho15 allB.nil) ?_
    refine OJ.go 1 [(8, .pointer a0)] ?_
    refine OJ.nilck (d := 9) (y := .tmp 8) (fun p16 => ?_)
    refine OJ.go 1 [(10, .pointer (some p16))] ?_
    refine OJ.ld (d := 11) (y := .tmp 10) (pend2 := fun x17 => [⟨3, 79, p16, cM.val x17⟩]) Ty79 (fun _ => rfl) (fun x17 => ?_)
    refine OJ.kld (d := 12) (y := .tmp 3) (cd := c_api_Prefix) (j := 0) (b := b1) (o := 0) a1 (pend2 := [⟨4, 30, (pt b1 0), c_api_Prefix.val a1⟩, ⟨3, 79, p16, cM.val x17⟩]) Ty30 rfl (At.whole _) rfl ?_
    refine OJ.get1 (d := 13) (x := .tmp 11) (y := .tmp 12) (owed := []) Kt79 (fun r18 => ?_)
    refine OW.nil ?_
    refine OJ.go 3 [(15, .bool r18.2), (14, c_api_Route.val r18.1), (7, .tuple #[c_api_Route.val r18.1, .bool r18.2])] ?_
    refine OJ.slotOf (d := 5) (op := (.alloc 32)) (cd := c_api_Route) (u := z_api_Route) (owed := [⟨4, 30, (pt b1 0), c_api_Prefix.val a1⟩, ⟨3, 79, p16, cM.val x17⟩]) (alloc_run Ty32) (fun b19 => ?_)
    refine OW.known (j := 1) (q := a1) Ty30 rfl (At.whole _) ?_
    refine OW.same Ty79 ?_
    refine OW.nil ?_
    refine OJ.kst (y := .tmp 5) (z := .tmp 14) (cd := c_api_Route) (u := r18.1) (j := 0) (b := b19) (o := 0) (c_api_Route.enc r18.1) (owed := []) Ty32 rfl (Upd.whole ((Cod.len _ _).trans (Cod.len _ _).symm)) rfl ?_
    refine OW.nil ?_
    refine OJ.go 1 [(6, .bool r18.2)] ?_
    refine OJ.nil ?_
    refine SJ.forget (List.Sublist.cons _ (List.Sublist.cons_cons _ List.Sublist.slnil)) ?_
    refine SJ.less [0, 3, 6] (m' := [(0, .pointer a0), (3, .pointer (some (pt b1 0))), (6, .bool r18.2)]) ?_
    exact route_Table_Drop.K1_ok a0 a1 b1 r18.2
  · refine SJ.leaf hg_ (kd := [0, 0, 0, 1, 1, 2, 0, 0, 0, 2, 2, 0]) (bef := [0, 1, 3, 7, 0, 31, 63, 127, 127, 0, 767, 2047]) (ord := [0, 1, 2, 3, 4, 9, 5, 6, 7, 8, 10, 11]) (E := [(9, 5)]) (allB.cons ho15 allB.nil) ?_
    refine OJ.go 1 [(8, .pointer a0)] ?_
    refine OJ.nilck (d := 9) (y := .tmp 8) (fun p20 => ?_)
    refine OJ.go 1 [(10, .pointer (some p20))] ?_
    refine OJ.ld (d := 11) (y := .tmp 10) (pend2 := fun x21 => [⟨3, 79, p20, cM.val x21⟩]) Ty79 (fun _ => rfl) (fun x21 => ?_)
    refine OJ.kld (d := 12) (y := .tmp 3) (cd := c_api_Prefix) (j := 0) (b := b1) (o := 0) a1 (pend2 := [⟨4, 30, (pt b1 0), c_api_Prefix.val a1⟩, ⟨3, 79, p20, cM.val x21⟩]) Ty30 rfl (At.whole _) rfl ?_
    refine OJ.slotOf (d := 5) (op := (.alloc 32)) (cd := c_api_Route) (u := z_api_Route) (owed := [⟨4, 30, (pt b1 0), c_api_Prefix.val a1⟩, ⟨3, 79, p20, cM.val x21⟩]) (alloc_run Ty32) (fun b22 => ?_)
    refine OW.known (j := 1) (q := a1) Ty30 rfl (At.whole _) ?_
    refine OW.same Ty79 ?_
    refine OW.nil ?_
    refine OJ.get1 (d := 13) (x := .tmp 11) (y := .tmp 12) (owed := []) Kt79 (fun r23 => ?_)
    refine OW.nil ?_
    refine OJ.go 3 [(15, .bool r23.2), (14, c_api_Route.val r23.1), (7, .tuple #[c_api_Route.val r23.1, .bool r23.2])] ?_
    refine OJ.kst (y := .tmp 5) (z := .tmp 14) (cd := c_api_Route) (u := r23.1) (j := 0) (b := b22) (o := 0) (c_api_Route.enc r23.1) (owed := []) Ty32 rfl (Upd.whole ((Cod.len _ _).trans (Cod.len _ _).symm)) rfl ?_
    refine OW.nil ?_
    refine OJ.go 1 [(6, .bool r23.2)] ?_
    refine OJ.nil ?_
    refine SJ.forget (List.Sublist.cons _ (List.Sublist.cons_cons _ List.Sublist.slnil)) ?_
    refine SJ.less [0, 3, 6] (m' := [(0, .pointer a0), (3, .pointer (some (pt b1 0))), (6, .bool r23.2)]) ?_
    exact route_Table_Drop.K1_ok a0 a1 b1 r23.2
end Go.Proofs.YtfgcobigollfjaaDoor.Lx
