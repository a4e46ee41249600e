/- Programs of the M-world for Go functions, each with the proof that the Go text does what it says. Printed by lxgen.py. -/
import Derived.Test.YtfgcobigollfjaaDoorLxT
import Derived.Test.YtfgcobigollfjaaDoorLxP0
import Derived.Test.YtfgcobigollfjaaDoorLxP1
import Derived.Test.YtfgcobigollfjaaDoorLxP2
set_option linter.unusedVariables false
set_option linter.unusedSimpArgs false
set_option linter.unusedSectionVars false
namespace Go.Proofs.YtfgcobigollfjaaDoor.Lx
open Go Go.Proofs
variable [Loops]
/-! ### weir/weirlaw14.RouteLent: function 4 -/
noncomputable def weirlaw14_RouteLent.B : Code := (Tryd.f4.body).getD .skip
noncomputable def weirlaw14_RouteLent.cx : Fx := ⟨Tryd.prog, 4, Tryd.f4, none⟩
noncomputable def weirlaw14_RouteLent.out (r_ : Bool) : Value := .bool r_
noncomputable def weirlaw14_RouteLent.F0 (r_ : Bool) : Reach := .ret (weirlaw14_RouteLent.out r_)
noncomputable def weirlaw14_RouteLent.K1 (a1 : api_IP) (r5 : ((Option Addr) × Sl)) (r8 : ((Option Addr) × Sl)) (s12 : Sl) (r19 : Sl) : M Bool :=
 route_Table_Find r5.1 a1 >>= fun r105 =>
 slot 32 >>= fun b106 =>
 weirref14_Find s12 a1 >>= fun r107 =>
 slot 32 >>= fun b108 =>
 route_Table_Matches r5.1 a1 >>= fun r109 =>
 weirlaw14_same r109 r19 >>= fun r110 =>
 (if r110 = true then
   route_Table_Matches r8.1 (⟨4, (⟨[10, 9, 0, 0, 0, 0, 0, 0, 0, 0, 0, 0, 0, 0, 0, 0], rfl⟩ : (Vec Int 16))⟩ : api_IP) >>= fun r111 =>
   weirlaw14_same r111 r8.2 >>= fun r112 =>
   pure r112
  else
   pure false) >>= fun y113 =>
 (if y113 = true then
   pure (eqv r105.1 r107.1)
  else
   pure false) >>= fun y114 =>
 (if y114 = true then
   pure (r105.2 == r107.2)
  else
   pure false) >>= fun y115 =>
 (if y115 = true then
   route_Table_Len r5.1 >>= fun r116 =>
   pure (r116 == (r5.2.len : Int))
  else
   pure false) >>= fun y117 =>
 pure y117
theorem weirlaw14_RouteLent.K1_ok (a1 : api_IP) (b1 : Nat) (r5 : ((Option Addr) × Sl)) (r8 : ((Option Addr) × Sl)) (s12 : Sl) (b18 : Nat) (r19 : Sl) :
  SJ weirlaw14_RouteLent.cx [.code (c2 (c2 (c2 (c2 (c2 (c2 (c2 (c2 (c2 (c2 (c2 (c2 (c2 (c2 weirlaw14_RouteLent.B))))))))))))))] [(3, .pointer (some (pt b1 0))), (5, .pointer r5.1), (6, Sl.v r5.2), (7, .pointer r8.1), (8, Sl.v r8.2), (9, Sl.v s12), (11, .pointer (some (pt b18 0))), (12, Sl.v r19)] [(b18, c_api_IP.enc (⟨4, (⟨[10, 9, 0, 0, 0, 0, 0, 0, 0, 0, 0, 0, 0, 0, 0, 0], rfl⟩ : (Vec Int 16))⟩ : api_IP)), (b1, c_api_IP.enc a1)] (weirlaw14_RouteLent.K1 a1 r5 r8 s12 r19) weirlaw14_RouteLent.F0 := by
 unfold weirlaw14_RouteLent.K1
 refine SJ.sr 9 <| OJ.go 1 [(227, .pointer r5.1)] <| OJ.kld (d := 228) (y := .tmp 3) (cd := c_api_IP) (j := 1) (b := b1) (o := 0) a1 (pend2 := []) Ty28 rfl (At.whole _) rfl ?_
 refine OJ.call (d := 229) (g := 14) (ats := #[22, 28]) (args := [.tmp 227, .tmp 228]) (owed := []) F14 (route_Table_Find_ok r5.1 a1) (fun r105 => ?_)
 refine OW.nil <| OJ.go 3 [(231, .bool r105.2), (230, c_api_Route.val r105.1), (226, .tuple #[c_api_Route.val r105.1, .bool r105.2])] <| OJ.slotOf (d := 28) (op := (.alloc 32)) (cd := c_api_Route) (u := z_api_Route) (owed := []) (alloc_run Ty32) (fun b106 => ?_)
 refine OW.nil <| OJ.kst (y := .tmp 28) (z := .tmp 230) (cd := c_api_Route) (u := r105.1) (j := 0) (b := b106) (o := 0) (c_api_Route.enc r105.1) (owed := []) Ty32 rfl (Upd.whole ((Cod.len _ _).trans (Cod.len _ _).symm)) rfl ?_
 refine OW.nil <| OJ.go 1 [(29, .bool r105.2)] <| OJ.nil <| SJ.sr 9 <| OJ.go 1 [(233, Sl.v s12)] <| OJ.kld (d := 234) (y := .tmp 3) (cd := c_api_IP) (j := 2) (b := b1) (o := 0) a1 (pend2 := []) Ty28 rfl (At.whole _) rfl ?_
 refine OJ.call (d := 235) (g := 21) (ats := #[39, 28]) (args := [.tmp 233, .tmp 234]) (owed := []) F21 (weirref14_Find_ok s12 a1) (fun r107 => ?_)
 refine OW.nil <| OJ.go 3 [(237, .bool r107.2), (236, c_api_Route.val r107.1), (232, .tuple #[c_api_Route.val r107.1, .bool r107.2])] <| OJ.slotOf (d := 30) (op := (.alloc 32)) (cd := c_api_Route) (u := z_api_Route) (owed := []) (alloc_run Ty32) (fun b108 => ?_)
 refine OW.nil <| OJ.kst (y := .tmp 30) (z := .tmp 236) (cd := c_api_Route) (u := r107.1) (j := 0) (b := b108) (o := 0) (c_api_Route.enc r107.1) (owed := []) Ty32 rfl (Upd.whole ((Cod.len _ _).trans (Cod.len _ _).symm)) rfl ?_
 refine OW.nil <| OJ.go 1 [(31, .bool r107.2)] <| OJ.nil <| SJ.sr 30 <| OJ.go 1 [(238, .pointer r5.1)] <| OJ.kld (d := 239) (y := .tmp 3) (cd := c_api_IP) (j := 3) (b := b1) (o := 0) a1 (pend2 := []) Ty28 rfl (At.whole _) rfl ?_
 refine OJ.call (d := 240) (g := 19) (ats := #[22, 28]) (args := [.tmp 238, .tmp 239]) (owed := []) F19 (route_Table_Matches_ok r5.1 a1) (fun r109 => ?_)
 refine OW.nil <| OJ.go 1 [(241, Sl.v r19)] <| OJ.call (d := 242) (g := 20) (ats := #[39, 39]) (args := [.tmp 240, .tmp 241]) (owed := []) F20 (weirlaw14_same_ok r109 r19) (fun r110 => ?_)
 refine OW.nil <| OJ.go 1 [(243, .bool r110)] <| OJ.join (b := r110) [6, 7, 8, 9, 10, 11] [12, 13, 14, 15, 16, 17, 18, 19, 20, 21, 22, 23, 24, 25, 26, 27, 28, 29] [5, 6, 28, 29, 30, 31, 249] (fun y113 => [(5, .pointer r5.1), (6, Sl.v r5.2), (28, .pointer (some (pt b106 0))), (29, .bool r105.2), (30, .pointer (some (pt b108 0))), (31, .bool r107.2), (249, .bool y113)]) [] [] (t := 243) Iff.rfl (fun hp_ => ?_) (fun hp_ => ?_) (fun _ _ _ _ _ _ h_ => h_) (fun y113 => ?_)
 ·refine OJ.go 1 [(244, .pointer r8.1)] <| OJ.kld (d := 245) (y := .tmp 11) (cd := c_api_IP) (j := 2) (b := b18) (o := 0) (⟨4, (⟨[10, 9, 0, 0, 0, 0, 0, 0, 0, 0, 0, 0, 0, 0, 0, 0], rfl⟩ : (Vec Int 16))⟩ : api_IP) (pend2 := []) Ty28 rfl (At.whole _) rfl ?_
  refine OJ.call (d := 246) (g := 19) (ats := #[22, 28]) (args := [.tmp 244, .tmp 245]) (owed := []) F19 (route_Table_Matches_ok r8.1 (⟨4, (⟨[10, 9, 0, 0, 0, 0, 0, 0, 0, 0, 0, 0, 0, 0, 0, 0], rfl⟩ : (Vec Int 16))⟩ : api_IP)) (fun r111 => ?_)
  refine OW.nil <| OJ.go 1 [(247, Sl.v r8.2)] <| OJ.call (d := 248) (g := 20) (ats := #[39, 39]) (args := [.tmp 246, .tmp 247]) (owed := []) F20 (weirlaw14_same_ok r111 r8.2) (fun r112 => ?_)
  exact OW.nil <| OJ.go 1 [(249, .bool r112)] <| OJ.x0
 ·exact OJ.go 6 [(249, .bool false), (248, undef), (247, undef), (246, undef), (245, undef), (244, undef)] <| OJ.x0
 ·refine OJ.go 1 [(250, .bool y113)] <| OJ.join (b := y113) [13, 14, 15, 16] [17, 18, 19, 20, 21, 22, 23, 24, 25, 26, 27, 28, 29] [5, 6, 29, 31, 254] (fun y114 => [(5, .pointer r5.1), (6, Sl.v r5.2), (29, .bool r105.2), (31, .bool r107.2), (254, .bool y114)]) [] [] (t := 250) Iff.rfl (fun hp_ => ?_) (fun hp_ => ?_) (fun _ _ _ _ _ _ h_ => h_) (fun y114 => ?_)
  ·refine OJ.kld (d := 251) (y := .tmp 28) (cd := c_api_Route) (j := 1) (b := b106) (o := 0) r105.1 (pend2 := []) Ty32 rfl (At.whole _) rfl ?_
   refine OJ.kld (d := 252) (y := .tmp 30) (cd := c_api_Route) (j := 0) (b := b108) (o := 0) r107.1 (pend2 := []) Ty32 rfl (At.whole _) rfl ?_
   refine OJ.eql (d := 253) (T := 32) (yT := 32) (y := .tmp 251) (z := .tmp 252) (cd := c_api_Route) (p := r105.1) (q := r107.1) rfl Eq32 ?_
   exact OJ.go 1 [(254, .bool (eqv r105.1 r107.1))] <| OJ.x0
  ·exact OJ.go 4 [(254, .bool false), (253, undef), (252, undef), (251, undef)] <| OJ.x0
  ·refine OJ.go 1 [(255, .bool y114)] <| OJ.join (b := y114) [18, 19, 20, 21] [22, 23, 24, 25, 26, 27, 28, 29] [5, 6, 259] (fun y115 => [(5, .pointer r5.1), (6, Sl.v r5.2), (259, .bool y115)]) [] [] (t := 255) Iff.rfl (fun hp_ => ?_) (fun hp_ => ?_) (fun _ _ _ _ _ _ h_ => h_) (fun y115 => ?_)
   ·exact OJ.go 4 [(259, .bool (r105.2 == r107.2)), (258, .bool (r105.2 == r107.2)), (257, .bool r107.2), (256, .bool r105.2)] <| OJ.x0
   ·exact OJ.go 4 [(259, .bool false), (258, undef), (257, undef), (256, undef)] <| OJ.x0
   ·refine OJ.go 1 [(260, .bool y115)] <| OJ.join (b := y115) [23, 24, 25, 26, 27, 28] [29] [266] (fun y117 => [(266, .bool y117)]) [] [] (t := 260) Iff.rfl (fun hp_ => ?_) (fun hp_ => ?_) (fun _ _ _ _ _ _ h_ => h_) (fun y117 => ?_)
    ·refine OJ.go 1 [(261, .pointer r5.1)] <| OJ.call (d := 262) (g := 12) (ats := #[22]) (args := [.tmp 261]) (owed := []) F12 (route_Table_Len_ok r5.1) (fun r116 => ?_)
     exact OW.nil <| OJ.go 4 [(266, .bool (r116 == (r5.2.len : Int))), (265, .bool (r116 == (r5.2.len : Int))), (264, .int .i64 (r5.2.len : Int)), (263, Sl.v r5.2)] <| OJ.x0
    ·exact OJ.go 6 [(266, .bool false), (265, undef), (264, undef), (263, undef), (262, undef), (261, undef)] <| OJ.x0
    ·exact OJ.go 1 [(4, .bool y117)] <| OJ.nil <| SJ.r1 (.bool y117) rfl rfl
noncomputable def weirlaw14_RouteLent.F1 (a1 : api_IP) (b1 : Nat) (r5 : ((Option Addr) × Sl)) (r8 : ((Option Addr) × Sl)) (s12 : Sl) (b18 : Nat) (r19 : Sl) (s21 : Sl) (s53 : Sl) : (LS Int Bool) → Reach := loopF [.inLoop (c1 (c1 (c2 (c1 (c2 (c2 (c2 (c2 (c2 (c2 (c2 (c2 (c2 (c2 (c2 (c2 (c2 weirlaw14_RouteLent.B))))))))))))))))), .inBlock 12, .code (c2 (c2 (c2 (c2 (c2 (c2 (c2 (c2 (c2 (c2 (c2 (c2 (c2 (c2 weirlaw14_RouteLent.B))))))))))))))] (fun s_ : Int => [(3, .pointer (some (pt b1 0))), (5, .pointer r5.1), (6, Sl.v r5.2), (7, .pointer r8.1), (8, Sl.v r8.2), (9, Sl.v s12), (11, .pointer (some (pt b18 0))), (12, Sl.v r19), (14, Sl.v s21), (22, Sl.v s53), (26, .int .i64 s_)]) (fun s_ : Int => [(b18, c_api_IP.enc (⟨4, (⟨[10, 9, 0, 0, 0, 0, 0, 0, 0, 0, 0, 0, 0, 0, 0, 0], rfl⟩ : (Vec Int 16))⟩ : api_IP)), (b1, c_api_IP.enc a1)]) weirlaw14_RouteLent.F0
noncomputable def weirlaw14_RouteLent.F2 (a1 : api_IP) (b1 : Nat) (r5 : ((Option Addr) × Sl)) (r8 : ((Option Addr) × Sl)) (s12 : Sl) (b18 : Nat) (r19 : Sl) (s21 : Sl) (s53 : Sl) (s70 : Int) : (LS Int (LS Int Bool)) → Reach := loopF [.inLoop (c1 (c1 (c2 (c1 (c1 (c2 (c1 (c1 (c2 (c1 (c2 (c2 (c2 (c2 (c2 (c2 (c2 (c2 (c2 (c2 (c2 (c2 (c2 weirlaw14_RouteLent.B))))))))))))))))))))))), .inBlock 14, .inBlock 13, .code (c2 (c2 (c1 (c1 (c2 (c1 (c2 (c2 (c2 (c2 (c2 (c2 (c2 (c2 (c2 (c2 (c2 (c2 (c2 weirlaw14_RouteLent.B))))))))))))))))))), .inLoop (c1 (c1 (c2 (c1 (c2 (c2 (c2 (c2 (c2 (c2 (c2 (c2 (c2 (c2 (c2 (c2 (c2 weirlaw14_RouteLent.B))))))))))))))))), .inBlock 12, .code (c2 (c2 (c2 (c2 (c2 (c2 (c2 (c2 (c2 (c2 (c2 (c2 (c2 (c2 weirlaw14_RouteLent.B))))))))))))))] (fun s_ : Int => [(3, .pointer (some (pt b1 0))), (5, .pointer r5.1), (6, Sl.v r5.2), (7, .pointer r8.1), (8, Sl.v r8.2), (9, Sl.v s12), (11, .pointer (some (pt b18 0))), (12, Sl.v r19), (14, Sl.v s21), (22, Sl.v s53), (26, .int .i64 s70), (27, .int .i64 s_)]) (fun s_ : Int => [(b18, c_api_IP.enc (⟨4, (⟨[10, 9, 0, 0, 0, 0, 0, 0, 0, 0, 0, 0, 0, 0, 0, 0], rfl⟩ : (Vec Int 16))⟩ : api_IP)), (b1, c_api_IP.enc a1)]) (weirlaw14_RouteLent.F1 a1 b1 r5 r8 s12 b18 r19 s21 s53)
noncomputable def weirlaw14_RouteLent.L2 (s21 : Sl) (s53 : Sl) (s70 : Int) (s118 : Int) : M (LS Int (LS Int Bool)) :=
 idx s53.a s53.len s70 1 >>= fun p135 =>
 ld cL p135 >>= fun x136 =>
 if s118 < (x136.len : Int) then
  idx s53.a s53.len s70 1 >>= fun p137 =>
  ld cL p137 >>= fun x138 =>
  idx x138.a x138.len s118 36 >>= fun p139 =>
  ld c_api_Route p139 >>= fun x140 =>
  (if ¬ (x140 = (⟨z_api_Route.Prefix, IntKind.wrap .i64 ((-1) - s70), z_api_Route.Via⟩ : api_Route)) then
    pure true
   else
    idx s21.a s21.len s70 1 >>= fun p141 =>
    ld cL p141 >>= fun x142 =>
    (if s118 < (x142.len : Int) then
      idx s21.a s21.len s70 1 >>= fun p143 =>
      ld cL p143 >>= fun x144 =>
      idx x144.a x144.len s118 36 >>= fun p145 =>
      ld c_api_Route p145 >>= fun x146 =>
      pure (!eqv x146 (⟨z_api_Route.Prefix, IntKind.wrap .i64 ((-1) - s70), z_api_Route.Via⟩ : api_Route))
     else
      pure false) >>= fun y147 =>
    pure y147) >>= fun y148 =>
  if y148 = true then
   pure (LS.done (LS.done false))
  else
   pure (LS.next (IntKind.wrap .i64 (s118 + 1)))
 else
  pure (LS.done (LS.next (IntKind.wrap .i64 (s70 + 1))))
theorem weirlaw14_RouteLent.L2_ok (a1 : api_IP) (b1 : Nat) (r5 : ((Option Addr) × Sl)) (r8 : ((Option Addr) × Sl)) (s12 : Sl) (b18 : Nat) (r19 : Sl) (s21 : Sl) (s53 : Sl) (s70 : Int) (s118 : Int) :
  SJ weirlaw14_RouteLent.cx [.code (c1 (c1 (c2 (c1 (c1 (c2 (c1 (c1 (c2 (c1 (c2 (c2 (c2 (c2 (c2 (c2 (c2 (c2 (c2 (c2 (c2 (c2 (c2 weirlaw14_RouteLent.B))))))))))))))))))))))), .inLoop (c1 (c1 (c2 (c1 (c1 (c2 (c1 (c1 (c2 (c1 (c2 (c2 (c2 (c2 (c2 (c2 (c2 (c2 (c2 (c2 (c2 (c2 (c2 weirlaw14_RouteLent.B))))))))))))))))))))))), .inBlock 14, .inBlock 13, .code (c2 (c2 (c1 (c1 (c2 (c1 (c2 (c2 (c2 (c2 (c2 (c2 (c2 (c2 (c2 (c2 (c2 (c2 (c2 weirlaw14_RouteLent.B))))))))))))))))))), .inLoop (c1 (c1 (c2 (c1 (c2 (c2 (c2 (c2 (c2 (c2 (c2 (c2 (c2 (c2 (c2 (c2 (c2 weirlaw14_RouteLent.B))))))))))))))))), .inBlock 12, .code (c2 (c2 (c2 (c2 (c2 (c2 (c2 (c2 (c2 (c2 (c2 (c2 (c2 (c2 weirlaw14_RouteLent.B))))))))))))))] [(3, .pointer (some (pt b1 0))), (5, .pointer r5.1), (6, Sl.v r5.2), (7, .pointer r8.1), (8, Sl.v r8.2), (9, Sl.v s12), (11, .pointer (some (pt b18 0))), (12, Sl.v r19), (14, Sl.v s21), (22, Sl.v s53), (26, .int .i64 s70), (27, .int .i64 s118)] [(b18, c_api_IP.enc (⟨4, (⟨[10, 9, 0, 0, 0, 0, 0, 0, 0, 0, 0, 0, 0, 0, 0, 0], rfl⟩ : (Vec Int 16))⟩ : api_IP)), (b1, c_api_IP.enc a1)] (weirlaw14_RouteLent.L2 s21 s53 s70 s118) (weirlaw14_RouteLent.F2 a1 b1 r5 r8 s12 b18 r19 s21 s53 s70) := by
 unfold weirlaw14_RouteLent.L2
 refine SJ.seq <| SJ.sr 7 <| OJ.go 3 [(186, .int .i64 s70), (185, Sl.v s53), (184, .int .i64 s118)] <| OJ.idxS (d := 187) (T := 46) (y := .tmp 185) (j := .tmp 186) (E := 39) (cap := s53.cap) (k := .i64) (fun p135 => ?_)
 refine OJ.ld (d := 188) (y := .tmp 187) (pend2 := fun x136 => []) Ty39 (fun _ => rfl) (fun x136 => ?_)
 refine OJ.go 2 [(190, .bool (decide (s118 < (x136.len : Int)))), (189, .int .i64 (x136.len : Int))] <| OJ.nil <| SJ.cond (t := (.tmp 190)) (b := decide (s118 < (x136.len : Int))) decide_eq_true_iff (fun hc150 => ?_) (fun hc150 => ?_)
 ·refine SJ.skip <| SJ.seq <| SJ.block (id := 15) <| SJ.sr 33 <| OJ.go 2 [(194, .int .i64 s70), (193, Sl.v s53)] <| OJ.idxS (d := 195) (T := 46) (y := .tmp 193) (j := .tmp 194) (E := 39) (cap := s53.cap) (k := .i64) (fun p137 => ?_)
  refine OJ.ld (d := 196) (y := .tmp 195) (pend2 := fun x138 => []) Ty39 (fun _ => rfl) (fun x138 => ?_)
  refine OJ.go 1 [(197, .int .i64 s118)] <| OJ.idxS (d := 198) (T := 39) (y := .tmp 196) (j := .tmp 197) (E := 32) (cap := x138.cap) (k := .i64) (fun p139 => ?_)
  refine OJ.ld (d := 199) (y := .tmp 198) (pend2 := fun x140 => []) Ty32 (fun _ => rfl) (fun x140 => ?_)
  refine OJ.go 2 [(201, .int .i64 (IntKind.wrap .i64 ((-1) - s70))), (200, .int .i64 s70)] <| OJ.build (d := 202) (T := 32) (parts := [(1, .tmp 201)]) (ps := [(1, (cI .i64).val (IntKind.wrap .i64 ((-1) - s70)))]) (cd := c_api_Route) (z0 := z_api_Route) (⟨z_api_Route.Prefix, IntKind.wrap .i64 ((-1) - s70), z_api_Route.Via⟩ : api_Route) Ty32 rfl (Filled.cons (cd := (cI .i64)) (q := (IntKind.wrap .i64 ((-1) - s70))) (o := 18) (by kernel_rfl) (Up_api_Route_Port z_api_Route (IntKind.wrap .i64 ((-1) - s70))) Filled.nil) ?_
  refine OJ.neq (d := 203) (T := 32) (yT := 32) (y := .tmp 199) (z := .tmp 202) (cd := c_api_Route) (p := x140) (q := (⟨z_api_Route.Prefix, IntKind.wrap .i64 ((-1) - s70), z_api_Route.Via⟩ : api_Route)) rfl Eq32 ?_
  refine OJ.go 1 [(204, .bool (!eqv x140 (⟨z_api_Route.Prefix, IntKind.wrap .i64 ((-1) - s70), z_api_Route.Via⟩ : api_Route)))] <| OJ.join (b := (!eqv x140 (⟨z_api_Route.Prefix, IntKind.wrap .i64 ((-1) - s70), z_api_Route.Via⟩ : api_Route))) [12, 13, 14, 15, 16, 17, 18, 19, 20, 21, 22, 23, 24, 25, 26, 27, 28, 29, 30, 31, 32] [] [3, 5, 6, 7, 8, 9, 11, 12, 14, 22, 26, 27, 225] (fun y148 => [(3, .pointer (some (pt b1 0))), (5, .pointer r5.1), (6, Sl.v r5.2), (7, .pointer r8.1), (8, Sl.v r8.2), (9, Sl.v s12), (11, .pointer (some (pt b18 0))), (12, Sl.v r19), (14, Sl.v s21), (22, Sl.v s53), (26, .int .i64 s70), (27, .int .i64 s118), (225, .bool y148)]) [] [] (t := 204) (bnot_iff eqv_iff) (fun hp_ => ?_) (fun hp_ => ?_) (fun _ _ _ _ _ _ h_ => h_) (fun y148 => ?_)
  ·exact OJ.go 21 [(225, .bool true), (224, undef), (223, undef), (222, undef), (221, undef), (220, undef), (219, undef), (218, undef), (217, undef), (216, undef), (215, undef), (214, undef), (213, undef), (212, undef), (211, undef), (210, undef), (209, undef), (208, undef), (207, undef), (206, undef), (205, undef)] <| OJ.x0
  ·refine OJ.go 3 [(207, .int .i64 s70), (206, Sl.v s21), (205, .int .i64 s118)] <| OJ.idxS (d := 208) (T := 46) (y := .tmp 206) (j := .tmp 207) (E := 39) (cap := s21.cap) (k := .i64) (fun p141 => ?_)
   refine OJ.ld (d := 209) (y := .tmp 208) (pend2 := fun x142 => []) Ty39 (fun _ => rfl) (fun x142 => ?_)
   refine OJ.go 3 [(212, .bool (decide (s118 < (x142.len : Int)))), (211, .bool (decide (s118 < (x142.len : Int)))), (210, .int .i64 (x142.len : Int))] <| OJ.join (b := decide (s118 < (x142.len : Int))) [20, 21, 22, 23, 24, 25, 26, 27, 28, 29, 30, 31] [32] [3, 5, 6, 7, 8, 9, 11, 12, 14, 22, 26, 27, 204, 224] (fun y147 => [(3, .pointer (some (pt b1 0))), (5, .pointer r5.1), (6, Sl.v r5.2), (7, .pointer r8.1), (8, Sl.v r8.2), (9, Sl.v s12), (11, .pointer (some (pt b18 0))), (12, Sl.v r19), (14, Sl.v s21), (22, Sl.v s53), (26, .int .i64 s70), (27, .int .i64 s118), (204, .bool false), (224, .bool y147)]) [] [] (t := 212) decide_eq_true_iff (fun hp_ => ?_) (fun hp_ => ?_) (fun _ _ _ _ _ hq_ h_ => ⟨fun e_ he_ => (hq_ e_ he_).elim (fun h => h_.1 e_ h) (fun h => nomatch h), h_.2⟩) (fun y147 => ?_)
   ·refine OJ.go 2 [(214, .int .i64 s70), (213, Sl.v s21)] <| OJ.idxS (d := 215) (T := 46) (y := .tmp 213) (j := .tmp 214) (E := 39) (cap := s21.cap) (k := .i64) (fun p143 => ?_)
    refine OJ.ld (d := 216) (y := .tmp 215) (pend2 := fun x144 => []) Ty39 (fun _ => rfl) (fun x144 => ?_)
    refine OJ.go 1 [(217, .int .i64 s118)] <| OJ.idxS (d := 218) (T := 39) (y := .tmp 216) (j := .tmp 217) (E := 32) (cap := x144.cap) (k := .i64) (fun p145 => ?_)
    refine OJ.ld (d := 219) (y := .tmp 218) (pend2 := fun x146 => []) Ty32 (fun _ => rfl) (fun x146 => ?_)
    refine OJ.go 2 [(221, .int .i64 (IntKind.wrap .i64 ((-1) - s70))), (220, .int .i64 s70)] <| OJ.build (d := 222) (T := 32) (parts := [(1, .tmp 221)]) (ps := [(1, (cI .i64).val (IntKind.wrap .i64 ((-1) - s70)))]) (cd := c_api_Route) (z0 := z_api_Route) (⟨z_api_Route.Prefix, IntKind.wrap .i64 ((-1) - s70), z_api_Route.Via⟩ : api_Route) Ty32 rfl (Filled.cons (cd := (cI .i64)) (q := (IntKind.wrap .i64 ((-1) - s70))) (o := 18) (by kernel_rfl) (Up_api_Route_Port z_api_Route (IntKind.wrap .i64 ((-1) - s70))) Filled.nil) ?_
    refine OJ.neq (d := 223) (T := 32) (yT := 32) (y := .tmp 219) (z := .tmp 222) (cd := c_api_Route) (p := x146) (q := (⟨z_api_Route.Prefix, IntKind.wrap .i64 ((-1) - s70), z_api_Route.Via⟩ : api_Route)) rfl Eq32 ?_
    exact OJ.go 1 [(224, .bool (!eqv x146 (⟨z_api_Route.Prefix, IntKind.wrap .i64 ((-1) - s70), z_api_Route.Via⟩ : api_Route)))] <| OJ.x0
   ·exact OJ.go 12 [(224, .bool false), (223, undef), (222, undef), (221, undef), (220, undef), (219, undef), (218, undef), (217, undef), (216, undef), (215, undef), (214, undef), (213, undef)] <| OJ.x0
   ·exact OJ.go 1 [(225, .bool y147)] <| OJ.x0
  ·refine OJ.nil <| SJ.cond (t := (.tmp 225)) (b := y148) Iff.rfl (fun hc149 => ?_) (fun hc149 => ?_)
   ·exact SJ.sr 1 <| OJ.go 1 [(4, .bool false)] <| OJ.nil <| SJ.r1 (.bool false) rfl rfl
   ·exact SJ.skip <| SJ.inBlock <| SJ.rg 3 <| OJ.go 3 [(27, .int .i64 (IntKind.wrap .i64 (s118 + 1))), (192, .int .i64 (IntKind.wrap .i64 (s118 + 1))), (191, .int .i64 s118)] <| OJ.nil <| SJ.at_ [3, 5, 6, 7, 8, 9, 11, 12, 14, 22, 26, 27] rfl
 ·exact SJ.exit (id := 14) (by rfl) <| SJ.inBlock <| SJ.rg 3 <| OJ.go 3 [(26, .int .i64 (IntKind.wrap .i64 (s70 + 1))), (183, .int .i64 (IntKind.wrap .i64 (s70 + 1))), (182, .int .i64 s70)] <| OJ.nil <| SJ.at_ [3, 5, 6, 7, 8, 9, 11, 12, 14, 22, 26] rfl
noncomputable def weirlaw14_RouteLent.L1 (a1 : api_IP) (r5 : ((Option Addr) × Sl)) (r8 : ((Option Addr) × Sl)) (s12 : Sl) (r19 : Sl) (s21 : Sl) (s53 : Sl) (s70 : Int) : M (LS Int Bool) :=
 if s70 < (s53.len : Int) then
  loopM (fun s_ : Int => weirlaw14_RouteLent.L2 s21 s53 s70 s_) 0
 else
  (weirlaw14_RouteLent.K1 a1 r5 r8 s12 r19) >>= fun b => pure (LS.done b)
theorem weirlaw14_RouteLent.L1_ok (a1 : api_IP) (b1 : Nat) (r5 : ((Option Addr) × Sl)) (r8 : ((Option Addr) × Sl)) (s12 : Sl) (b18 : Nat) (r19 : Sl) (s21 : Sl) (s53 : Sl) (s70 : Int) :
  SJ weirlaw14_RouteLent.cx [.code (c1 (c1 (c2 (c1 (c2 (c2 (c2 (c2 (c2 (c2 (c2 (c2 (c2 (c2 (c2 (c2 (c2 weirlaw14_RouteLent.B))))))))))))))))), .inLoop (c1 (c1 (c2 (c1 (c2 (c2 (c2 (c2 (c2 (c2 (c2 (c2 (c2 (c2 (c2 (c2 (c2 weirlaw14_RouteLent.B))))))))))))))))), .inBlock 12, .code (c2 (c2 (c2 (c2 (c2 (c2 (c2 (c2 (c2 (c2 (c2 (c2 (c2 (c2 weirlaw14_RouteLent.B))))))))))))))] [(3, .pointer (some (pt b1 0))), (5, .pointer r5.1), (6, Sl.v r5.2), (7, .pointer r8.1), (8, Sl.v r8.2), (9, Sl.v s12), (11, .pointer (some (pt b18 0))), (12, Sl.v r19), (14, Sl.v s21), (22, Sl.v s53), (26, .int .i64 s70)] [(b18, c_api_IP.enc (⟨4, (⟨[10, 9, 0, 0, 0, 0, 0, 0, 0, 0, 0, 0, 0, 0, 0, 0], rfl⟩ : (Vec Int 16))⟩ : api_IP)), (b1, c_api_IP.enc a1)] (weirlaw14_RouteLent.L1 a1 r5 r8 s12 r19 s21 s53 s70) (weirlaw14_RouteLent.F1 a1 b1 r5 r8 s12 b18 r19 s21 s53) := by
 unfold weirlaw14_RouteLent.L1
 refine SJ.seq <| SJ.sr 4 <| OJ.go 4 [(181, .bool (decide (s70 < (s53.len : Int)))), (180, .int .i64 (s53.len : Int)), (179, Sl.v s53), (178, .int .i64 s70)] <| OJ.nil <| SJ.cond (t := (.tmp 181)) (b := decide (s70 < (s53.len : Int))) decide_eq_true_iff (fun hc151 => ?_) (fun hc151 => ?_)
 ·exact SJ.skip <| SJ.seq <| SJ.block (id := 13) <| SJ.sr 1 <| OJ.go 1 [(27, .int .i64 0)] <| OJ.nil <| SJ.block (id := 14) <| SJ.loop (fun s_ : Int => [(3, .pointer (some (pt b1 0))), (5, .pointer r5.1), (6, Sl.v r5.2), (7, .pointer r8.1), (8, Sl.v r8.2), (9, Sl.v s12), (11, .pointer (some (pt b18 0))), (12, Sl.v r19), (14, Sl.v s21), (22, Sl.v s53), (26, .int .i64 s70), (27, .int .i64 s_)]) (fun s_ : Int => [(b18, c_api_IP.enc (⟨4, (⟨[10, 9, 0, 0, 0, 0, 0, 0, 0, 0, 0, 0, 0, 0, 0, 0], rfl⟩ : (Vec Int 16))⟩ : api_IP)), (b1, c_api_IP.enc a1)]) [3, 5, 6, 7, 8, 9, 11, 12, 14, 22, 26, 27] rfl (fun _ _ => rfl) (fun s_ => weirlaw14_RouteLent.L2_ok a1 b1 r5 r8 s12 b18 r19 s21 s53 s70 s_)
 ·refine SJ.exit (id := 12) (by rfl) <| SJ.less [3, 5, 6, 7, 8, 9, 11, 12] (m' := [(3, .pointer (some (pt b1 0))), (5, .pointer r5.1), (6, Sl.v r5.2), (7, .pointer r8.1), (8, Sl.v r8.2), (9, Sl.v s12), (11, .pointer (some (pt b18 0))), (12, Sl.v r19)]) ?_
  refine SJ.done ?_
  exact weirlaw14_RouteLent.K1_ok a1 b1 r5 r8 s12 b18 r19
noncomputable def weirlaw14_RouteLent.K2 (a1 : api_IP) (r5 : ((Option Addr) × Sl)) (r8 : ((Option Addr) × Sl)) (s12 : Sl) (r19 : Sl) (s21 : Sl) (s53 : Sl) : M Bool :=
 loopM (fun s_ : Int => weirlaw14_RouteLent.L1 a1 r5 r8 s12 r19 s21 s53 s_) 0
theorem weirlaw14_RouteLent.K2_ok (a1 : api_IP) (b1 : Nat) (r5 : ((Option Addr) × Sl)) (r8 : ((Option Addr) × Sl)) (s12 : Sl) (b18 : Nat) (r19 : Sl) (s21 : Sl) (s53 : Sl) :
  SJ weirlaw14_RouteLent.cx [.code (c2 (c2 (c2 (c2 (c2 (c2 (c2 (c2 (c2 (c2 (c2 (c2 (c2 weirlaw14_RouteLent.B)))))))))))))] [(3, .pointer (some (pt b1 0))), (5, .pointer r5.1), (6, Sl.v r5.2), (7, .pointer r8.1), (8, Sl.v r8.2), (9, Sl.v s12), (11, .pointer (some (pt b18 0))), (12, Sl.v r19), (14, Sl.v s21), (22, Sl.v s53)] [(b18, c_api_IP.enc (⟨4, (⟨[10, 9, 0, 0, 0, 0, 0, 0, 0, 0, 0, 0, 0, 0, 0, 0], rfl⟩ : (Vec Int 16))⟩ : api_IP)), (b1, c_api_IP.enc a1)] (weirlaw14_RouteLent.K2 a1 r5 r8 s12 r19 s21 s53) weirlaw14_RouteLent.F0 := by
 unfold weirlaw14_RouteLent.K2
 exact SJ.seq <| SJ.sr 1 <| OJ.go 1 [(26, .int .i64 0)] <| OJ.nil <| SJ.block (id := 12) <| SJ.loop (fun s_ : Int => [(3, .pointer (some (pt b1 0))), (5, .pointer r5.1), (6, Sl.v r5.2), (7, .pointer r8.1), (8, Sl.v r8.2), (9, Sl.v s12), (11, .pointer (some (pt b18 0))), (12, Sl.v r19), (14, Sl.v s21), (22, Sl.v s53), (26, .int .i64 s_)]) (fun s_ : Int => [(b18, c_api_IP.enc (⟨4, (⟨[10, 9, 0, 0, 0, 0, 0, 0, 0, 0, 0, 0, 0, 0, 0, 0], rfl⟩ : (Vec Int 16))⟩ : api_IP)), (b1, c_api_IP.enc a1)]) [3, 5, 6, 7, 8, 9, 11, 12, 14, 22, 26] rfl (fun _ _ => rfl) (fun s_ => weirlaw14_RouteLent.L1_ok a1 b1 r5 r8 s12 b18 r19 s21 s53 s_)
noncomputable def weirlaw14_RouteLent.F3 (a1 : api_IP) (b1 : Nat) (r5 : ((Option Addr) × Sl)) (r8 : ((Option Addr) × Sl)) (s12 : Sl) (b18 : Nat) (r19 : Sl) (s21 : Sl) : (LS (Sl × Int) Bool) → Reach := loopF [.inLoop (c1 (c1 (c2 (c1 (c2 (c2 (c2 (c2 (c2 (c2 (c2 (c2 (c2 (c2 (c2 (c2 weirlaw14_RouteLent.B)))))))))))))))), .inBlock 8, .code (c2 (c2 (c2 (c2 (c2 (c2 (c2 (c2 (c2 (c2 (c2 (c2 (c2 weirlaw14_RouteLent.B)))))))))))))] (fun s_ : (Sl × Int) => [(3, .pointer (some (pt b1 0))), (5, .pointer r5.1), (6, Sl.v r5.2), (7, .pointer r8.1), (8, Sl.v r8.2), (9, Sl.v s12), (11, .pointer (some (pt b18 0))), (12, Sl.v r19), (14, Sl.v s21), (22, Sl.v s_.1), (23, .int .i64 s_.2)]) (fun s_ : (Sl × Int) => [(b18, c_api_IP.enc (⟨4, (⟨[10, 9, 0, 0, 0, 0, 0, 0, 0, 0, 0, 0, 0, 0, 0, 0], rfl⟩ : (Vec Int 16))⟩ : api_IP)), (b1, c_api_IP.enc a1)]) weirlaw14_RouteLent.F0
noncomputable def weirlaw14_RouteLent.F4 (a1 : api_IP) (b1 : Nat) (r5 : ((Option Addr) × Sl)) (r8 : ((Option Addr) × Sl)) (s12 : Sl) (b18 : Nat) (r19 : Sl) (s21 : Sl) (s53 : Sl) (s54 : Int) : (LS (Sl × Int) (LS (Sl × Int) Bool)) → Reach := loopF [.inLoop (c1 (c1 (c2 (c1 (c2 (c1 (c1 (c2 (c1 (c1 (c2 (c1 (c2 (c2 (c2 (c2 (c2 (c2 (c2 (c2 (c2 (c2 (c2 (c2 weirlaw14_RouteLent.B)))))))))))))))))))))))), .inBlock 10, .code (c2 (c2 (c1 (c1 (c2 (c1 (c1 (c2 (c1 (c2 (c2 (c2 (c2 (c2 (c2 (c2 (c2 (c2 (c2 (c2 (c2 weirlaw14_RouteLent.B))))))))))))))))))))), .inBlock 9, .code (c2 (c2 (c1 (c1 (c2 (c1 (c2 (c2 (c2 (c2 (c2 (c2 (c2 (c2 (c2 (c2 (c2 (c2 weirlaw14_RouteLent.B)))))))))))))))))), .inLoop (c1 (c1 (c2 (c1 (c2 (c2 (c2 (c2 (c2 (c2 (c2 (c2 (c2 (c2 (c2 (c2 weirlaw14_RouteLent.B)))))))))))))))), .inBlock 8, .code (c2 (c2 (c2 (c2 (c2 (c2 (c2 (c2 (c2 (c2 (c2 (c2 (c2 weirlaw14_RouteLent.B)))))))))))))] (fun s_ : (Sl × Int) => [(3, .pointer (some (pt b1 0))), (5, .pointer r5.1), (6, Sl.v r5.2), (7, .pointer r8.1), (8, Sl.v r8.2), (9, Sl.v s12), (11, .pointer (some (pt b18 0))), (12, Sl.v r19), (14, Sl.v s21), (22, Sl.v s53), (23, .int .i64 s54), (24, Sl.v s_.1), (25, .int .i64 s_.2)]) (fun s_ : (Sl × Int) => [(b18, c_api_IP.enc (⟨4, (⟨[10, 9, 0, 0, 0, 0, 0, 0, 0, 0, 0, 0, 0, 0, 0, 0], rfl⟩ : (Vec Int 16))⟩ : api_IP)), (b1, c_api_IP.enc a1)]) (weirlaw14_RouteLent.F3 a1 b1 r5 r8 s12 b18 r19 s21)
noncomputable def weirlaw14_RouteLent.L4 (s53 : Sl) (s54 : Int) (s154 : Sl) (s155 : Int) : M (LS (Sl × Int) (LS (Sl × Int) Bool)) :=
 if s155 < 300 then
  slot 32 >>= fun b161 =>
  appl c_api_Route 32 64 z_api_Route s154 [(⟨z_api_Route.Prefix, IntKind.wrap .i64 ((-1) - s54), z_api_Route.Via⟩ : api_Route)] >>= fun r162 =>
  pure (LS.next (r162, IntKind.wrap .i64 (s155 + 1)))
 else
  slot 39 >>= fun b163 =>
  appl cL 39 24 Sl.nil s53 [s154] >>= fun r164 =>
  pure (LS.done (LS.next (r164, IntKind.wrap .i64 (s54 + 1))))
theorem weirlaw14_RouteLent.L4_ok (a1 : api_IP) (b1 : Nat) (r5 : ((Option Addr) × Sl)) (r8 : ((Option Addr) × Sl)) (s12 : Sl) (b18 : Nat) (r19 : Sl) (s21 : Sl) (s53 : Sl) (s54 : Int) (s154 : Sl) (s155 : Int) :
  SJ weirlaw14_RouteLent.cx [.code (c1 (c1 (c2 (c1 (c2 (c1 (c1 (c2 (c1 (c1 (c2 (c1 (c2 (c2 (c2 (c2 (c2 (c2 (c2 (c2 (c2 (c2 (c2 (c2 weirlaw14_RouteLent.B)))))))))))))))))))))))), .inLoop (c1 (c1 (c2 (c1 (c2 (c1 (c1 (c2 (c1 (c1 (c2 (c1 (c2 (c2 (c2 (c2 (c2 (c2 (c2 (c2 (c2 (c2 (c2 (c2 weirlaw14_RouteLent.B)))))))))))))))))))))))), .inBlock 10, .code (c2 (c2 (c1 (c1 (c2 (c1 (c1 (c2 (c1 (c2 (c2 (c2 (c2 (c2 (c2 (c2 (c2 (c2 (c2 (c2 (c2 weirlaw14_RouteLent.B))))))))))))))))))))), .inBlock 9, .code (c2 (c2 (c1 (c1 (c2 (c1 (c2 (c2 (c2 (c2 (c2 (c2 (c2 (c2 (c2 (c2 (c2 (c2 weirlaw14_RouteLent.B)))))))))))))))))), .inLoop (c1 (c1 (c2 (c1 (c2 (c2 (c2 (c2 (c2 (c2 (c2 (c2 (c2 (c2 (c2 (c2 weirlaw14_RouteLent.B)))))))))))))))), .inBlock 8, .code (c2 (c2 (c2 (c2 (c2 (c2 (c2 (c2 (c2 (c2 (c2 (c2 (c2 weirlaw14_RouteLent.B)))))))))))))] [(3, .pointer (some (pt b1 0))), (5, .pointer r5.1), (6, Sl.v r5.2), (7, .pointer r8.1), (8, Sl.v r8.2), (9, Sl.v s12), (11, .pointer (some (pt b18 0))), (12, Sl.v r19), (14, Sl.v s21), (22, Sl.v s53), (23, .int .i64 s54), (24, Sl.v s154), (25, .int .i64 s155)] [(b18, c_api_IP.enc (⟨4, (⟨[10, 9, 0, 0, 0, 0, 0, 0, 0, 0, 0, 0, 0, 0, 0, 0], rfl⟩ : (Vec Int 16))⟩ : api_IP)), (b1, c_api_IP.enc a1)] (weirlaw14_RouteLent.L4 s53 s54 s154 s155) (weirlaw14_RouteLent.F4 a1 b1 r5 r8 s12 b18 r19 s21 s53 s54) := by
 unfold weirlaw14_RouteLent.L4
 refine SJ.seq <| SJ.sr 2 <| OJ.go 2 [(165, .bool (decide (s155 < 300))), (164, .int .i64 s155)] <| OJ.nil <| SJ.cond (t := (.tmp 165)) (b := decide (s155 < 300)) decide_eq_true_iff (fun hc165 => ?_) (fun hc165 => ?_)
 ·refine SJ.skip <| SJ.seq <| SJ.block (id := 11) <| SJ.rg 7 <| OJ.go 3 [(170, .int .i64 (IntKind.wrap .i64 ((-1) - s54))), (169, .int .i64 s54), (168, Sl.v s154)] <| OJ.build (d := 171) (T := 32) (parts := [(1, .tmp 170)]) (ps := [(1, (cI .i64).val (IntKind.wrap .i64 ((-1) - s54)))]) (cd := c_api_Route) (z0 := z_api_Route) (⟨z_api_Route.Prefix, IntKind.wrap .i64 ((-1) - s54), z_api_Route.Via⟩ : api_Route) Ty32 rfl (Filled.cons (cd := (cI .i64)) (q := (IntKind.wrap .i64 ((-1) - s54))) (o := 18) (by kernel_rfl) (Up_api_Route_Port z_api_Route (IntKind.wrap .i64 ((-1) - s54))) Filled.nil) ?_
  refine OJ.rowSlot (d := 172) (t := 39) (parts := [(0, .tmp 171)]) (ps := [(0, c_api_Route.val (⟨z_api_Route.Prefix, IntKind.wrap .i64 ((-1) - s54), z_api_Route.Via⟩ : api_Route))]) (cd := c_api_Route) (⟨[(⟨z_api_Route.Prefix, IntKind.wrap .i64 ((-1) - s54), z_api_Route.Via⟩ : api_Route)], rfl⟩ : Vec api_Route 1) (owed := []) Ty32 (Filled.cons (cd := c_api_Route) (q := (⟨z_api_Route.Prefix, IntKind.wrap .i64 ((-1) - s54), z_api_Route.Via⟩ : api_Route)) (o := 0) rfl (Upd.arr (i := 0) (by decide) (by decide)) Filled.nil) (fun b161 => ?_)
  refine OW.nil <| OJ.appl (d := 173) (t := 39) (u := 39) (so := .tmp 168) (xo := .tmp 172) (j := 0) (b := b161) (l := (c_api_Route.arr 1).enc (⟨[(⟨z_api_Route.Prefix, IntKind.wrap .i64 ((-1) - s54), z_api_Route.Via⟩ : api_Route)], rfl⟩ : Vec api_Route 1)) (n := 1) (k := 1) [(⟨z_api_Route.Prefix, IntKind.wrap .i64 ((-1) - s54), z_api_Route.Via⟩ : api_Route)] (owed := []) Ty32 (by rfl) (Cod.arr_enc _ _ _) (by rfl) (fun r162 => ?_)
  refine OW.nil <| OJ.go 1 [(24, Sl.v r162)] <| OJ.nil <| SJ.inBlock <| SJ.rg 3 <| OJ.go 3 [(25, .int .i64 (IntKind.wrap .i64 (s155 + 1))), (167, .int .i64 (IntKind.wrap .i64 (s155 + 1))), (166, .int .i64 s155)] <| OJ.nil <| SJ.forget (List.Sublist.cons _ (List.Sublist.cons_cons _ (List.Sublist.cons_cons _ List.Sublist.slnil))) ?_
  exact SJ.at_ [3, 5, 6, 7, 8, 9, 11, 12, 14, 22, 23, 24, 25] rfl
 ·refine SJ.exit (id := 10) (by rfl) <| SJ.rg 5 <| OJ.go 2 [(175, Sl.v s154), (174, Sl.v s53)] <| OJ.rowSlot (d := 176) (t := 46) (parts := [(0, .tmp 175)]) (ps := [(0, cL.val s154)]) (cd := cL) (⟨[s154], rfl⟩ : Vec Sl 1) (owed := []) Ty39 (Filled.cons (cd := cL) (q := s154) (o := 0) rfl (Upd.arr (i := 0) (by decide) (by decide)) Filled.nil) (fun b163 => ?_)
  refine OW.nil <| OJ.appl (d := 177) (t := 46) (u := 46) (so := .tmp 174) (xo := .tmp 176) (j := 0) (b := b163) (l := (cL.arr 1).enc (⟨[s154], rfl⟩ : Vec Sl 1)) (n := 1) (k := 1) [s154] (owed := []) Ty39 (by rfl) (Cod.arr_enc _ _ _) (by rfl) (fun r164 => ?_)
  refine OW.nil <| OJ.go 1 [(22, Sl.v r164)] <| OJ.nil <| SJ.inBlock <| SJ.rg 3 <| OJ.go 3 [(23, .int .i64 (IntKind.wrap .i64 (s54 + 1))), (159, .int .i64 (IntKind.wrap .i64 (s54 + 1))), (158, .int .i64 s54)] <| OJ.nil <| SJ.forget (List.Sublist.cons _ (List.Sublist.cons_cons _ (List.Sublist.cons_cons _ List.Sublist.slnil))) ?_
  exact SJ.at_ [3, 5, 6, 7, 8, 9, 11, 12, 14, 22, 23] rfl
noncomputable def weirlaw14_RouteLent.L3 (a1 : api_IP) (r5 : ((Option Addr) × Sl)) (r8 : ((Option Addr) × Sl)) (s12 : Sl) (r19 : Sl) (s21 : Sl) (s53 : Sl) (s54 : Int) : M (LS (Sl × Int) Bool) :=
 if s54 < (s21.len : Int) then
  idx s21.a s21.len s54 1 >>= fun p152 =>
  ld cL p152 >>= fun x153 =>
  loopM (fun s_ : (Sl × Int) => weirlaw14_RouteLent.L4 s53 s54 s_.1 s_.2) (x153, 0)
 else
  (weirlaw14_RouteLent.K2 a1 r5 r8 s12 r19 s21 s53) >>= fun b => pure (LS.done b)
theorem weirlaw14_RouteLent.L3_ok (a1 : api_IP) (b1 : Nat) (r5 : ((Option Addr) × Sl)) (r8 : ((Option Addr) × Sl)) (s12 : Sl) (b18 : Nat) (r19 : Sl) (s21 : Sl) (s53 : Sl) (s54 : Int) :
  SJ weirlaw14_RouteLent.cx [.code (c1 (c1 (c2 (c1 (c2 (c2 (c2 (c2 (c2 (c2 (c2 (c2 (c2 (c2 (c2 (c2 weirlaw14_RouteLent.B)))))))))))))))), .inLoop (c1 (c1 (c2 (c1 (c2 (c2 (c2 (c2 (c2 (c2 (c2 (c2 (c2 (c2 (c2 (c2 weirlaw14_RouteLent.B)))))))))))))))), .inBlock 8, .code (c2 (c2 (c2 (c2 (c2 (c2 (c2 (c2 (c2 (c2 (c2 (c2 (c2 weirlaw14_RouteLent.B)))))))))))))] [(3, .pointer (some (pt b1 0))), (5, .pointer r5.1), (6, Sl.v r5.2), (7, .pointer r8.1), (8, Sl.v r8.2), (9, Sl.v s12), (11, .pointer (some (pt b18 0))), (12, Sl.v r19), (14, Sl.v s21), (22, Sl.v s53), (23, .int .i64 s54)] [(b18, c_api_IP.enc (⟨4, (⟨[10, 9, 0, 0, 0, 0, 0, 0, 0, 0, 0, 0, 0, 0, 0, 0], rfl⟩ : (Vec Int 16))⟩ : api_IP)), (b1, c_api_IP.enc a1)] (weirlaw14_RouteLent.L3 a1 r5 r8 s12 r19 s21 s53 s54) (weirlaw14_RouteLent.F3 a1 b1 r5 r8 s12 b18 r19 s21) := by
 unfold weirlaw14_RouteLent.L3
 refine SJ.seq <| SJ.sr 4 <| OJ.go 4 [(157, .bool (decide (s54 < (s21.len : Int)))), (156, .int .i64 (s21.len : Int)), (155, Sl.v s21), (154, .int .i64 s54)] <| OJ.nil <| SJ.cond (t := (.tmp 157)) (b := decide (s54 < (s21.len : Int))) decide_eq_true_iff (fun hc166 => ?_) (fun hc166 => ?_)
 ·refine SJ.skip <| SJ.seq <| SJ.block (id := 9) <| SJ.sr 5 <| OJ.go 2 [(161, .int .i64 s54), (160, Sl.v s21)] <| OJ.idxS (d := 162) (T := 46) (y := .tmp 160) (j := .tmp 161) (E := 39) (cap := s21.cap) (k := .i64) (fun p152 => ?_)
  refine OJ.ld (d := 163) (y := .tmp 162) (pend2 := fun x153 => []) Ty39 (fun _ => rfl) (fun x153 => ?_)
  exact OJ.go 1 [(24, Sl.v x153)] <| OJ.nil <| SJ.seq <| SJ.sr 1 <| OJ.go 1 [(25, .int .i64 0)] <| OJ.nil <| SJ.block (id := 10) <| SJ.loop (fun s_ : (Sl × Int) => [(3, .pointer (some (pt b1 0))), (5, .pointer r5.1), (6, Sl.v r5.2), (7, .pointer r8.1), (8, Sl.v r8.2), (9, Sl.v s12), (11, .pointer (some (pt b18 0))), (12, Sl.v r19), (14, Sl.v s21), (22, Sl.v s53), (23, .int .i64 s54), (24, Sl.v s_.1), (25, .int .i64 s_.2)]) (fun s_ : (Sl × Int) => [(b18, c_api_IP.enc (⟨4, (⟨[10, 9, 0, 0, 0, 0, 0, 0, 0, 0, 0, 0, 0, 0, 0, 0], rfl⟩ : (Vec Int 16))⟩ : api_IP)), (b1, c_api_IP.enc a1)]) [3, 5, 6, 7, 8, 9, 11, 12, 14, 22, 23, 24, 25] rfl (fun _ _ => rfl) (fun s_ => weirlaw14_RouteLent.L4_ok a1 b1 r5 r8 s12 b18 r19 s21 s53 s54 s_.1 s_.2)
 ·refine SJ.exit (id := 8) (by rfl) <| SJ.less [3, 5, 6, 7, 8, 9, 11, 12, 14, 22] (m' := [(3, .pointer (some (pt b1 0))), (5, .pointer r5.1), (6, Sl.v r5.2), (7, .pointer r8.1), (8, Sl.v r8.2), (9, Sl.v s12), (11, .pointer (some (pt b18 0))), (12, Sl.v r19), (14, Sl.v s21), (22, Sl.v s53)]) ?_
  refine SJ.done ?_
  exact weirlaw14_RouteLent.K2_ok a1 b1 r5 r8 s12 b18 r19 s21 s53
noncomputable def weirlaw14_RouteLent.K3 (a1 : api_IP) (r5 : ((Option Addr) × Sl)) (r8 : ((Option Addr) × Sl)) (s12 : Sl) (r19 : Sl) (s21 : Sl) : M Bool :=
 loopM (fun s_ : (Sl × Int) => weirlaw14_RouteLent.L3 a1 r5 r8 s12 r19 s21 s_.1 s_.2) (Sl.nil, 0)
theorem weirlaw14_RouteLent.K3_ok (a1 : api_IP) (b1 : Nat) (r5 : ((Option Addr) × Sl)) (r8 : ((Option Addr) × Sl)) (s12 : Sl) (b18 : Nat) (r19 : Sl) (s21 : Sl) :
  SJ weirlaw14_RouteLent.cx [.code (c2 (c2 (c2 (c2 (c2 (c2 (c2 (c2 (c2 (c2 (c2 weirlaw14_RouteLent.B)))))))))))] [(3, .pointer (some (pt b1 0))), (5, .pointer r5.1), (6, Sl.v r5.2), (7, .pointer r8.1), (8, Sl.v r8.2), (9, Sl.v s12), (11, .pointer (some (pt b18 0))), (12, Sl.v r19), (14, Sl.v s21)] [(b18, c_api_IP.enc (⟨4, (⟨[10, 9, 0, 0, 0, 0, 0, 0, 0, 0, 0, 0, 0, 0, 0, 0], rfl⟩ : (Vec Int 16))⟩ : api_IP)), (b1, c_api_IP.enc a1)] (weirlaw14_RouteLent.K3 a1 r5 r8 s12 r19 s21) weirlaw14_RouteLent.F0 := by
 unfold weirlaw14_RouteLent.K3
 exact SJ.sr 1 <| OJ.go 1 [(22, Sl.v Sl.nil)] <| OJ.nil <| SJ.seq <| SJ.sr 1 <| OJ.go 1 [(23, .int .i64 0)] <| OJ.nil <| SJ.block (id := 8) <| SJ.loop (fun s_ : (Sl × Int) => [(3, .pointer (some (pt b1 0))), (5, .pointer r5.1), (6, Sl.v r5.2), (7, .pointer r8.1), (8, Sl.v r8.2), (9, Sl.v s12), (11, .pointer (some (pt b18 0))), (12, Sl.v r19), (14, Sl.v s21), (22, Sl.v s_.1), (23, .int .i64 s_.2)]) (fun s_ : (Sl × Int) => [(b18, c_api_IP.enc (⟨4, (⟨[10, 9, 0, 0, 0, 0, 0, 0, 0, 0, 0, 0, 0, 0, 0, 0], rfl⟩ : (Vec Int 16))⟩ : api_IP)), (b1, c_api_IP.enc a1)]) [3, 5, 6, 7, 8, 9, 11, 12, 14, 22, 23] rfl (fun _ _ => rfl) (fun s_ => weirlaw14_RouteLent.L3_ok a1 b1 r5 r8 s12 b18 r19 s21 s_.1 s_.2)
noncomputable def weirlaw14_RouteLent.F5 (a1 : api_IP) (b1 : Nat) (r5 : ((Option Addr) × Sl)) (r8 : ((Option Addr) × Sl)) (s12 : Sl) (b18 : Nat) (r19 : Sl) (s21 : Sl) : (LS Int Bool) → Reach := loopF [.inLoop (c1 (c1 (c2 (c1 (c2 (c2 (c2 (c2 (c2 (c2 (c2 (c2 (c2 (c2 weirlaw14_RouteLent.B)))))))))))))), .inBlock 4, .code (c2 (c2 (c2 (c2 (c2 (c2 (c2 (c2 (c2 (c2 (c2 weirlaw14_RouteLent.B)))))))))))] (fun s_ : Int => [(3, .pointer (some (pt b1 0))), (5, .pointer r5.1), (6, Sl.v r5.2), (7, .pointer r8.1), (8, Sl.v r8.2), (9, Sl.v s12), (11, .pointer (some (pt b18 0))), (12, Sl.v r19), (14, Sl.v s21), (20, .int .i64 s_)]) (fun s_ : Int => [(b18, c_api_IP.enc (⟨4, (⟨[10, 9, 0, 0, 0, 0, 0, 0, 0, 0, 0, 0, 0, 0, 0, 0], rfl⟩ : (Vec Int 16))⟩ : api_IP)), (b1, c_api_IP.enc a1)]) weirlaw14_RouteLent.F0
noncomputable def weirlaw14_RouteLent.F6 (a1 : api_IP) (b1 : Nat) (r5 : ((Option Addr) × Sl)) (r8 : ((Option Addr) × Sl)) (s12 : Sl) (b18 : Nat) (r19 : Sl) (s21 : Sl) (s38 : Int) : (LS Int (LS Int Bool)) → Reach := loopF [.inLoop (c1 (c1 (c2 (c1 (c1 (c2 (c1 (c1 (c2 (c1 (c2 (c2 (c2 (c2 (c2 (c2 (c2 (c2 (c2 (c2 weirlaw14_RouteLent.B)))))))))))))))))))), .inBlock 6, .inBlock 5, .code (c2 (c2 (c1 (c1 (c2 (c1 (c2 (c2 (c2 (c2 (c2 (c2 (c2 (c2 (c2 (c2 weirlaw14_RouteLent.B)))))))))))))))), .inLoop (c1 (c1 (c2 (c1 (c2 (c2 (c2 (c2 (c2 (c2 (c2 (c2 (c2 (c2 weirlaw14_RouteLent.B)))))))))))))), .inBlock 4, .code (c2 (c2 (c2 (c2 (c2 (c2 (c2 (c2 (c2 (c2 (c2 weirlaw14_RouteLent.B)))))))))))] (fun s_ : Int => [(3, .pointer (some (pt b1 0))), (5, .pointer r5.1), (6, Sl.v r5.2), (7, .pointer r8.1), (8, Sl.v r8.2), (9, Sl.v s12), (11, .pointer (some (pt b18 0))), (12, Sl.v r19), (14, Sl.v s21), (20, .int .i64 s38), (21, .int .i64 s_)]) (fun s_ : Int => [(b18, c_api_IP.enc (⟨4, (⟨[10, 9, 0, 0, 0, 0, 0, 0, 0, 0, 0, 0, 0, 0, 0, 0], rfl⟩ : (Vec Int 16))⟩ : api_IP)), (b1, c_api_IP.enc a1)]) (weirlaw14_RouteLent.F5 a1 b1 r5 r8 s12 b18 r19 s21)
noncomputable def weirlaw14_RouteLent.L6 (s21 : Sl) (s38 : Int) (s167 : Int) : M (LS Int (LS Int Bool)) :=
 idx s21.a s21.len s38 1 >>= fun p174 =>
 ld cL p174 >>= fun x175 =>
 if s167 < (x175.len : Int) then
  idx s21.a s21.len s38 1 >>= fun p176 =>
  ld cL p176 >>= fun x177 =>
  idx x177.a x177.len s167 36 >>= fun p178 =>
  st c_api_Route p178 (⟨z_api_Route.Prefix, IntKind.wrap .i64 ((-1) - s38), z_api_Route.Via⟩ : api_Route) >>= fun _ =>
  pure (LS.next (IntKind.wrap .i64 (s167 + 1)))
 else
  pure (LS.done (LS.next (IntKind.wrap .i64 (s38 + 1))))
theorem weirlaw14_RouteLent.L6_ok (a1 : api_IP) (b1 : Nat) (r5 : ((Option Addr) × Sl)) (r8 : ((Option Addr) × Sl)) (s12 : Sl) (b18 : Nat) (r19 : Sl) (s21 : Sl) (s38 : Int) (s167 : Int) :
  SJ weirlaw14_RouteLent.cx [.code (c1 (c1 (c2 (c1 (c1 (c2 (c1 (c1 (c2 (c1 (c2 (c2 (c2 (c2 (c2 (c2 (c2 (c2 (c2 (c2 weirlaw14_RouteLent.B)))))))))))))))))))), .inLoop (c1 (c1 (c2 (c1 (c1 (c2 (c1 (c1 (c2 (c1 (c2 (c2 (c2 (c2 (c2 (c2 (c2 (c2 (c2 (c2 weirlaw14_RouteLent.B)))))))))))))))))))), .inBlock 6, .inBlock 5, .code (c2 (c2 (c1 (c1 (c2 (c1 (c2 (c2 (c2 (c2 (c2 (c2 (c2 (c2 (c2 (c2 weirlaw14_RouteLent.B)))))))))))))))), .inLoop (c1 (c1 (c2 (c1 (c2 (c2 (c2 (c2 (c2 (c2 (c2 (c2 (c2 (c2 weirlaw14_RouteLent.B)))))))))))))), .inBlock 4, .code (c2 (c2 (c2 (c2 (c2 (c2 (c2 (c2 (c2 (c2 (c2 weirlaw14_RouteLent.B)))))))))))] [(3, .pointer (some (pt b1 0))), (5, .pointer r5.1), (6, Sl.v r5.2), (7, .pointer r8.1), (8, Sl.v r8.2), (9, Sl.v s12), (11, .pointer (some (pt b18 0))), (12, Sl.v r19), (14, Sl.v s21), (20, .int .i64 s38), (21, .int .i64 s167)] [(b18, c_api_IP.enc (⟨4, (⟨[10, 9, 0, 0, 0, 0, 0, 0, 0, 0, 0, 0, 0, 0, 0, 0], rfl⟩ : (Vec Int 16))⟩ : api_IP)), (b1, c_api_IP.enc a1)] (weirlaw14_RouteLent.L6 s21 s38 s167) (weirlaw14_RouteLent.F6 a1 b1 r5 r8 s12 b18 r19 s21 s38) := by
 unfold weirlaw14_RouteLent.L6
 refine SJ.seq <| SJ.sr 7 <| OJ.go 3 [(138, .int .i64 s38), (137, Sl.v s21), (136, .int .i64 s167)] <| OJ.idxS (d := 139) (T := 46) (y := .tmp 137) (j := .tmp 138) (E := 39) (cap := s21.cap) (k := .i64) (fun p174 => ?_)
 refine OJ.ld (d := 140) (y := .tmp 139) (pend2 := fun x175 => []) Ty39 (fun _ => rfl) (fun x175 => ?_)
 refine OJ.go 2 [(142, .bool (decide (s167 < (x175.len : Int)))), (141, .int .i64 (x175.len : Int))] <| OJ.nil <| SJ.cond (t := (.tmp 142)) (b := decide (s167 < (x175.len : Int))) decide_eq_true_iff (fun hc179 => ?_) (fun hc179 => ?_)
 ·refine SJ.skip <| SJ.seq <| SJ.block (id := 7) <| SJ.rg 10 <| OJ.go 2 [(146, .int .i64 s38), (145, Sl.v s21)] <| OJ.idxS (d := 147) (T := 46) (y := .tmp 145) (j := .tmp 146) (E := 39) (cap := s21.cap) (k := .i64) (fun p176 => ?_)
  refine OJ.ld (d := 148) (y := .tmp 147) (pend2 := fun x177 => []) Ty39 (fun _ => rfl) (fun x177 => ?_)
  refine OJ.go 3 [(151, .int .i64 (IntKind.wrap .i64 ((-1) - s38))), (150, .int .i64 s38), (149, .int .i64 s167)] <| OJ.build (d := 152) (T := 32) (parts := [(1, .tmp 151)]) (ps := [(1, (cI .i64).val (IntKind.wrap .i64 ((-1) - s38)))]) (cd := c_api_Route) (z0 := z_api_Route) (⟨z_api_Route.Prefix, IntKind.wrap .i64 ((-1) - s38), z_api_Route.Via⟩ : api_Route) Ty32 rfl (Filled.cons (cd := (cI .i64)) (q := (IntKind.wrap .i64 ((-1) - s38))) (o := 18) (by kernel_rfl) (Up_api_Route_Port z_api_Route (IntKind.wrap .i64 ((-1) - s38))) Filled.nil) ?_
  refine OJ.idxS (d := 153) (T := 39) (y := .tmp 148) (j := .tmp 149) (E := 32) (cap := x177.cap) (k := .i64) (fun p178 => ?_)
  refine OJ.st (y := .tmp 153) (z := .tmp 152) (owed := []) Ty32 ?_
  exact OW.nil <| OJ.nil <| SJ.inBlock <| SJ.rg 3 <| OJ.go 3 [(21, .int .i64 (IntKind.wrap .i64 (s167 + 1))), (144, .int .i64 (IntKind.wrap .i64 (s167 + 1))), (143, .int .i64 s167)] <| OJ.nil <| SJ.at_ [3, 5, 6, 7, 8, 9, 11, 12, 14, 20, 21] rfl
 ·exact SJ.exit (id := 6) (by rfl) <| SJ.inBlock <| SJ.rg 3 <| OJ.go 3 [(20, .int .i64 (IntKind.wrap .i64 (s38 + 1))), (135, .int .i64 (IntKind.wrap .i64 (s38 + 1))), (134, .int .i64 s38)] <| OJ.nil <| SJ.at_ [3, 5, 6, 7, 8, 9, 11, 12, 14, 20] rfl
noncomputable def weirlaw14_RouteLent.L5 (a1 : api_IP) (r5 : ((Option Addr) × Sl)) (r8 : ((Option Addr) × Sl)) (s12 : Sl) (r19 : Sl) (s21 : Sl) (s38 : Int) : M (LS Int Bool) :=
 if s38 < (s21.len : Int) then
  loopM (fun s_ : Int => weirlaw14_RouteLent.L6 s21 s38 s_) 0
 else
  (weirlaw14_RouteLent.K3 a1 r5 r8 s12 r19 s21) >>= fun b => pure (LS.done b)
theorem weirlaw14_RouteLent.L5_ok (a1 : api_IP) (b1 : Nat) (r5 : ((Option Addr) × Sl)) (r8 : ((Option Addr) × Sl)) (s12 : Sl) (b18 : Nat) (r19 : Sl) (s21 : Sl) (s38 : Int) :
  SJ weirlaw14_RouteLent.cx [.code (c1 (c1 (c2 (c1 (c2 (c2 (c2 (c2 (c2 (c2 (c2 (c2 (c2 (c2 weirlaw14_RouteLent.B)))))))))))))), .inLoop (c1 (c1 (c2 (c1 (c2 (c2 (c2 (c2 (c2 (c2 (c2 (c2 (c2 (c2 weirlaw14_RouteLent.B)))))))))))))), .inBlock 4, .code (c2 (c2 (c2 (c2 (c2 (c2 (c2 (c2 (c2 (c2 (c2 weirlaw14_RouteLent.B)))))))))))] [(3, .pointer (some (pt b1 0))), (5, .pointer r5.1), (6, Sl.v r5.2), (7, .pointer r8.1), (8, Sl.v r8.2), (9, Sl.v s12), (11, .pointer (some (pt b18 0))), (12, Sl.v r19), (14, Sl.v s21), (20, .int .i64 s38)] [(b18, c_api_IP.enc (⟨4, (⟨[10, 9, 0, 0, 0, 0, 0, 0, 0, 0, 0, 0, 0, 0, 0, 0], rfl⟩ : (Vec Int 16))⟩ : api_IP)), (b1, c_api_IP.enc a1)] (weirlaw14_RouteLent.L5 a1 r5 r8 s12 r19 s21 s38) (weirlaw14_RouteLent.F5 a1 b1 r5 r8 s12 b18 r19 s21) := by
 unfold weirlaw14_RouteLent.L5
 refine SJ.seq <| SJ.sr 4 <| OJ.go 4 [(133, .bool (decide (s38 < (s21.len : Int)))), (132, .int .i64 (s21.len : Int)), (131, Sl.v s21), (130, .int .i64 s38)] <| OJ.nil <| SJ.cond (t := (.tmp 133)) (b := decide (s38 < (s21.len : Int))) decide_eq_true_iff (fun hc180 => ?_) (fun hc180 => ?_)
 ·exact SJ.skip <| SJ.seq <| SJ.block (id := 5) <| SJ.sr 1 <| OJ.go 1 [(21, .int .i64 0)] <| OJ.nil <| SJ.block (id := 6) <| SJ.loop (fun s_ : Int => [(3, .pointer (some (pt b1 0))), (5, .pointer r5.1), (6, Sl.v r5.2), (7, .pointer r8.1), (8, Sl.v r8.2), (9, Sl.v s12), (11, .pointer (some (pt b18 0))), (12, Sl.v r19), (14, Sl.v s21), (20, .int .i64 s38), (21, .int .i64 s_)]) (fun s_ : Int => [(b18, c_api_IP.enc (⟨4, (⟨[10, 9, 0, 0, 0, 0, 0, 0, 0, 0, 0, 0, 0, 0, 0, 0], rfl⟩ : (Vec Int 16))⟩ : api_IP)), (b1, c_api_IP.enc a1)]) [3, 5, 6, 7, 8, 9, 11, 12, 14, 20, 21] rfl (fun _ _ => rfl) (fun s_ => weirlaw14_RouteLent.L6_ok a1 b1 r5 r8 s12 b18 r19 s21 s38 s_)
 ·refine SJ.exit (id := 4) (by rfl) <| SJ.less [3, 5, 6, 7, 8, 9, 11, 12, 14] (m' := [(3, .pointer (some (pt b1 0))), (5, .pointer r5.1), (6, Sl.v r5.2), (7, .pointer r8.1), (8, Sl.v r8.2), (9, Sl.v s12), (11, .pointer (some (pt b18 0))), (12, Sl.v r19), (14, Sl.v s21)]) ?_
  refine SJ.done ?_
  exact weirlaw14_RouteLent.K3_ok a1 b1 r5 r8 s12 b18 r19 s21
noncomputable def weirlaw14_RouteLent.K4 (a1 : api_IP) (r5 : ((Option Addr) × Sl)) (r8 : ((Option Addr) × Sl)) (s12 : Sl) (r19 : Sl) (s21 : Sl) : M Bool :=
 loopM (fun s_ : Int => weirlaw14_RouteLent.L5 a1 r5 r8 s12 r19 s21 s_) 0
theorem weirlaw14_RouteLent.K4_ok (a1 : api_IP) (b1 : Nat) (r5 : ((Option Addr) × Sl)) (r8 : ((Option Addr) × Sl)) (s12 : Sl) (b18 : Nat) (r19 : Sl) (s21 : Sl) :
  SJ weirlaw14_RouteLent.cx [.code (c2 (c2 (c2 (c2 (c2 (c2 (c2 (c2 (c2 (c2 weirlaw14_RouteLent.B))))))))))] [(3, .pointer (some (pt b1 0))), (5, .pointer r5.1), (6, Sl.v r5.2), (7, .pointer r8.1), (8, Sl.v r8.2), (9, Sl.v s12), (11, .pointer (some (pt b18 0))), (12, Sl.v r19), (14, Sl.v s21)] [(b18, c_api_IP.enc (⟨4, (⟨[10, 9, 0, 0, 0, 0, 0, 0, 0, 0, 0, 0, 0, 0, 0, 0], rfl⟩ : (Vec Int 16))⟩ : api_IP)), (b1, c_api_IP.enc a1)] (weirlaw14_RouteLent.K4 a1 r5 r8 s12 r19 s21) weirlaw14_RouteLent.F0 := by
 unfold weirlaw14_RouteLent.K4
 exact SJ.seq <| SJ.sr 1 <| OJ.go 1 [(20, .int .i64 0)] <| OJ.nil <| SJ.block (id := 4) <| SJ.loop (fun s_ : Int => [(3, .pointer (some (pt b1 0))), (5, .pointer r5.1), (6, Sl.v r5.2), (7, .pointer r8.1), (8, Sl.v r8.2), (9, Sl.v s12), (11, .pointer (some (pt b18 0))), (12, Sl.v r19), (14, Sl.v s21), (20, .int .i64 s_)]) (fun s_ : Int => [(b18, c_api_IP.enc (⟨4, (⟨[10, 9, 0, 0, 0, 0, 0, 0, 0, 0, 0, 0, 0, 0, 0, 0], rfl⟩ : (Vec Int 16))⟩ : api_IP)), (b1, c_api_IP.enc a1)]) [3, 5, 6, 7, 8, 9, 11, 12, 14, 20] rfl (fun _ _ => rfl) (fun s_ => weirlaw14_RouteLent.L5_ok a1 b1 r5 r8 s12 b18 r19 s21 s_)
noncomputable def weirlaw14_RouteLent.F7 (a1 : api_IP) (b1 : Nat) (r5 : ((Option Addr) × Sl)) (r8 : ((Option Addr) × Sl)) (s12 : Sl) (b18 : Nat) (r19 : Sl) (r20 : Sl) : (LS (Sl × Int) Bool) → Reach := loopF [.inLoop (c1 (c1 (c2 (c1 (c2 (c2 (c2 (c2 (c2 (c2 (c2 (c2 (c2 weirlaw14_RouteLent.B))))))))))))), .inBlock 2, .code (c2 (c2 (c2 (c2 (c2 (c2 (c2 (c2 (c2 (c2 weirlaw14_RouteLent.B))))))))))] (fun s_ : (Sl × Int) => [(3, .pointer (some (pt b1 0))), (5, .pointer r5.1), (6, Sl.v r5.2), (7, .pointer r8.1), (8, Sl.v r8.2), (9, Sl.v s12), (11, .pointer (some (pt b18 0))), (12, Sl.v r19), (13, Sl.v r20), (14, Sl.v s_.1), (15, .int .i64 s_.2)]) (fun s_ : (Sl × Int) => [(b18, c_api_IP.enc (⟨4, (⟨[10, 9, 0, 0, 0, 0, 0, 0, 0, 0, 0, 0, 0, 0, 0, 0], rfl⟩ : (Vec Int 16))⟩ : api_IP)), (b1, c_api_IP.enc a1)]) weirlaw14_RouteLent.F0
noncomputable def weirlaw14_RouteLent.L7 (a1 : api_IP) (r5 : ((Option Addr) × Sl)) (r8 : ((Option Addr) × Sl)) (s12 : Sl) (r19 : Sl) (r20 : Sl) (s21 : Sl) (s22 : Int) : M (LS (Sl × Int) Bool) :=
 if s22 < 2 then
  draw >>= fun _ =>
  route_Table_Matches r5.1 a1 >>= fun r181 =>
  route_Table_Matches r5.1 a1 >>= fun r182 =>
  route_Table_Matches r5.1 (⟨4, (⟨[10, 9, 0, 0, 0, 0, 0, 0, 0, 0, 0, 0, 0, 0, 0, 0], rfl⟩ : (Vec Int 16))⟩ : api_IP) >>= fun r183 =>
  route_Table_Matches r8.1 (⟨4, (⟨[10, 9, 0, 0, 0, 0, 0, 0, 0, 0, 0, 0, 0, 0, 0, 0], rfl⟩ : (Vec Int 16))⟩ : api_IP) >>= fun r184 =>
  weirlaw14_same r181 r19 >>= fun r185 =>
  (if ¬ (r185 = true) then
    pure true
   else
    weirlaw14_same r182 r19 >>= fun r186 =>
    pure (!r186)) >>= fun y187 =>
  (if y187 = true then
    pure true
   else
    weirlaw14_same r183 r20 >>= fun r188 =>
    pure (!r188)) >>= fun y189 =>
  (if y189 = true then
    pure true
   else
    weirlaw14_same r184 r8.2 >>= fun r190 =>
    pure (!r190)) >>= fun y191 =>
  if y191 = true then
   pure (LS.done false)
  else
   slot 39 >>= fun b192 =>
   appl cL 39 24 Sl.nil s21 [r181, r182, r183, r184] >>= fun r193 =>
   pure (LS.next (r193, IntKind.wrap .i64 (s22 + 1)))
 else
  (weirlaw14_RouteLent.K4 a1 r5 r8 s12 r19 s21) >>= fun b => pure (LS.done b)
theorem weirlaw14_RouteLent.L7_ok (a1 : api_IP) (b1 : Nat) (r5 : ((Option Addr) × Sl)) (r8 : ((Option Addr) × Sl)) (s12 : Sl) (b18 : Nat) (r19 : Sl) (r20 : Sl) (s21 : Sl) (s22 : Int) :
  SJ weirlaw14_RouteLent.cx [.code (c1 (c1 (c2 (c1 (c2 (c2 (c2 (c2 (c2 (c2 (c2 (c2 (c2 weirlaw14_RouteLent.B))))))))))))), .inLoop (c1 (c1 (c2 (c1 (c2 (c2 (c2 (c2 (c2 (c2 (c2 (c2 (c2 weirlaw14_RouteLent.B))))))))))))), .inBlock 2, .code (c2 (c2 (c2 (c2 (c2 (c2 (c2 (c2 (c2 (c2 weirlaw14_RouteLent.B))))))))))] [(3, .pointer (some (pt b1 0))), (5, .pointer r5.1), (6, Sl.v r5.2), (7, .pointer r8.1), (8, Sl.v r8.2), (9, Sl.v s12), (11, .pointer (some (pt b18 0))), (12, Sl.v r19), (13, Sl.v r20), (14, Sl.v s21), (15, .int .i64 s22)] [(b18, c_api_IP.enc (⟨4, (⟨[10, 9, 0, 0, 0, 0, 0, 0, 0, 0, 0, 0, 0, 0, 0, 0], rfl⟩ : (Vec Int 16))⟩ : api_IP)), (b1, c_api_IP.enc a1)] (weirlaw14_RouteLent.L7 a1 r5 r8 s12 r19 r20 s21 s22) (weirlaw14_RouteLent.F7 a1 b1 r5 r8 s12 b18 r19 r20) := by
 unfold weirlaw14_RouteLent.L7
 refine SJ.seq <| SJ.sr 2 <| OJ.go 2 [(86, .bool (decide (s22 < 2))), (85, .int .i64 s22)] <| OJ.nil <| SJ.cond (t := (.tmp 86)) (b := decide (s22 < 2)) decide_eq_true_iff (fun hc195 => ?_) (fun hc195 => ?_)
 ·refine SJ.skip <| SJ.seq <| SJ.block (id := 3) <| SJ.seq <| SJ.draw (id := 16) (kd := [0, 1, 2, 0, 1, 2, 0, 1, 2, 0, 1, 2, 0, 0, 0, 0]) (bef := [0, 0, 3, 0, 0, 31, 0, 0, 255, 0, 0, 2047, 4095, 8191, 16383, 32767]) (ord := [0, 1, 4, 7, 10, 2, 3, 5, 6, 8, 9, 11, 12, 13, 14, 15]) mixed ?_
  refine OJ.go 1 [(89, .pointer r5.1)] <| OJ.kld (d := 90) (y := .tmp 3) (cd := c_api_IP) (j := 1) (b := b1) (o := 0) a1 (pend2 := [⟨1, 28, (pt b1 0), c_api_IP.val a1⟩]) Ty28 rfl (At.whole _) rfl ?_
  refine OJ.kld (d := 93) (y := .tmp 3) (cd := c_api_IP) (j := 1) (b := b1) (o := 0) a1 (pend2 := [⟨4, 28, (pt b1 0), c_api_IP.val a1⟩, ⟨1, 28, (pt b1 0), c_api_IP.val a1⟩]) Ty28 rfl (At.whole _) rfl ?_
  refine OJ.kld (d := 96) (y := .tmp 11) (cd := c_api_IP) (j := 0) (b := b18) (o := 0) (⟨4, (⟨[10, 9, 0, 0, 0, 0, 0, 0, 0, 0, 0, 0, 0, 0, 0, 0], rfl⟩ : (Vec Int 16))⟩ : api_IP) (pend2 := [⟨7, 28, (pt b18 0), c_api_IP.val (⟨4, (⟨[10, 9, 0, 0, 0, 0, 0, 0, 0, 0, 0, 0, 0, 0, 0, 0], rfl⟩ : (Vec Int 16))⟩ : api_IP)⟩, ⟨4, 28, (pt b1 0), c_api_IP.val a1⟩, ⟨1, 28, (pt b1 0), c_api_IP.val a1⟩]) Ty28 rfl (At.whole _) rfl ?_
  refine OJ.kld (d := 99) (y := .tmp 11) (cd := c_api_IP) (j := 0) (b := b18) (o := 0) (⟨4, (⟨[10, 9, 0, 0, 0, 0, 0, 0, 0, 0, 0, 0, 0, 0, 0, 0], rfl⟩ : (Vec Int 16))⟩ : api_IP) (pend2 := [⟨10, 28, (pt b18 0), c_api_IP.val (⟨4, (⟨[10, 9, 0, 0, 0, 0, 0, 0, 0, 0, 0, 0, 0, 0, 0, 0], rfl⟩ : (Vec Int 16))⟩ : api_IP)⟩, ⟨7, 28, (pt b18 0), c_api_IP.val (⟨4, (⟨[10, 9, 0, 0, 0, 0, 0, 0, 0, 0, 0, 0, 0, 0, 0, 0], rfl⟩ : (Vec Int 16))⟩ : api_IP)⟩, ⟨4, 28, (pt b1 0), c_api_IP.val a1⟩, ⟨1, 28, (pt b1 0), c_api_IP.val a1⟩]) Ty28 rfl (At.whole _) rfl ?_
  refine OJ.call (d := 91) (g := 19) (ats := #[22, 28]) (args := [.tmp 89, .tmp 90]) (owed := [⟨10, 28, (pt b18 0), c_api_IP.val (⟨4, (⟨[10, 9, 0, 0, 0, 0, 0, 0, 0, 0, 0, 0, 0, 0, 0, 0], rfl⟩ : (Vec Int 16))⟩ : api_IP)⟩, ⟨7, 28, (pt b18 0), c_api_IP.val (⟨4, (⟨[10, 9, 0, 0, 0, 0, 0, 0, 0, 0, 0, 0, 0, 0, 0, 0], rfl⟩ : (Vec Int 16))⟩ : api_IP)⟩, ⟨4, 28, (pt b1 0), c_api_IP.val a1⟩]) F19 (route_Table_Matches_ok r5.1 a1) (fun r181 => ?_)
  refine OW.known (j := 0) (q := (⟨4, (⟨[10, 9, 0, 0, 0, 0, 0, 0, 0, 0, 0, 0, 0, 0, 0, 0], rfl⟩ : (Vec Int 16))⟩ : api_IP)) Ty28 rfl (At.whole _) ?_
  refine OW.known (j := 0) (q := (⟨4, (⟨[10, 9, 0, 0, 0, 0, 0, 0, 0, 0, 0, 0, 0, 0, 0, 0], rfl⟩ : (Vec Int 16))⟩ : api_IP)) Ty28 rfl (At.whole _) ?_
  refine OW.known (j := 1) (q := a1) Ty28 rfl (At.whole _) ?_
  refine OW.nil <| OJ.go 1 [(92, .pointer r5.1)] <| OJ.call (d := 94) (g := 19) (ats := #[22, 28]) (args := [.tmp 92, .tmp 93]) (owed := [⟨10, 28, (pt b18 0), c_api_IP.val (⟨4, (⟨[10, 9, 0, 0, 0, 0, 0, 0, 0, 0, 0, 0, 0, 0, 0, 0], rfl⟩ : (Vec Int 16))⟩ : api_IP)⟩, ⟨7, 28, (pt b18 0), c_api_IP.val (⟨4, (⟨[10, 9, 0, 0, 0, 0, 0, 0, 0, 0, 0, 0, 0, 0, 0, 0], rfl⟩ : (Vec Int 16))⟩ : api_IP)⟩]) F19 (route_Table_Matches_ok r5.1 a1) (fun r182 => ?_)
  refine OW.known (j := 0) (q := (⟨4, (⟨[10, 9, 0, 0, 0, 0, 0, 0, 0, 0, 0, 0, 0, 0, 0, 0], rfl⟩ : (Vec Int 16))⟩ : api_IP)) Ty28 rfl (At.whole _) ?_
  refine OW.known (j := 0) (q := (⟨4, (⟨[10, 9, 0, 0, 0, 0, 0, 0, 0, 0, 0, 0, 0, 0, 0, 0], rfl⟩ : (Vec Int 16))⟩ : api_IP)) Ty28 rfl (At.whole _) ?_
  refine OW.nil <| OJ.go 1 [(95, .pointer r5.1)] <| OJ.call (d := 97) (g := 19) (ats := #[22, 28]) (args := [.tmp 95, .tmp 96]) (owed := [⟨10, 28, (pt b18 0), c_api_IP.val (⟨4, (⟨[10, 9, 0, 0, 0, 0, 0, 0, 0, 0, 0, 0, 0, 0, 0, 0], rfl⟩ : (Vec Int 16))⟩ : api_IP)⟩]) F19 (route_Table_Matches_ok r5.1 (⟨4, (⟨[10, 9, 0, 0, 0, 0, 0, 0, 0, 0, 0, 0, 0, 0, 0, 0], rfl⟩ : (Vec Int 16))⟩ : api_IP)) (fun r183 => ?_)
  refine OW.known (j := 0) (q := (⟨4, (⟨[10, 9, 0, 0, 0, 0, 0, 0, 0, 0, 0, 0, 0, 0, 0, 0], rfl⟩ : (Vec Int 16))⟩ : api_IP)) Ty28 rfl (At.whole _) ?_
  refine OW.nil <| OJ.go 1 [(98, .pointer r8.1)] <| OJ.call (d := 100) (g := 19) (ats := #[22, 28]) (args := [.tmp 98, .tmp 99]) (owed := []) F19 (route_Table_Matches_ok r8.1 (⟨4, (⟨[10, 9, 0, 0, 0, 0, 0, 0, 0, 0, 0, 0, 0, 0, 0, 0], rfl⟩ : (Vec Int 16))⟩ : api_IP)) (fun r184 => ?_)
  refine OW.nil <| OJ.go 4 [(19, Sl.v r184), (18, Sl.v r183), (17, Sl.v r182), (16, Sl.v r181)] <| OJ.nil <| SJ.seq <| SJ.sr 22 <| OJ.go 2 [(102, Sl.v r19), (101, Sl.v r181)] <| OJ.call (d := 103) (g := 20) (ats := #[39, 39]) (args := [.tmp 101, .tmp 102]) (owed := []) F20 (weirlaw14_same_ok r181 r19) (fun r185 => ?_)
  refine OW.nil <| OJ.go 2 [(105, .bool (!r185)), (104, .bool (!r185))] <| OJ.join (b := (!r185)) [5, 6, 7, 8, 9] [10, 11, 12, 13, 14, 15, 16, 17, 18, 19, 20, 21] [3, 5, 6, 7, 8, 9, 11, 12, 13, 14, 15, 16, 17, 18, 19, 110] (fun y187 => [(3, .pointer (some (pt b1 0))), (5, .pointer r5.1), (6, Sl.v r5.2), (7, .pointer r8.1), (8, Sl.v r8.2), (9, Sl.v s12), (11, .pointer (some (pt b18 0))), (12, Sl.v r19), (13, Sl.v r20), (14, Sl.v s21), (15, .int .i64 s22), (16, Sl.v r181), (17, Sl.v r182), (18, Sl.v r183), (19, Sl.v r184), (110, .bool y187)]) [] [] (t := 105) (bnot_iff Iff.rfl) (fun hp_ => ?_) (fun hp_ => ?_) (fun _ _ _ _ _ _ h_ => h_) (fun y187 => ?_)
  ·exact OJ.go 5 [(110, .bool true), (109, undef), (108, undef), (107, undef), (106, undef)] <| OJ.x0
  ·refine OJ.go 2 [(107, Sl.v r19), (106, Sl.v r182)] <| OJ.call (d := 108) (g := 20) (ats := #[39, 39]) (args := [.tmp 106, .tmp 107]) (owed := []) F20 (weirlaw14_same_ok r182 r19) (fun r186 => ?_)
   exact OW.nil <| OJ.go 2 [(110, .bool (!r186)), (109, .bool (!r186))] <| OJ.x0
  ·refine OJ.go 1 [(111, .bool y187)] <| OJ.join (b := y187) [11, 12, 13, 14, 15] [16, 17, 18, 19, 20, 21] [3, 5, 6, 7, 8, 9, 11, 12, 13, 14, 15, 16, 17, 18, 19, 116] (fun y189 => [(3, .pointer (some (pt b1 0))), (5, .pointer r5.1), (6, Sl.v r5.2), (7, .pointer r8.1), (8, Sl.v r8.2), (9, Sl.v s12), (11, .pointer (some (pt b18 0))), (12, Sl.v r19), (13, Sl.v r20), (14, Sl.v s21), (15, .int .i64 s22), (16, Sl.v r181), (17, Sl.v r182), (18, Sl.v r183), (19, Sl.v r184), (116, .bool y189)]) [] [] (t := 111) Iff.rfl (fun hp_ => ?_) (fun hp_ => ?_) (fun _ _ _ _ _ _ h_ => h_) (fun y189 => ?_)
   ·exact OJ.go 5 [(116, .bool true), (115, undef), (114, undef), (113, undef), (112, undef)] <| OJ.x0
   ·refine OJ.go 2 [(113, Sl.v r20), (112, Sl.v r183)] <| OJ.call (d := 114) (g := 20) (ats := #[39, 39]) (args := [.tmp 112, .tmp 113]) (owed := []) F20 (weirlaw14_same_ok r183 r20) (fun r188 => ?_)
    exact OW.nil <| OJ.go 2 [(116, .bool (!r188)), (115, .bool (!r188))] <| OJ.x0
   ·refine OJ.go 1 [(117, .bool y189)] <| OJ.join (b := y189) [17, 18, 19, 20, 21] [] [3, 5, 6, 7, 8, 9, 11, 12, 13, 14, 15, 16, 17, 18, 19, 122] (fun y191 => [(3, .pointer (some (pt b1 0))), (5, .pointer r5.1), (6, Sl.v r5.2), (7, .pointer r8.1), (8, Sl.v r8.2), (9, Sl.v s12), (11, .pointer (some (pt b18 0))), (12, Sl.v r19), (13, Sl.v r20), (14, Sl.v s21), (15, .int .i64 s22), (16, Sl.v r181), (17, Sl.v r182), (18, Sl.v r183), (19, Sl.v r184), (122, .bool y191)]) [] [] (t := 117) Iff.rfl (fun hp_ => ?_) (fun hp_ => ?_) (fun _ _ _ _ _ _ h_ => h_) (fun y191 => ?_)
    ·exact OJ.go 5 [(122, .bool true), (121, undef), (120, undef), (119, undef), (118, undef)] <| OJ.x0
    ·refine OJ.go 2 [(119, Sl.v r8.2), (118, Sl.v r184)] <| OJ.call (d := 120) (g := 20) (ats := #[39, 39]) (args := [.tmp 118, .tmp 119]) (owed := []) F20 (weirlaw14_same_ok r184 r8.2) (fun r190 => ?_)
     exact OW.nil <| OJ.go 2 [(122, .bool (!r190)), (121, .bool (!r190))] <| OJ.x0
    ·refine OJ.nil <| SJ.cond (t := (.tmp 122)) (b := y191) Iff.rfl (fun hc194 => ?_) (fun hc194 => ?_)
     ·exact SJ.sr 1 <| OJ.go 1 [(4, .bool false)] <| OJ.nil <| SJ.r1 (.bool false) rfl rfl
     ·refine SJ.skip <| SJ.rg 8 <| OJ.go 5 [(127, Sl.v r184), (126, Sl.v r183), (125, Sl.v r182), (124, Sl.v r181), (123, Sl.v s21)] <| OJ.rowSlot (d := 128) (t := 46) (parts := [(0, .tmp 124), (1, .tmp 125), (2, .tmp 126), (3, .tmp 127)]) (ps := [(0, cL.val r181), (1, cL.val r182), (2, cL.val r183), (3, cL.val r184)]) (cd := cL) (⟨[r181, r182, r183, r184], rfl⟩ : Vec Sl 4) (owed := []) Ty39 (Filled.cons (cd := cL) (q := r181) (o := 0) rfl (Upd.arr (i := 0) (by decide) (by decide)) (Filled.cons (cd := cL) (q := r182) (o := 1) rfl (Upd.arr (i := 1) (by decide) (by decide)) (Filled.cons (cd := cL) (q := r183) (o := 2) rfl (Upd.arr (i := 2) (by decide) (by decide)) (Filled.cons (cd := cL) (q := r184) (o := 3) rfl (Upd.arr (i := 3) (by decide) (by decide)) Filled.nil)))) (fun b192 => ?_)
      refine OW.nil <| OJ.appl (d := 129) (t := 46) (u := 46) (so := .tmp 123) (xo := .tmp 128) (j := 0) (b := b192) (l := (cL.arr 4).enc (⟨[r181, r182, r183, r184], rfl⟩ : Vec Sl 4)) (n := 4) (k := 4) [r181, r182, r183, r184] (owed := []) Ty39 (by rfl) (Cod.arr_enc _ _ _) (by rfl) (fun r193 => ?_)
      refine OW.nil <| OJ.go 1 [(14, Sl.v r193)] <| OJ.nil <| SJ.inBlock <| SJ.rg 3 <| OJ.go 3 [(15, .int .i64 (IntKind.wrap .i64 (s22 + 1))), (88, .int .i64 (IntKind.wrap .i64 (s22 + 1))), (87, .int .i64 s22)] <| OJ.nil <| SJ.forget (List.Sublist.cons _ (List.Sublist.cons_cons _ (List.Sublist.cons_cons _ List.Sublist.slnil))) ?_
      exact SJ.at_ [3, 5, 6, 7, 8, 9, 11, 12, 13, 14, 15] rfl
 ·refine SJ.exit (id := 2) (by rfl) <| SJ.less [3, 5, 6, 7, 8, 9, 11, 12, 14] (m' := [(3, .pointer (some (pt b1 0))), (5, .pointer r5.1), (6, Sl.v r5.2), (7, .pointer r8.1), (8, Sl.v r8.2), (9, Sl.v s12), (11, .pointer (some (pt b18 0))), (12, Sl.v r19), (14, Sl.v s21)]) ?_
  refine SJ.done ?_
  exact weirlaw14_RouteLent.K4_ok a1 b1 r5 r8 s12 b18 r19 s21
noncomputable def weirlaw14_RouteLent.K5 (a1 : api_IP) (r5 : ((Option Addr) × Sl)) (r8 : ((Option Addr) × Sl)) (s12 : Sl) : M Bool :=
 slot 28 >>= fun b18 =>
 draw >>= fun _ =>
 weirref14_Matches s12 a1 >>= fun r19 =>
 weirref14_Matches s12 (⟨4, (⟨[10, 9, 0, 0, 0, 0, 0, 0, 0, 0, 0, 0, 0, 0, 0, 0], rfl⟩ : (Vec Int 16))⟩ : api_IP) >>= fun r20 =>
 loopM (fun s_ : (Sl × Int) => weirlaw14_RouteLent.L7 a1 r5 r8 s12 r19 r20 s_.1 s_.2) (Sl.nil, 0)
theorem weirlaw14_RouteLent.K5_ok (a1 : api_IP) (b1 : Nat) (r5 : ((Option Addr) × Sl)) (r8 : ((Option Addr) × Sl)) (s12 : Sl) :
  SJ weirlaw14_RouteLent.cx [.code (c2 (c2 (c2 (c2 (c2 (c2 weirlaw14_RouteLent.B))))))] [(3, .pointer (some (pt b1 0))), (5, .pointer r5.1), (6, Sl.v r5.2), (7, .pointer r8.1), (8, Sl.v r8.2), (9, Sl.v s12)] [(b1, c_api_IP.enc a1)] (weirlaw14_RouteLent.K5 a1 r5 r8 s12) weirlaw14_RouteLent.F0 := by
 unfold weirlaw14_RouteLent.K5
 refine SJ.sr 4 <| OJ.build (d := 77) (T := 26) (parts := [(0, .const (.int .u8 10)), (1, .const (.int .u8 9))]) (ps := [(0, (cI .u8).val 10), (1, (cI .u8).val 9)]) (cd := ((cI .u8).arr 16)) (z0 := (Vec.rep 16 0)) (⟨[10, 9, 0, 0, 0, 0, 0, 0, 0, 0, 0, 0, 0, 0, 0, 0], rfl⟩ : (Vec Int 16)) Ty26 rfl (Filled.cons (cd := (cI .u8)) (q := 10) (o := 0) (by kernel_rfl) (Upd.arr (i := 0) (by decide) (by decide)) (Filled.cons (cd := (cI .u8)) (q := 9) (o := 1) (by kernel_rfl) (Upd.arr (i := 1) (by decide) (by decide)) Filled.nil)) ?_
 refine OJ.build (d := 78) (T := 28) (parts := [(0, .const (.int .i64 4)), (1, .tmp 77)]) (ps := [(0, (cI .i64).val 4), (1, ((cI .u8).arr 16).val (⟨[10, 9, 0, 0, 0, 0, 0, 0, 0, 0, 0, 0, 0, 0, 0, 0], rfl⟩ : (Vec Int 16)))]) (cd := c_api_IP) (z0 := z_api_IP) (⟨4, (⟨[10, 9, 0, 0, 0, 0, 0, 0, 0, 0, 0, 0, 0, 0, 0, 0], rfl⟩ : (Vec Int 16))⟩ : api_IP) Ty28 rfl (Filled.cons (cd := (cI .i64)) (q := 4) (o := 0) (by kernel_rfl) (Up_api_IP_V z_api_IP 4) (Filled.cons (cd := ((cI .u8).arr 16)) (q := (⟨[10, 9, 0, 0, 0, 0, 0, 0, 0, 0, 0, 0, 0, 0, 0, 0], rfl⟩ : (Vec Int 16))) (o := 1) (by kernel_rfl) (Up_api_IP_A (⟨4, z_api_IP.A⟩ : api_IP) (⟨[10, 9, 0, 0, 0, 0, 0, 0, 0, 0, 0, 0, 0, 0, 0, 0], rfl⟩ : (Vec Int 16))) Filled.nil)) ?_
 refine OJ.slotOf (d := 11) (op := (.alloc 28)) (cd := c_api_IP) (u := z_api_IP) (owed := []) (alloc_run Ty28) (fun b18 => ?_)
 refine OW.nil <| OJ.kst (y := .tmp 11) (z := .tmp 78) (cd := c_api_IP) (u := (⟨4, (⟨[10, 9, 0, 0, 0, 0, 0, 0, 0, 0, 0, 0, 0, 0, 0, 0], rfl⟩ : (Vec Int 16))⟩ : api_IP)) (j := 0) (b := b18) (o := 0) (c_api_IP.enc (⟨4, (⟨[10, 9, 0, 0, 0, 0, 0, 0, 0, 0, 0, 0, 0, 0, 0, 0], rfl⟩ : (Vec Int 16))⟩ : api_IP)) (owed := []) Ty28 rfl (Upd.whole ((Cod.len _ _).trans (Cod.len _ _).symm)) rfl ?_
 refine OW.nil <| OJ.nil <| SJ.seq <| SJ.draw (id := 11) (kd := [0, 1, 2, 0, 1, 2, 0, 0]) (bef := [0, 0, 3, 0, 0, 31, 63, 127]) (ord := [0, 1, 4, 2, 3, 5, 6, 7]) mixed ?_
 refine OJ.go 1 [(79, Sl.v s12)] <| OJ.kld (d := 80) (y := .tmp 3) (cd := c_api_IP) (j := 1) (b := b1) (o := 0) a1 (pend2 := [⟨1, 28, (pt b1 0), c_api_IP.val a1⟩]) Ty28 rfl (At.whole _) rfl ?_
 refine OJ.kld (d := 83) (y := .tmp 11) (cd := c_api_IP) (j := 0) (b := b18) (o := 0) (⟨4, (⟨[10, 9, 0, 0, 0, 0, 0, 0, 0, 0, 0, 0, 0, 0, 0, 0], rfl⟩ : (Vec Int 16))⟩ : api_IP) (pend2 := [⟨4, 28, (pt b18 0), c_api_IP.val (⟨4, (⟨[10, 9, 0, 0, 0, 0, 0, 0, 0, 0, 0, 0, 0, 0, 0, 0], rfl⟩ : (Vec Int 16))⟩ : api_IP)⟩, ⟨1, 28, (pt b1 0), c_api_IP.val a1⟩]) Ty28 rfl (At.whole _) rfl ?_
 refine OJ.call (d := 81) (g := 18) (ats := #[39, 28]) (args := [.tmp 79, .tmp 80]) (owed := [⟨4, 28, (pt b18 0), c_api_IP.val (⟨4, (⟨[10, 9, 0, 0, 0, 0, 0, 0, 0, 0, 0, 0, 0, 0, 0, 0], rfl⟩ : (Vec Int 16))⟩ : api_IP)⟩]) F18 (weirref14_Matches_ok s12 a1) (fun r19 => ?_)
 refine OW.known (j := 0) (q := (⟨4, (⟨[10, 9, 0, 0, 0, 0, 0, 0, 0, 0, 0, 0, 0, 0, 0, 0], rfl⟩ : (Vec Int 16))⟩ : api_IP)) Ty28 rfl (At.whole _) ?_
 refine OW.nil <| OJ.go 1 [(82, Sl.v s12)] <| OJ.call (d := 84) (g := 18) (ats := #[39, 28]) (args := [.tmp 82, .tmp 83]) (owed := []) F18 (weirref14_Matches_ok s12 (⟨4, (⟨[10, 9, 0, 0, 0, 0, 0, 0, 0, 0, 0, 0, 0, 0, 0, 0], rfl⟩ : (Vec Int 16))⟩ : api_IP)) (fun r20 => ?_)
 exact OW.nil <| OJ.go 2 [(13, Sl.v r20), (12, Sl.v r19)] <| OJ.nil <| SJ.sr 1 <| OJ.go 1 [(14, Sl.v Sl.nil)] <| OJ.nil <| SJ.seq <| SJ.sr 1 <| OJ.go 1 [(15, .int .i64 0)] <| OJ.nil <| SJ.block (id := 2) <| SJ.loop (fun s_ : (Sl × Int) => [(3, .pointer (some (pt b1 0))), (5, .pointer r5.1), (6, Sl.v r5.2), (7, .pointer r8.1), (8, Sl.v r8.2), (9, Sl.v s12), (11, .pointer (some (pt b18 0))), (12, Sl.v r19), (13, Sl.v r20), (14, Sl.v s_.1), (15, .int .i64 s_.2)]) (fun s_ : (Sl × Int) => [(b18, c_api_IP.enc (⟨4, (⟨[10, 9, 0, 0, 0, 0, 0, 0, 0, 0, 0, 0, 0, 0, 0, 0], rfl⟩ : (Vec Int 16))⟩ : api_IP)), (b1, c_api_IP.enc a1)]) [3, 5, 6, 7, 8, 9, 11, 12, 13, 14, 15] rfl (fun _ _ => rfl) (fun s_ => weirlaw14_RouteLent.L7_ok a1 b1 r5 r8 s12 b18 r19 r20 s_.1 s_.2)
noncomputable def weirlaw14_RouteLent.F8 (a1 : api_IP) (b1 : Nat) (r5 : ((Option Addr) × Sl)) (r8 : ((Option Addr) × Sl)) : (LS (Sl × Int) Bool) → Reach := loopF [.inLoop (c1 (c1 (c2 (c1 (c2 (c2 (c2 (c2 (c2 weirlaw14_RouteLent.B))))))))), .inBlock 0, .code (c2 (c2 (c2 (c2 (c2 (c2 weirlaw14_RouteLent.B))))))] (fun s_ : (Sl × Int) => [(3, .pointer (some (pt b1 0))), (5, .pointer r5.1), (6, Sl.v r5.2), (7, .pointer r8.1), (8, Sl.v r8.2), (9, Sl.v s_.1), (10, .int .i64 s_.2)]) (fun s_ : (Sl × Int) => [(b1, c_api_IP.enc a1)]) weirlaw14_RouteLent.F0
noncomputable def weirlaw14_RouteLent.L8 (a1 : api_IP) (r5 : ((Option Addr) × Sl)) (r8 : ((Option Addr) × Sl)) (s12 : Sl) (s13 : Int) : M (LS (Sl × Int) Bool) :=
 if s13 < (r5.2.len : Int) then
  idx r5.2.a r5.2.len s13 36 >>= fun p196 =>
  ld c_api_Route p196 >>= fun x197 =>
  weirref14_Add s12 x197 >>= fun r198 =>
  pure (LS.next (r198.1, IntKind.wrap .i64 (s13 + 1)))
 else
  (weirlaw14_RouteLent.K5 a1 r5 r8 s12) >>= fun b => pure (LS.done b)
theorem weirlaw14_RouteLent.L8_ok (a1 : api_IP) (b1 : Nat) (r5 : ((Option Addr) × Sl)) (r8 : ((Option Addr) × Sl)) (s12 : Sl) (s13 : Int) :
  SJ weirlaw14_RouteLent.cx [.code (c1 (c1 (c2 (c1 (c2 (c2 (c2 (c2 (c2 weirlaw14_RouteLent.B))))))))), .inLoop (c1 (c1 (c2 (c1 (c2 (c2 (c2 (c2 (c2 weirlaw14_RouteLent.B))))))))), .inBlock 0, .code (c2 (c2 (c2 (c2 (c2 (c2 weirlaw14_RouteLent.B))))))] [(3, .pointer (some (pt b1 0))), (5, .pointer r5.1), (6, Sl.v r5.2), (7, .pointer r8.1), (8, Sl.v r8.2), (9, Sl.v s12), (10, .int .i64 s13)] [(b1, c_api_IP.enc a1)] (weirlaw14_RouteLent.L8 a1 r5 r8 s12 s13) (weirlaw14_RouteLent.F8 a1 b1 r5 r8) := by
 unfold weirlaw14_RouteLent.L8
 refine SJ.seq <| SJ.sr 4 <| OJ.go 4 [(65, .bool (decide (s13 < (r5.2.len : Int)))), (64, .int .i64 (r5.2.len : Int)), (63, Sl.v r5.2), (62, .int .i64 s13)] <| OJ.nil <| SJ.cond (t := (.tmp 65)) (b := decide (s13 < (r5.2.len : Int))) decide_eq_true_iff (fun hc199 => ?_) (fun hc199 => ?_)
 ·refine SJ.skip <| SJ.seq <| SJ.block (id := 1) <| SJ.rg 10 <| OJ.go 3 [(71, .int .i64 s13), (70, Sl.v r5.2), (69, Sl.v s12)] <| OJ.idxS (d := 72) (T := 39) (y := .tmp 70) (j := .tmp 71) (E := 32) (cap := r5.2.cap) (k := .i64) (fun p196 => ?_)
  refine OJ.ld (d := 73) (y := .tmp 72) (pend2 := fun x197 => []) Ty32 (fun _ => rfl) (fun x197 => ?_)
  refine OJ.call (d := 74) (g := 17) (ats := #[39, 32]) (args := [.tmp 69, .tmp 73]) (owed := []) F17 (weirref14_Add_ok s12 x197) (fun r198 => ?_)
  exact OW.nil <| OJ.go 4 [(9, Sl.v r198.1), (76, .int .i64 r198.2), (75, Sl.v r198.1), (68, .tuple #[Sl.v r198.1, .int .i64 r198.2])] <| OJ.nil <| SJ.inBlock <| SJ.rg 3 <| OJ.go 3 [(10, .int .i64 (IntKind.wrap .i64 (s13 + 1))), (67, .int .i64 (IntKind.wrap .i64 (s13 + 1))), (66, .int .i64 s13)] <| OJ.nil <| SJ.at_ [3, 5, 6, 7, 8, 9, 10] rfl
 ·refine SJ.exit (id := 0) (by rfl) <| SJ.less [3, 5, 6, 7, 8, 9] (m' := [(3, .pointer (some (pt b1 0))), (5, .pointer r5.1), (6, Sl.v r5.2), (7, .pointer r8.1), (8, Sl.v r8.2), (9, Sl.v s12)]) ?_
  refine SJ.done ?_
  exact weirlaw14_RouteLent.K5_ok a1 b1 r5 r8 s12
noncomputable def weirlaw14_RouteLent (a0 : Sl) (a1 : api_IP) : M Bool :=
 slot 28 >>= fun b1 =>
 weirlaw14_route0 >>= fun r2 =>
 newv 32 (c_api_Route.arr 1) (⟨[r2], rfl⟩ : Vec api_Route 1) >>= fun b3 =>
 appS c_api_Route 32 64 z_api_Route (⟨some (pt b3 0), 1, 1⟩ : Sl) a0 >>= fun r4 =>
 weirlaw14_filled r4 >>= fun r5 =>
 weirlaw14_route0 >>= fun r6 =>
 newv 32 (c_api_Route.arr 1) (⟨[r6], rfl⟩ : Vec api_Route 1) >>= fun b7 =>
 weirlaw14_filled (⟨some (pt b7 0), 1, 1⟩ : Sl) >>= fun r8 =>
 (if r5.1 = none then
   pure true
  else
   pure (Option.isNone r8.1)) >>= fun y9 =>
 (if y9 = true then
   pure true
  else
   pure ((r5.2.len : Int) == 0)) >>= fun y10 =>
 (if y10 = true then
   pure true
  else
   pure ((r8.2.len : Int) != 1)) >>= fun y11 =>
 if y11 = true then
  pure false
 else
  loopM (fun s_ : (Sl × Int) => weirlaw14_RouteLent.L8 a1 r5 r8 s_.1 s_.2) (Sl.nil, 0)
theorem weirlaw14_RouteLent_ok (a0 : Sl) (a1 : api_IP) : Ref Tryd.prog 4 [Sl.v a0, c_api_IP.val a1] (weirlaw14_RouteLent a0 a1) weirlaw14_RouteLent.out := by
 refine Ref.of (cd := weirlaw14_RouteLent.B) Tryd.func4 ?_
 show SJ weirlaw14_RouteLent.cx [.code weirlaw14_RouteLent.B] [(0, Sl.v a0), (1, c_api_IP.val a1)] [] (weirlaw14_RouteLent a0 a1) weirlaw14_RouteLent.F0
 unfold weirlaw14_RouteLent
 refine SJ.sr 2 <| OJ.slotOf (d := 3) (op := (.box 28 (.tmp 1))) (cd := c_api_IP) (u := a1) (owed := []) (box_run (by kernel_rfl)) (fun b1 => ?_)
 refine OW.nil <| OJ.go 1 [(4, .bool false)] <| OJ.nil <| SJ.sr 10 <| OJ.call (d := 33) (g := 16) (ats := #[]) (args := []) (owed := []) F16 (weirlaw14_route0_ok ) (fun r2 => ?_)
 refine OW.nil <| OJ.rowNew (d := 34) (t := 39) (parts := [(0, .tmp 33)]) (ps := [(0, c_api_Route.val r2)]) (cd := c_api_Route) (owed := []) Ty32 (Filled.cons (cd := c_api_Route) (q := r2) (o := 0) rfl (Upd.arr (i := 0) (by decide) (by decide)) Filled.nil) (fun b3 => ?_)
 refine OW.nil <| OJ.go 1 [(35, Sl.v a0)] <| OJ.appS (d := 36) (t := 39) (u := 39) (so := .tmp 34) (xo := .tmp 35) (owed := []) Ty32 (fun r4 => ?_)
 refine OW.nil <| OJ.call (d := 37) (g := 15) (ats := #[39]) (args := [.tmp 36]) (owed := []) F15 (weirlaw14_filled_ok r4) (fun r5 => ?_)
 refine OW.nil <| OJ.go 5 [(6, Sl.v r5.2), (5, .pointer r5.1), (39, Sl.v r5.2), (38, .pointer r5.1), (32, .tuple #[.pointer r5.1, Sl.v r5.2])] <| OJ.nil <| SJ.sr 8 <| OJ.call (d := 41) (g := 16) (ats := #[]) (args := []) (owed := []) F16 (weirlaw14_route0_ok ) (fun r6 => ?_)
 refine OW.nil <| OJ.rowNew (d := 42) (t := 39) (parts := [(0, .tmp 41)]) (ps := [(0, c_api_Route.val r6)]) (cd := c_api_Route) (owed := []) Ty32 (Filled.cons (cd := c_api_Route) (q := r6) (o := 0) rfl (Upd.arr (i := 0) (by decide) (by decide)) Filled.nil) (fun b7 => ?_)
 refine OW.nil <| OJ.call (d := 43) (g := 15) (ats := #[39]) (args := [.tmp 42]) (owed := []) F15 (weirlaw14_filled_ok (⟨some (pt b7 0), 1, 1⟩ : Sl)) (fun r8 => ?_)
 refine OW.nil <| OJ.go 5 [(8, Sl.v r8.2), (7, .pointer r8.1), (45, Sl.v r8.2), (44, .pointer r8.1), (40, .tuple #[.pointer r8.1, Sl.v r8.2])] <| OJ.nil <| SJ.seq <| SJ.sr 16 <| OJ.go 3 [(48, .bool (Option.isNone r5.1)), (47, .bool (Option.isNone r5.1)), (46, .pointer r5.1)] <| OJ.join (b := (Option.isNone r5.1)) [3, 4, 5] [6, 7, 8, 9, 10, 11, 12, 13, 14, 15] [3, 5, 6, 7, 8, 51] (fun y9 => [(3, .pointer (some (pt b1 0))), (5, .pointer r5.1), (6, Sl.v r5.2), (7, .pointer r8.1), (8, Sl.v r8.2), (51, .bool y9)]) [] [] (t := 48) Option.isNone_iff_eq_none (fun hp_ => ?_) (fun hp_ => ?_) (fun _ _ _ _ _ _ h_ => h_) (fun y9 => ?_)
 ·exact OJ.go 3 [(51, .bool true), (50, undef), (49, undef)] <| OJ.x0
 ·exact OJ.go 3 [(51, .bool (Option.isNone r8.1)), (50, .bool (Option.isNone r8.1)), (49, .pointer r8.1)] <| OJ.x0
 ·refine OJ.go 1 [(52, .bool y9)] <| OJ.join (b := y9) [7, 8, 9, 10] [11, 12, 13, 14, 15] [3, 5, 6, 7, 8, 56] (fun y10 => [(3, .pointer (some (pt b1 0))), (5, .pointer r5.1), (6, Sl.v r5.2), (7, .pointer r8.1), (8, Sl.v r8.2), (56, .bool y10)]) [] [] (t := 52) Iff.rfl (fun hp_ => ?_) (fun hp_ => ?_) (fun _ _ _ _ _ _ h_ => h_) (fun y10 => ?_)
  ·exact OJ.go 4 [(56, .bool true), (55, undef), (54, undef), (53, undef)] <| OJ.x0
  ·exact OJ.go 4 [(56, .bool ((r5.2.len : Int) == 0)), (55, .bool ((r5.2.len : Int) == 0)), (54, .int .i64 (r5.2.len : Int)), (53, Sl.v r5.2)] <| OJ.x0
  ·refine OJ.go 1 [(57, .bool y10)] <| OJ.join (b := y10) [12, 13, 14, 15] [] [3, 5, 6, 7, 8, 61] (fun y11 => [(3, .pointer (some (pt b1 0))), (5, .pointer r5.1), (6, Sl.v r5.2), (7, .pointer r8.1), (8, Sl.v r8.2), (61, .bool y11)]) [] [] (t := 57) Iff.rfl (fun hp_ => ?_) (fun hp_ => ?_) (fun _ _ _ _ _ _ h_ => h_) (fun y11 => ?_)
   ·exact OJ.go 4 [(61, .bool true), (60, undef), (59, undef), (58, undef)] <| OJ.x0
   ·exact OJ.go 4 [(61, .bool ((r8.2.len : Int) != 1)), (60, .bool ((r8.2.len : Int) != 1)), (59, .int .i64 (r8.2.len : Int)), (58, Sl.v r8.2)] <| OJ.x0
   ·refine OJ.nil <| SJ.cond (t := (.tmp 61)) (b := y11) Iff.rfl (fun hc200 => ?_) (fun hc200 => ?_)
    ·exact SJ.sr 1 <| OJ.go 1 [(4, .bool false)] <| OJ.nil <| SJ.r1 (.bool false) rfl rfl
    ·exact SJ.skip <| SJ.sr 1 <| OJ.go 1 [(9, Sl.v Sl.nil)] <| OJ.nil <| SJ.seq <| SJ.sr 1 <| OJ.go 1 [(10, .int .i64 0)] <| OJ.nil <| SJ.block (id := 0) <| SJ.loop (fun s_ : (Sl × Int) => [(3, .pointer (some (pt b1 0))), (5, .pointer r5.1), (6, Sl.v r5.2), (7, .pointer r8.1), (8, Sl.v r8.2), (9, Sl.v s_.1), (10, .int .i64 s_.2)]) (fun s_ : (Sl × Int) => [(b1, c_api_IP.enc a1)]) [3, 5, 6, 7, 8, 9, 10] rfl (fun _ _ => rfl) (fun s_ => weirlaw14_RouteLent.L8_ok a1 b1 r5 r8 s_.1 s_.2)
end Go.Proofs.YtfgcobigollfjaaDoor.Lx
