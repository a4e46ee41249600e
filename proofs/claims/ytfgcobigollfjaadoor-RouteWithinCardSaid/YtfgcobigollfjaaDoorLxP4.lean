/- Programs of the M-world for Go functions, each with the proof that the Go text does what it says. Printed by lxgen.py. -/
import Derived.Test.YtfgcobigollfjaaDoorLxT
import Derived.Test.YtfgcobigollfjaaDoorLxP0
import Derived.Test.YtfgcobigollfjaaDoorLxP1
import Derived.Test.YtfgcobigollfjaaDoorLxP2
import Derived.Test.YtfgcobigollfjaaDoorLxP3
set_option linter.unusedVariables false
set_option linter.unusedSimpArgs false
set_option linter.unusedSectionVars false
namespace Go.Proofs.YtfgcobigollfjaaDoor.Lx
open Go Go.Proofs
variable [Loops]
/-! ### slices.pdqsortCmpFunc[weir/api.Route]: function 65 -/
noncomputable def slices_pdqsortCmpFunc_api_Route.B : Code := (Tryd.f65.body).getD .skip
noncomputable def slices_pdqsortCmpFunc_api_Route.cx : Fx := ⟨Tryd.prog, 65, Tryd.f65, none⟩
noncomputable def slices_pdqsortCmpFunc_api_Route.out (r_ : Unit) : Value := .tuple #[]
noncomputable def slices_pdqsortCmpFunc_api_Route.F0 (r_ : Unit) : Reach := .ret (slices_pdqsortCmpFunc_api_Route.out r_)
noncomputable def slices_pdqsortCmpFunc_api_Route.F1 (a0 : Sl) (a4v : Any) : (LS (Int × Int × Int × Bool × Bool) Unit) → Reach := loopF [.inLoop (c1 (c1 (c2 (c2 slices_pdqsortCmpFunc_api_Route.B)))), .inBlock 0] (fun s_ : (Int × Int × Int × Bool × Bool) => [(0, Sl.v a0), (1, .int .i64 s_.1), (2, .int .i64 s_.2.1), (3, .int .i64 s_.2.2.1), (4, a4v.v), (10, .bool s_.2.2.2.1), (11, .bool s_.2.2.2.2)]) (fun s_ : (Int × Int × Int × Bool × Bool) => []) slices_pdqsortCmpFunc_api_Route.F0
noncomputable def slices_pdqsortCmpFunc_api_Route.K1 (a0 : Sl) (a4 : api_Route → api_Route → M Int) (rec_ : Sl → Int → Int → Int → M Unit) (s1 : Int) (s2 : Int) (s4 : Bool) (s5 : Bool) (j11 : Int) (j14 : Int) : M (LS (Int × Int × Int × Bool × Bool) Unit) :=
  draw >>= fun _ =>
  (if s1 > 0 then
      idx a0.a a0.len (IntKind.wrap .i64 (s1 - 1)) 36 >>= fun p20 =>
      ld c_api_Route p20 >>= fun x21 =>
      idx a0.a a0.len j14 36 >>= fun p22 =>
      ld c_api_Route p22 >>= fun x23 =>
      a4 x21 x23 >>= fun r24 =>
      pure (!(decide (r24 < 0)))
    else
      pure false) >>= fun y25 =>
  if y25 = true then
    slices_partitionEqualCmpFunc_api_Route a0 s1 s2 j14 a4 >>= fun r27 =>
    pure (LS.next (r27, s2, j11, s4, s5))
  else
    slices_partitionCmpFunc_api_Route a0 s1 s2 j14 a4 >>= fun r28 =>
    if (IntKind.wrap .i64 (r28.1 - s1)) < (IntKind.wrap .i64 (s2 - r28.1)) then
      rec_ a0 s1 r28.1 j11 >>= fun r31 =>
      pure (LS.next (IntKind.wrap .i64 (r28.1 + 1), s2, j11, decide ((IntKind.wrap .i64 (r28.1 - s1)) ≥ (IntKind.wrap .i64 (Int.tdiv (IntKind.wrap .i64 (s2 - s1)) 8))), r28.2))
    else
      rec_ a0 (IntKind.wrap .i64 (r28.1 + 1)) s2 j11 >>= fun r32 =>
      pure (LS.next (s1, r28.1, j11, decide ((IntKind.wrap .i64 (s2 - r28.1)) ≥ (IntKind.wrap .i64 (Int.tdiv (IntKind.wrap .i64 (s2 - s1)) 8))), r28.2))
theorem slices_pdqsortCmpFunc_api_Route.K1_ok (a0 : Sl) (a4v : Any) (a4 : api_Route → api_Route → M Int) (h_a4 : ∀ (x0_ : api_Route), ∀ (x1_ : api_Route), RefV Tryd.prog a4v.v [c_api_Route.val x0_, c_api_Route.val x1_] (a4 x0_ x1_) (fun r_ : Int => .int .i64 r_)) (rec_ : Sl → Int → Int → Int → M Unit) (h_rec_ : ∀ (x0_ : Sl) (x1_ : Int) (x2_ : Int) (x3_ : Int), Ref Tryd.prog 65 [Sl.v x0_, .int .i64 x1_, .int .i64 x2_, .int .i64 x3_, a4v.v] (rec_ x0_ x1_ x2_ x3_) slices_pdqsortCmpFunc_api_Route.out) (s1 : Int) (s2 : Int) (s4 : Bool) (s5 : Bool) (j11 : Int) (j14 : Int) :
    SJ slices_pdqsortCmpFunc_api_Route.cx [.code (c2 (c2 (c2 (c2 (c2 (c2 (c2 (c1 (c1 (c1 (c2 (c2 slices_pdqsortCmpFunc_api_Route.B)))))))))))), .inBlock 1, .inLoop (c1 (c1 (c2 (c2 slices_pdqsortCmpFunc_api_Route.B)))), .inBlock 0] [(0, Sl.v a0), (1, .int .i64 s1), (2, .int .i64 s2), (3, .int .i64 j11), (4, a4v.v), (10, .bool s4), (11, .bool s5), (12, .int .i64 (IntKind.wrap .i64 (s2 - s1))), (13, .int .i64 j14)] [] (slices_pdqsortCmpFunc_api_Route.K1 a0 a4 rec_ s1 s2 s4 s5 j11 j14) (slices_pdqsortCmpFunc_api_Route.F1 a0 a4v) := by
  unfold slices_pdqsortCmpFunc_api_Route.K1
  refine SJ.seq <| SJ.seq <| SJ.draw (id := 17) (kd := [0, 0, 0, 0, 0, 0, 0, 0, 1, 0, 0, 0, 1, 2, 0, 0, 0]) (bef := [0, 1, 3, 7, 7, 7, 39, 119, 247, 7, 7, 1543, 3591, 8191, 16383, 32767, 65535]) (ord := [0, 1, 2, 3, 4, 5, 6, 7, 8, 9, 10, 11, 12, 13, 14, 15, 16]) mixed ?_
  refine OJ.go 3 [(83, .bool (decide (s1 > 0))), (82, .bool (decide (s1 > 0))), (81, .int .i64 s1)] <| OJ.join (b := decide (s1 > 0)) [3, 4, 5, 6, 7, 8, 9, 10, 11, 12, 13, 14, 15, 16] [] [0, 1, 2, 3, 4, 10, 11, 12, 13, 97] (fun y25 => [(0, Sl.v a0), (1, .int .i64 s1), (2, .int .i64 s2), (3, .int .i64 j11), (4, a4v.v), (10, .bool s4), (11, .bool s5), (12, .int .i64 (IntKind.wrap .i64 (s2 - s1))), (13, .int .i64 j14), (97, .bool y25)]) [] [8, 12] (t := 83) decide_eq_true_iff (fun hp_ => ?_) (fun hp_ => ?_) (fun _ _ _ _ _ _ h_ => h_) (fun y25 => ?_)
  · refine OJ.go 4 [(87, .int .i64 (IntKind.wrap .i64 (s1 - 1))), (86, .int .i64 s1), (85, Sl.v a0), (84, a4v.v)] <| OJ.idxS (d := 88) (T := 39) (y := .tmp 85) (j := .tmp 87) (E := 32) (cap := a0.cap) (k := .i64) (fun p20 => ?_)
    refine OJ.ld (d := 89) (y := .tmp 88) (pend2 := fun x21 => [⟨8, 32, p20, c_api_Route.val x21⟩]) Ty32 (fun _ => rfl) (fun x21 => ?_)
    refine OJ.go 2 [(91, .int .i64 j14), (90, Sl.v a0)] <| OJ.idxS (d := 92) (T := 39) (y := .tmp 90) (j := .tmp 91) (E := 32) (cap := a0.cap) (k := .i64) (fun p22 => ?_)
    refine OJ.ld (d := 93) (y := .tmp 92) (pend2 := fun x23 => [⟨12, 32, p22, c_api_Route.val x23⟩, ⟨8, 32, p20, c_api_Route.val x21⟩]) Ty32 (fun _ => rfl) (fun x23 => ?_)
    refine OJ.callV1 (d := 94) (ats := #[32, 32]) (args := [.tmp 89, .tmp 93]) (fo := .tmp 84) (vals := [c_api_Route.val x21, c_api_Route.val x23]) (owed := []) (h_a4 x21 x23) (fun r24 => ?_)
    exact OW.nil <| OJ.go 3 [(97, .bool (!(decide (r24 < 0)))), (96, .bool (!(decide (r24 < 0)))), (95, .bool (decide (r24 < 0)))] <| OJ.nil ⟨(Cov.mem (Cov.drop (List.mem_of_getElem? (i := 1) rfl) (Cov.drop (List.mem_of_getElem? (i := 0) rfl) Cov.nil))), rfl, _, rfl, by kernel_rfl⟩
  · exact OJ.go 14 [(97, .bool false), (96, undef), (95, undef), (94, undef), (93, undef), (92, undef), (91, undef), (90, undef), (89, undef), (88, undef), (87, undef), (86, undef), (85, undef), (84, undef)] <| OJ.x0
  · refine OJ.nil <| SJ.cond (t := (.tmp 97)) (b := y25) Iff.rfl (fun hc34 => ?_) (fun hc34 => ?_)
    · refine SJ.sr 7 <| OJ.go 5 [(102, a4v.v), (101, .int .i64 j14), (100, .int .i64 s2), (99, .int .i64 s1), (98, Sl.v a0)] <| OJ.call (d := 103) (g := 76) (ats := #[39, 3, 3, 3, 97]) (args := [.tmp 98, .tmp 99, .tmp 100, .tmp 101, .tmp 102]) (owed := []) F76 (slices_partitionEqualCmpFunc_api_Route_ok a0 s1 s2 j14 a4v a4 h_a4) (fun r27 => ?_)
      exact OW.nil <| OJ.go 1 [(15, .int .i64 r27)] <| OJ.nil <| SJ.sr 2 <| OJ.go 2 [(1, .int .i64 r27), (104, .int .i64 r27)] <| OJ.nil <| SJ.exit (id := 1) (by rfl) <| SJ.at_ [0, 1, 2, 3, 4, 10, 11] rfl
    · refine SJ.skip <| SJ.sr 11 <| OJ.go 5 [(110, a4v.v), (109, .int .i64 j14), (108, .int .i64 s2), (107, .int .i64 s1), (106, Sl.v a0)] <| OJ.call (d := 111) (g := 77) (ats := #[39, 3, 3, 3, 97]) (args := [.tmp 106, .tmp 107, .tmp 108, .tmp 109, .tmp 110]) (owed := []) F77 (slices_partitionCmpFunc_api_Route_ok a0 s1 s2 j14 a4v a4 h_a4) (fun r28 => ?_)
      refine OW.nil <| OJ.go 5 [(17, .bool r28.2), (16, .int .i64 r28.1), (113, .bool r28.2), (112, .int .i64 r28.1), (105, .tuple #[.int .i64 r28.1, .bool r28.2])] <| OJ.nil <| SJ.sr 2 <| OJ.go 2 [(11, .bool r28.2), (114, .bool r28.2)] <| OJ.nil <| SJ.sr 8 <| OJ.go 8 [(19, .int .i64 (IntKind.wrap .i64 (s2 - r28.1))), (18, .int .i64 (IntKind.wrap .i64 (r28.1 - s1))), (120, .int .i64 (IntKind.wrap .i64 (s2 - r28.1))), (119, .int .i64 r28.1), (118, .int .i64 s2), (117, .int .i64 (IntKind.wrap .i64 (r28.1 - s1))), (116, .int .i64 s1), (115, .int .i64 r28.1)] <| OJ.nil <| SJ.sr 3 <| OJ.go 3 [(20, .int .i64 (IntKind.wrap .i64 (Int.tdiv (IntKind.wrap .i64 (s2 - s1)) 8))), (122, .int .i64 (IntKind.wrap .i64 (Int.tdiv (IntKind.wrap .i64 (s2 - s1)) 8))), (121, .int .i64 (IntKind.wrap .i64 (s2 - s1)))] <| OJ.nil <| SJ.sr 3 <| OJ.go 3 [(125, .bool (decide ((IntKind.wrap .i64 (r28.1 - s1)) < (IntKind.wrap .i64 (s2 - r28.1))))), (124, .int .i64 (IntKind.wrap .i64 (s2 - r28.1))), (123, .int .i64 (IntKind.wrap .i64 (r28.1 - s1)))] <| OJ.nil <| SJ.cond (t := (.tmp 125)) (b := decide ((IntKind.wrap .i64 (r28.1 - s1)) < (IntKind.wrap .i64 (s2 - r28.1)))) decide_eq_true_iff (fun hc33 => ?_) (fun hc33 => ?_)
      · refine SJ.sr 4 <| OJ.go 4 [(10, .bool (decide ((IntKind.wrap .i64 (r28.1 - s1)) ≥ (IntKind.wrap .i64 (Int.tdiv (IntKind.wrap .i64 (s2 - s1)) 8))))), (128, .bool (decide ((IntKind.wrap .i64 (r28.1 - s1)) ≥ (IntKind.wrap .i64 (Int.tdiv (IntKind.wrap .i64 (s2 - s1)) 8))))), (127, .int .i64 (IntKind.wrap .i64 (Int.tdiv (IntKind.wrap .i64 (s2 - s1)) 8))), (126, .int .i64 (IntKind.wrap .i64 (r28.1 - s1)))] <| OJ.nil <| SJ.sr 6 <| OJ.go 5 [(133, a4v.v), (132, .int .i64 j11), (131, .int .i64 r28.1), (130, .int .i64 s1), (129, Sl.v a0)] <| OJ.call (d := 134) (g := 65) (ats := #[39, 3, 3, 3, 97]) (args := [.tmp 129, .tmp 130, .tmp 131, .tmp 132, .tmp 133]) (owed := []) F65 (h_rec_ a0 s1 r28.1 j11) (fun r31 => ?_)
        exact OW.nil <| OJ.nil <| SJ.rg 3 <| OJ.go 3 [(1, .int .i64 (IntKind.wrap .i64 (r28.1 + 1))), (136, .int .i64 (IntKind.wrap .i64 (r28.1 + 1))), (135, .int .i64 r28.1)] <| OJ.nil <| SJ.inBlock <| SJ.at_ [0, 1, 2, 3, 4, 10, 11] rfl
      · refine SJ.sr 4 <| OJ.go 4 [(10, .bool (decide ((IntKind.wrap .i64 (s2 - r28.1)) ≥ (IntKind.wrap .i64 (Int.tdiv (IntKind.wrap .i64 (s2 - s1)) 8))))), (139, .bool (decide ((IntKind.wrap .i64 (s2 - r28.1)) ≥ (IntKind.wrap .i64 (Int.tdiv (IntKind.wrap .i64 (s2 - s1)) 8))))), (138, .int .i64 (IntKind.wrap .i64 (Int.tdiv (IntKind.wrap .i64 (s2 - s1)) 8))), (137, .int .i64 (IntKind.wrap .i64 (s2 - r28.1)))] <| OJ.nil <| SJ.sr 7 <| OJ.go 6 [(145, a4v.v), (144, .int .i64 j11), (143, .int .i64 s2), (142, .int .i64 (IntKind.wrap .i64 (r28.1 + 1))), (141, .int .i64 r28.1), (140, Sl.v a0)] <| OJ.call (d := 146) (g := 65) (ats := #[39, 3, 3, 3, 97]) (args := [.tmp 140, .tmp 142, .tmp 143, .tmp 144, .tmp 145]) (owed := []) F65 (h_rec_ a0 (IntKind.wrap .i64 (r28.1 + 1)) s2 j11) (fun r32 => ?_)
        exact OW.nil <| OJ.nil <| SJ.rg 2 <| OJ.go 2 [(2, .int .i64 r28.1), (147, .int .i64 r28.1)] <| OJ.nil <| SJ.inBlock <| SJ.at_ [0, 1, 2, 3, 4, 10, 11] rfl
noncomputable def slices_pdqsortCmpFunc_api_Route.K2 (a0 : Sl) (a4 : api_Route → api_Route → M Int) (rec_ : Sl → Int → Int → Int → M Unit) (s1 : Int) (s2 : Int) (s4 : Bool) (s5 : Bool) (j11 : Int) (j14 : Int) (j15 : Int) : M (LS (Int × Int × Int × Bool × Bool) Unit) :=
  (if s4 = true then
      pure s5
    else
      pure false) >>= fun y16 =>
  (if y16 = true then
      pure (j15 == 1)
    else
      pure false) >>= fun y17 =>
  if y17 = true then
    slices_partialInsertionSortCmpFunc_api_Route a0 s1 s2 a4 >>= fun r35 =>
    if r35 = true then
      pure (LS.done ())
    else
      slices_pdqsortCmpFunc_api_Route.K1 a0 a4 rec_ s1 s2 s4 s5 j11 j14
  else
    slices_pdqsortCmpFunc_api_Route.K1 a0 a4 rec_ s1 s2 s4 s5 j11 j14
theorem slices_pdqsortCmpFunc_api_Route.K2_ok (a0 : Sl) (a4v : Any) (a4 : api_Route → api_Route → M Int) (h_a4 : ∀ (x0_ : api_Route), ∀ (x1_ : api_Route), RefV Tryd.prog a4v.v [c_api_Route.val x0_, c_api_Route.val x1_] (a4 x0_ x1_) (fun r_ : Int => .int .i64 r_)) (rec_ : Sl → Int → Int → Int → M Unit) (h_rec_ : ∀ (x0_ : Sl) (x1_ : Int) (x2_ : Int) (x3_ : Int), Ref Tryd.prog 65 [Sl.v x0_, .int .i64 x1_, .int .i64 x2_, .int .i64 x3_, a4v.v] (rec_ x0_ x1_ x2_ x3_) slices_pdqsortCmpFunc_api_Route.out) (s1 : Int) (s2 : Int) (s4 : Bool) (s5 : Bool) (j11 : Int) (j14 : Int) (j15 : Int) :
    SJ slices_pdqsortCmpFunc_api_Route.cx [.code (c2 (c2 (c2 (c2 (c2 (c2 (c1 (c1 (c1 (c2 (c2 slices_pdqsortCmpFunc_api_Route.B))))))))))), .inBlock 1, .inLoop (c1 (c1 (c2 (c2 slices_pdqsortCmpFunc_api_Route.B)))), .inBlock 0] [(0, Sl.v a0), (1, .int .i64 s1), (2, .int .i64 s2), (3, .int .i64 j11), (4, a4v.v), (10, .bool s4), (11, .bool s5), (12, .int .i64 (IntKind.wrap .i64 (s2 - s1))), (13, .int .i64 j14), (14, .int .i64 j15)] [] (slices_pdqsortCmpFunc_api_Route.K2 a0 a4 rec_ s1 s2 s4 s5 j11 j14 j15) (slices_pdqsortCmpFunc_api_Route.F1 a0 a4v) := by
  unfold slices_pdqsortCmpFunc_api_Route.K2
  refine SJ.seq <| SJ.sr 8 <| OJ.go 2 [(69, .bool s4), (68, .bool s4)] <| OJ.join (b := s4) [2, 3] [4, 5, 6, 7] [0, 1, 2, 3, 4, 10, 11, 12, 13, 14, 71] (fun y16 => [(0, Sl.v a0), (1, .int .i64 s1), (2, .int .i64 s2), (3, .int .i64 j11), (4, a4v.v), (10, .bool s4), (11, .bool s5), (12, .int .i64 (IntKind.wrap .i64 (s2 - s1))), (13, .int .i64 j14), (14, .int .i64 j15), (71, .bool y16)]) [] [] (t := 69) Iff.rfl (fun hp_ => ?_) (fun hp_ => ?_) (fun _ _ _ _ _ _ h_ => h_) (fun y16 => ?_)
  · exact OJ.go 2 [(71, .bool s5), (70, .bool s5)] <| OJ.x0
  · exact OJ.go 2 [(71, .bool false), (70, undef)] <| OJ.x0
  · refine OJ.go 1 [(72, .bool y16)] <| OJ.join (b := y16) [5, 6, 7] [] [0, 1, 2, 3, 4, 10, 11, 12, 13, 75] (fun y17 => [(0, Sl.v a0), (1, .int .i64 s1), (2, .int .i64 s2), (3, .int .i64 j11), (4, a4v.v), (10, .bool s4), (11, .bool s5), (12, .int .i64 (IntKind.wrap .i64 (s2 - s1))), (13, .int .i64 j14), (75, .bool y17)]) [] [] (t := 72) Iff.rfl (fun hp_ => ?_) (fun hp_ => ?_) (fun _ _ _ _ _ _ h_ => h_) (fun y17 => ?_)
    · exact OJ.go 3 [(75, .bool (j15 == 1)), (74, .bool (j15 == 1)), (73, .int .i64 j15)] <| OJ.x0
    · exact OJ.go 3 [(75, .bool false), (74, undef), (73, undef)] <| OJ.x0
    · refine OJ.nil <| SJ.cond (t := (.tmp 75)) (b := y17) Iff.rfl (fun hc37 => ?_) (fun hc37 => ?_)
      · refine SJ.sr 5 <| OJ.go 4 [(79, a4v.v), (78, .int .i64 s2), (77, .int .i64 s1), (76, Sl.v a0)] <| OJ.call (d := 80) (g := 75) (ats := #[39, 3, 3, 97]) (args := [.tmp 76, .tmp 77, .tmp 78, .tmp 79]) (owed := []) F75 (slices_partialInsertionSortCmpFunc_api_Route_ok a0 s1 s2 a4v a4 h_a4) (fun r35 => ?_)
        refine OW.nil <| OJ.nil <| SJ.cond (t := (.tmp 80)) (b := r35) Iff.rfl (fun hc36 => ?_) (fun hc36 => ?_)
        · exact SJ.ret rfl (Res.run (ys := []) .nil rfl)
        · refine SJ.skip <| SJ.less [0, 1, 2, 3, 4, 10, 11, 12, 13] (m' := [(0, Sl.v a0), (1, .int .i64 s1), (2, .int .i64 s2), (3, .int .i64 j11), (4, a4v.v), (10, .bool s4), (11, .bool s5), (12, .int .i64 (IntKind.wrap .i64 (s2 - s1))), (13, .int .i64 j14)]) ?_
          exact slices_pdqsortCmpFunc_api_Route.K1_ok a0 a4v a4 h_a4 rec_ h_rec_ s1 s2 s4 s5 j11 j14
      · refine SJ.skip <| SJ.less [0, 1, 2, 3, 4, 10, 11, 12, 13] (m' := [(0, Sl.v a0), (1, .int .i64 s1), (2, .int .i64 s2), (3, .int .i64 j11), (4, a4v.v), (10, .bool s4), (11, .bool s5), (12, .int .i64 (IntKind.wrap .i64 (s2 - s1))), (13, .int .i64 j14)]) ?_
        exact slices_pdqsortCmpFunc_api_Route.K1_ok a0 a4v a4 h_a4 rec_ h_rec_ s1 s2 s4 s5 j11 j14
noncomputable def slices_pdqsortCmpFunc_api_Route.K3 (a0 : Sl) (a4 : api_Route → api_Route → M Int) (rec_ : Sl → Int → Int → Int → M Unit) (s1 : Int) (s2 : Int) (s4 : Bool) (s5 : Bool) (j11 : Int) : M (LS (Int × Int × Int × Bool × Bool) Unit) :=
  slices_choosePivotCmpFunc_api_Route a0 s1 s2 a4 >>= fun r12 =>
  if r12.2 = 2 then
    slices_reverseRangeCmpFunc_api_Route a0 s1 s2 a4 >>= fun r38 =>
    slices_pdqsortCmpFunc_api_Route.K2 a0 a4 rec_ s1 s2 s4 s5 j11 (IntKind.wrap .i64 ((IntKind.wrap .i64 (s2 - 1)) - (IntKind.wrap .i64 (r12.1 - s1)))) 1
  else
    slices_pdqsortCmpFunc_api_Route.K2 a0 a4 rec_ s1 s2 s4 s5 j11 r12.1 r12.2
theorem slices_pdqsortCmpFunc_api_Route.K3_ok (a0 : Sl) (a4v : Any) (a4 : api_Route → api_Route → M Int) (h_a4 : ∀ (x0_ : api_Route), ∀ (x1_ : api_Route), RefV Tryd.prog a4v.v [c_api_Route.val x0_, c_api_Route.val x1_] (a4 x0_ x1_) (fun r_ : Int => .int .i64 r_)) (rec_ : Sl → Int → Int → Int → M Unit) (h_rec_ : ∀ (x0_ : Sl) (x1_ : Int) (x2_ : Int) (x3_ : Int), Ref Tryd.prog 65 [Sl.v x0_, .int .i64 x1_, .int .i64 x2_, .int .i64 x3_, a4v.v] (rec_ x0_ x1_ x2_ x3_) slices_pdqsortCmpFunc_api_Route.out) (s1 : Int) (s2 : Int) (s4 : Bool) (s5 : Bool) (j11 : Int) :
    SJ slices_pdqsortCmpFunc_api_Route.cx [.code (c2 (c2 (c2 (c2 (c1 (c1 (c1 (c2 (c2 slices_pdqsortCmpFunc_api_Route.B))))))))), .inBlock 1, .inLoop (c1 (c1 (c2 (c2 slices_pdqsortCmpFunc_api_Route.B)))), .inBlock 0] [(0, Sl.v a0), (1, .int .i64 s1), (2, .int .i64 s2), (3, .int .i64 j11), (4, a4v.v), (10, .bool s4), (11, .bool s5), (12, .int .i64 (IntKind.wrap .i64 (s2 - s1)))] [] (slices_pdqsortCmpFunc_api_Route.K3 a0 a4 rec_ s1 s2 s4 s5 j11) (slices_pdqsortCmpFunc_api_Route.F1 a0 a4v) := by
  unfold slices_pdqsortCmpFunc_api_Route.K3
  refine SJ.sr 10 <| OJ.go 4 [(51, a4v.v), (50, .int .i64 s2), (49, .int .i64 s1), (48, Sl.v a0)] <| OJ.call (d := 52) (g := 73) (ats := #[39, 3, 3, 97]) (args := [.tmp 48, .tmp 49, .tmp 50, .tmp 51]) (owed := []) F73 (slices_choosePivotCmpFunc_api_Route_ok a0 s1 s2 a4v a4 h_a4) (fun r12 => ?_)
  refine OW.nil <| OJ.go 5 [(14, .int .i64 r12.2), (13, .int .i64 r12.1), (54, .int .i64 r12.2), (53, .int .i64 r12.1), (47, .tuple #[.int .i64 r12.1, .int .i64 r12.2])] <| OJ.nil <| SJ.seq <| SJ.sr 2 <| OJ.go 2 [(56, .bool (r12.2 == 2)), (55, .int .i64 r12.2)] <| OJ.nil <| SJ.cond (t := (.tmp 56)) (b := (r12.2 == 2)) beq_iff_eq (fun hc39 => ?_) (fun hc39 => ?_)
  · refine SJ.sr 5 <| OJ.go 4 [(60, a4v.v), (59, .int .i64 s2), (58, .int .i64 s1), (57, Sl.v a0)] <| OJ.call (d := 61) (g := 74) (ats := #[39, 3, 3, 97]) (args := [.tmp 57, .tmp 58, .tmp 59, .tmp 60]) (owed := []) F74 (slices_reverseRangeCmpFunc_api_Route_ok a0 s1 s2 a4v a4 h_a4) (fun r38 => ?_)
    refine OW.nil <| OJ.nil <| SJ.sr 7 <| OJ.go 7 [(13, .int .i64 (IntKind.wrap .i64 ((IntKind.wrap .i64 (s2 - 1)) - (IntKind.wrap .i64 (r12.1 - s1))))), (67, .int .i64 (IntKind.wrap .i64 ((IntKind.wrap .i64 (s2 - 1)) - (IntKind.wrap .i64 (r12.1 - s1))))), (66, .int .i64 (IntKind.wrap .i64 (r12.1 - s1))), (65, .int .i64 s1), (64, .int .i64 r12.1), (63, .int .i64 (IntKind.wrap .i64 (s2 - 1))), (62, .int .i64 s2)] <| OJ.nil <| SJ.rg 1 <| OJ.go 1 [(14, .int .i64 1)] <| OJ.nil <| SJ.less [0, 1, 2, 3, 4, 10, 11, 12, 13, 14] (m' := [(0, Sl.v a0), (1, .int .i64 s1), (2, .int .i64 s2), (3, .int .i64 j11), (4, a4v.v), (10, .bool s4), (11, .bool s5), (12, .int .i64 (IntKind.wrap .i64 (s2 - s1))), (13, .int .i64 (IntKind.wrap .i64 ((IntKind.wrap .i64 (s2 - 1)) - (IntKind.wrap .i64 (r12.1 - s1))))), (14, .int .i64 1)]) ?_
    exact slices_pdqsortCmpFunc_api_Route.K2_ok a0 a4v a4 h_a4 rec_ h_rec_ s1 s2 s4 s5 j11 (IntKind.wrap .i64 ((IntKind.wrap .i64 (s2 - 1)) - (IntKind.wrap .i64 (r12.1 - s1)))) 1
  · refine SJ.skip <| SJ.less [0, 1, 2, 3, 4, 10, 11, 12, 13, 14] (m' := [(0, Sl.v a0), (1, .int .i64 s1), (2, .int .i64 s2), (3, .int .i64 j11), (4, a4v.v), (10, .bool s4), (11, .bool s5), (12, .int .i64 (IntKind.wrap .i64 (s2 - s1))), (13, .int .i64 r12.1), (14, .int .i64 r12.2)]) ?_
    exact slices_pdqsortCmpFunc_api_Route.K2_ok a0 a4v a4 h_a4 rec_ h_rec_ s1 s2 s4 s5 j11 r12.1 r12.2
noncomputable def slices_pdqsortCmpFunc_api_Route.L1 (a0 : Sl) (a4 : api_Route → api_Route → M Int) (rec_ : Sl → Int → Int → Int → M Unit) (s1 : Int) (s2 : Int) (s3 : Int) (s4 : Bool) (s5 : Bool) : M (LS (Int × Int × Int × Bool × Bool) Unit) :=
  if (IntKind.wrap .i64 (s2 - s1)) ≤ 12 then
    slices_insertionSortCmpFunc_api_Route a0 s1 s2 a4 >>= fun r7 =>
    pure (LS.done ())
  else
    if s3 = 0 then
      slices_heapSortCmpFunc_api_Route a0 s1 s2 a4 >>= fun r9 =>
      pure (LS.done ())
    else
      if ¬ (s4 = true) then
        slices_breakPatternsCmpFunc_api_Route a0 s1 s2 a4 >>= fun r40 =>
        slices_pdqsortCmpFunc_api_Route.K3 a0 a4 rec_ s1 s2 s4 s5 (IntKind.wrap .i64 (s3 - 1))
      else
        slices_pdqsortCmpFunc_api_Route.K3 a0 a4 rec_ s1 s2 s4 s5 s3
theorem slices_pdqsortCmpFunc_api_Route.L1_ok (a0 : Sl) (a4v : Any) (a4 : api_Route → api_Route → M Int) (h_a4 : ∀ (x0_ : api_Route), ∀ (x1_ : api_Route), RefV Tryd.prog a4v.v [c_api_Route.val x0_, c_api_Route.val x1_] (a4 x0_ x1_) (fun r_ : Int => .int .i64 r_)) (rec_ : Sl → Int → Int → Int → M Unit) (h_rec_ : ∀ (x0_ : Sl) (x1_ : Int) (x2_ : Int) (x3_ : Int), Ref Tryd.prog 65 [Sl.v x0_, .int .i64 x1_, .int .i64 x2_, .int .i64 x3_, a4v.v] (rec_ x0_ x1_ x2_ x3_) slices_pdqsortCmpFunc_api_Route.out) (s1 : Int) (s2 : Int) (s3 : Int) (s4 : Bool) (s5 : Bool) :
    SJ slices_pdqsortCmpFunc_api_Route.cx [.code (c1 (c1 (c2 (c2 slices_pdqsortCmpFunc_api_Route.B)))), .inLoop (c1 (c1 (c2 (c2 slices_pdqsortCmpFunc_api_Route.B)))), .inBlock 0] [(0, Sl.v a0), (1, .int .i64 s1), (2, .int .i64 s2), (3, .int .i64 s3), (4, a4v.v), (10, .bool s4), (11, .bool s5)] [] (slices_pdqsortCmpFunc_api_Route.L1 a0 a4 rec_ s1 s2 s3 s4 s5) (slices_pdqsortCmpFunc_api_Route.F1 a0 a4v) := by
  unfold slices_pdqsortCmpFunc_api_Route.L1
  refine SJ.block (id := 1) <| SJ.sr 4 <| OJ.go 4 [(12, .int .i64 (IntKind.wrap .i64 (s2 - s1))), (23, .int .i64 (IntKind.wrap .i64 (s2 - s1))), (22, .int .i64 s1), (21, .int .i64 s2)] <| OJ.nil <| SJ.seq <| SJ.sr 2 <| OJ.go 2 [(25, .bool (decide ((IntKind.wrap .i64 (s2 - s1)) ≤ 12))), (24, .int .i64 (IntKind.wrap .i64 (s2 - s1)))] <| OJ.nil <| SJ.cond (t := (.tmp 25)) (b := decide ((IntKind.wrap .i64 (s2 - s1)) ≤ 12)) decide_eq_true_iff (fun hc43 => ?_) (fun hc43 => ?_)
  · refine SJ.sr 5 <| OJ.go 4 [(29, a4v.v), (28, .int .i64 s2), (27, .int .i64 s1), (26, Sl.v a0)] <| OJ.call (d := 30) (g := 70) (ats := #[39, 3, 3, 97]) (args := [.tmp 26, .tmp 27, .tmp 28, .tmp 29]) (owed := []) F70 (slices_insertionSortCmpFunc_api_Route_ok a0 s1 s2 a4v a4 h_a4) (fun r7 => ?_)
    exact OW.nil <| OJ.nil <| SJ.ret rfl (Res.run (ys := []) .nil rfl)
  · refine SJ.skip <| SJ.seq <| SJ.sr 2 <| OJ.go 2 [(32, .bool (s3 == 0)), (31, .int .i64 s3)] <| OJ.nil <| SJ.cond (t := (.tmp 32)) (b := (s3 == 0)) beq_iff_eq (fun hc42 => ?_) (fun hc42 => ?_)
    · refine SJ.sr 5 <| OJ.go 4 [(36, a4v.v), (35, .int .i64 s2), (34, .int .i64 s1), (33, Sl.v a0)] <| OJ.call (d := 37) (g := 71) (ats := #[39, 3, 3, 97]) (args := [.tmp 33, .tmp 34, .tmp 35, .tmp 36]) (owed := []) F71 (slices_heapSortCmpFunc_api_Route_ok a0 s1 s2 a4v a4 h_a4) (fun r9 => ?_)
      exact OW.nil <| OJ.nil <| SJ.ret rfl (Res.run (ys := []) .nil rfl)
    · refine SJ.skip <| SJ.seq <| SJ.sr 2 <| OJ.go 2 [(39, .bool (!s4)), (38, .bool s4)] <| OJ.nil <| SJ.cond (t := (.tmp 39)) (b := (!s4)) (bnot_iff Iff.rfl) (fun hc41 => ?_) (fun hc41 => ?_)
      · refine SJ.sr 5 <| OJ.go 4 [(43, a4v.v), (42, .int .i64 s2), (41, .int .i64 s1), (40, Sl.v a0)] <| OJ.call (d := 44) (g := 72) (ats := #[39, 3, 3, 97]) (args := [.tmp 40, .tmp 41, .tmp 42, .tmp 43]) (owed := []) F72 (slices_breakPatternsCmpFunc_api_Route_ok a0 s1 s2 a4v a4 h_a4) (fun r40 => ?_)
        refine OW.nil <| OJ.nil <| SJ.rg 3 <| OJ.go 3 [(3, .int .i64 (IntKind.wrap .i64 (s3 - 1))), (46, .int .i64 (IntKind.wrap .i64 (s3 - 1))), (45, .int .i64 s3)] <| OJ.nil <| SJ.less [0, 1, 2, 3, 4, 10, 11, 12] (m' := [(0, Sl.v a0), (1, .int .i64 s1), (2, .int .i64 s2), (3, .int .i64 (IntKind.wrap .i64 (s3 - 1))), (4, a4v.v), (10, .bool s4), (11, .bool s5), (12, .int .i64 (IntKind.wrap .i64 (s2 - s1)))]) ?_
        exact slices_pdqsortCmpFunc_api_Route.K3_ok a0 a4v a4 h_a4 rec_ h_rec_ s1 s2 s4 s5 (IntKind.wrap .i64 (s3 - 1))
      · refine SJ.skip <| SJ.less [0, 1, 2, 3, 4, 10, 11, 12] (m' := [(0, Sl.v a0), (1, .int .i64 s1), (2, .int .i64 s2), (3, .int .i64 s3), (4, a4v.v), (10, .bool s4), (11, .bool s5), (12, .int .i64 (IntKind.wrap .i64 (s2 - s1)))]) ?_
        exact slices_pdqsortCmpFunc_api_Route.K3_ok a0 a4v a4 h_a4 rec_ h_rec_ s1 s2 s4 s5 s3
noncomputable def slices_pdqsortCmpFunc_api_Route.body (rec_ : Sl → Int → Int → Int → M Unit) (a0 : Sl) (a1 : Int) (a2 : Int) (a3 : Int) (a4 : api_Route → api_Route → M Int) : M Unit :=
  loopM (fun s_ : (Int × Int × Int × Bool × Bool) => slices_pdqsortCmpFunc_api_Route.L1 a0 a4 rec_ s_.1 s_.2.1 s_.2.2.1 s_.2.2.2.1 s_.2.2.2.2) (a1, a2, a3, true, true)
theorem slices_pdqsortCmpFunc_api_Route.body_ok (a4v : Any) (a4 : api_Route → api_Route → M Int) (h_a4 : ∀ (x0_ : api_Route), ∀ (x1_ : api_Route), RefV Tryd.prog a4v.v [c_api_Route.val x0_, c_api_Route.val x1_] (a4 x0_ x1_) (fun r_ : Int => .int .i64 r_)) (rec_ : Sl → Int → Int → Int → M Unit) (h_rec_ : ∀ (x0_ : Sl) (x1_ : Int) (x2_ : Int) (x3_ : Int), Ref Tryd.prog 65 [Sl.v x0_, .int .i64 x1_, .int .i64 x2_, .int .i64 x3_, a4v.v] (rec_ x0_ x1_ x2_ x3_) slices_pdqsortCmpFunc_api_Route.out) (a0 : Sl) (a1 : Int) (a2 : Int) (a3 : Int) : Ref Tryd.prog 65 [Sl.v a0, .int .i64 a1, .int .i64 a2, .int .i64 a3, a4v.v] (slices_pdqsortCmpFunc_api_Route.body rec_ a0 a1 a2 a3 a4) slices_pdqsortCmpFunc_api_Route.out := by
  refine Ref.of (cd := slices_pdqsortCmpFunc_api_Route.B) Tryd.func65 ?_
  show SJ slices_pdqsortCmpFunc_api_Route.cx [.code slices_pdqsortCmpFunc_api_Route.B] [(0, Sl.v a0), (1, .int .i64 a1), (2, .int .i64 a2), (3, .int .i64 a3), (4, a4v.v)] [] (slices_pdqsortCmpFunc_api_Route.body rec_ a0 a1 a2 a3 a4) slices_pdqsortCmpFunc_api_Route.F0
  unfold slices_pdqsortCmpFunc_api_Route.body
  exact SJ.sr 1 <| OJ.go 1 [(10, .bool true)] <| OJ.nil <| SJ.sr 1 <| OJ.go 1 [(11, .bool true)] <| OJ.nil <| SJ.block (id := 0) <| SJ.loop (fun s_ : (Int × Int × Int × Bool × Bool) => [(0, Sl.v a0), (1, .int .i64 s_.1), (2, .int .i64 s_.2.1), (3, .int .i64 s_.2.2.1), (4, a4v.v), (10, .bool s_.2.2.2.1), (11, .bool s_.2.2.2.2)]) (fun s_ : (Int × Int × Int × Bool × Bool) => []) [0, 1, 2, 3, 4, 10, 11] rfl (fun _ _ => rfl) (fun s_ => slices_pdqsortCmpFunc_api_Route.L1_ok a0 a4v a4 h_a4 rec_ h_rec_ s_.1 s_.2.1 s_.2.2.1 s_.2.2.2.1 s_.2.2.2.2)
noncomputable def slices_pdqsortCmpFunc_api_Route.go (a4 : api_Route → api_Route → M Int) : Nat → Sl → Int → Int → Int → M Unit
  | 0 => fun a0 a1 a2 a3 => fun _ => none
  | n + 1 => fun a0 a1 a2 a3 => slices_pdqsortCmpFunc_api_Route.body (slices_pdqsortCmpFunc_api_Route.go a4 n) a0 a1 a2 a3 a4
theorem slices_pdqsortCmpFunc_api_Route.go_ok (a4v : Any) (a4 : api_Route → api_Route → M Int) (h_a4 : ∀ (x0_ : api_Route), ∀ (x1_ : api_Route), RefV Tryd.prog a4v.v [c_api_Route.val x0_, c_api_Route.val x1_] (a4 x0_ x1_) (fun r_ : Int => .int .i64 r_)) : ∀ (n : Nat) (a0 : Sl) (a1 : Int) (a2 : Int) (a3 : Int), Ref Tryd.prog 65 [Sl.v a0, .int .i64 a1, .int .i64 a2, .int .i64 a3, a4v.v] (slices_pdqsortCmpFunc_api_Route.go a4 n a0 a1 a2 a3) slices_pdqsortCmpFunc_api_Route.out
  | 0, a0, a1, a2, a3 => fun v r v' e => by cases e
  | n + 1, a0, a1, a2, a3 => slices_pdqsortCmpFunc_api_Route.body_ok a4v a4 h_a4 (slices_pdqsortCmpFunc_api_Route.go a4 n) (slices_pdqsortCmpFunc_api_Route.go_ok a4v a4 h_a4 n) a0 a1 a2 a3
noncomputable def slices_pdqsortCmpFunc_api_Route (a0 : Sl) (a1 : Int) (a2 : Int) (a3 : Int) (a4 : api_Route → api_Route → M Int) : M Unit := slices_pdqsortCmpFunc_api_Route.go a4 1000000000000 a0 a1 a2 a3
theorem slices_pdqsortCmpFunc_api_Route_ok (a0 : Sl) (a1 : Int) (a2 : Int) (a3 : Int) (a4v : Any) (a4 : api_Route → api_Route → M Int) (h_a4 : ∀ (x0_ : api_Route), ∀ (x1_ : api_Route), RefV Tryd.prog a4v.v [c_api_Route.val x0_, c_api_Route.val x1_] (a4 x0_ x1_) (fun r_ : Int => .int .i64 r_)) : Ref Tryd.prog 65 [Sl.v a0, .int .i64 a1, .int .i64 a2, .int .i64 a3, a4v.v] (slices_pdqsortCmpFunc_api_Route a0 a1 a2 a3 a4) slices_pdqsortCmpFunc_api_Route.out := slices_pdqsortCmpFunc_api_Route.go_ok a4v a4 h_a4 1000000000000 a0 a1 a2 a3

/-! ### slices.SortFunc[[]weir/api.Route,weir/api.Route]: function 58 -/
noncomputable def slices_SortFunc_api_Route_api_Route.B : Code := (Tryd.f58.body).getD .skip
noncomputable def slices_SortFunc_api_Route_api_Route.cx : Fx := ⟨Tryd.prog, 58, Tryd.f58, none⟩
noncomputable def slices_SortFunc_api_Route_api_Route.out (r_ : Unit) : Value := .tuple #[]
noncomputable def slices_SortFunc_api_Route_api_Route.F0 (r_ : Unit) : Reach := .ret (slices_SortFunc_api_Route_api_Route.out r_)
noncomputable def slices_SortFunc_api_Route_api_Route (a0 : Sl) (a1 : api_Route → api_Route → M Int) : M Unit :=
  bits_Len (IntKind.wrap .u64 (a0.len : Int)) >>= fun r1 =>
  slices_pdqsortCmpFunc_api_Route a0 0 (a0.len : Int) r1 a1 >>= fun r2 =>
  pure ()
theorem slices_SortFunc_api_Route_api_Route_ok (a0 : Sl) (a1v : Any) (a1 : api_Route → api_Route → M Int) (h_a1 : ∀ (x0_ : api_Route), ∀ (x1_ : api_Route), RefV Tryd.prog a1v.v [c_api_Route.val x0_, c_api_Route.val x1_] (a1 x0_ x1_) (fun r_ : Int => .int .i64 r_)) : Ref Tryd.prog 58 [Sl.v a0, a1v.v] (slices_SortFunc_api_Route_api_Route a0 a1) slices_SortFunc_api_Route_api_Route.out := by
  refine Ref.of (cd := slices_SortFunc_api_Route_api_Route.B) Tryd.func58 ?_
  show SJ slices_SortFunc_api_Route_api_Route.cx [.code slices_SortFunc_api_Route_api_Route.B] [(0, Sl.v a0), (1, a1v.v)] [] (slices_SortFunc_api_Route_api_Route a0 a1) slices_SortFunc_api_Route_api_Route.F0
  unfold slices_SortFunc_api_Route_api_Route
  refine SJ.sr 3 <| OJ.go 3 [(4, .int .i64 (a0.len : Int)), (6, .int .i64 (a0.len : Int)), (5, Sl.v a0)] <| OJ.nil <| SJ.rg 7 <| OJ.go 4 [(10, .int .u64 (IntKind.wrap .u64 (a0.len : Int))), (9, .int .i64 (a0.len : Int)), (8, .int .i64 (a0.len : Int)), (7, Sl.v a0)] <| OJ.call (d := 11) (g := 66) (ats := #[108]) (args := [.tmp 10]) (owed := []) F66 (bits_Len_ok (IntKind.wrap .u64 (a0.len : Int))) (fun r1 => ?_)
  refine OW.nil <| OJ.go 1 [(12, a1v.v)] <| OJ.call (d := 13) (g := 65) (ats := #[39, 3, 3, 3, 97]) (args := [.tmp 7, .const (.int .i64 0), .tmp 8, .tmp 11, .tmp 12]) (owed := []) F65 (slices_pdqsortCmpFunc_api_Route_ok a0 0 (a0.len : Int) r1 a1v a1 h_a1) (fun r2 => ?_)
  exact OW.nil <| OJ.nil <| SJ.end_ rfl (Res.run (ys := []) .nil rfl)

/-! ### slices.SortedFunc[weir/api.Route]: function 43 -/
noncomputable def slices_SortedFunc_api_Route.B : Code := (Tryd.f43.body).getD .skip
noncomputable def slices_SortedFunc_api_Route.cx : Fx := ⟨Tryd.prog, 43, Tryd.f43, none⟩
noncomputable def slices_SortedFunc_api_Route.out (r_ : Sl) : Value := Sl.v r_
noncomputable def slices_SortedFunc_api_Route.F0 (r_ : Sl) : Reach := .ret (slices_SortedFunc_api_Route.out r_)
noncomputable def slices_SortedFunc_api_Route (a0 : Any) (a1 : api_Route → api_Route → M Int) : M Sl :=
  slices_Collect_api_Route a0 >>= fun r1 =>
  slices_SortFunc_api_Route_api_Route r1 a1 >>= fun r2 =>
  pure r1
theorem slices_SortedFunc_api_Route_ok (a0 : Any) (a1v : Any) (a1 : api_Route → api_Route → M Int) (h_a1 : ∀ (x0_ : api_Route), ∀ (x1_ : api_Route), RefV Tryd.prog a1v.v [c_api_Route.val x0_, c_api_Route.val x1_] (a1 x0_ x1_) (fun r_ : Int => .int .i64 r_)) : Ref Tryd.prog 43 [a0.v, a1v.v] (slices_SortedFunc_api_Route a0 a1) slices_SortedFunc_api_Route.out := by
  refine Ref.of (cd := slices_SortedFunc_api_Route.B) Tryd.func43 ?_
  show SJ slices_SortedFunc_api_Route.cx [.code slices_SortedFunc_api_Route.B] [(0, a0.v), (1, a1v.v)] [] (slices_SortedFunc_api_Route a0 a1) slices_SortedFunc_api_Route.F0
  unfold slices_SortedFunc_api_Route
  refine SJ.sr 1 <| OJ.go 1 [(4, Sl.v Sl.nil)] <| OJ.nil <| SJ.sr 3 <| OJ.go 1 [(6, a0.v)] <| OJ.call (d := 7) (g := 57) (ats := #[62]) (args := [.tmp 6]) (owed := []) F57 (slices_Collect_api_Route_ok a0) (fun r1 => ?_)
  refine OW.nil <| OJ.go 1 [(5, Sl.v r1)] <| OJ.nil <| SJ.sr 3 <| OJ.go 2 [(9, a1v.v), (8, Sl.v r1)] <| OJ.call (d := 10) (g := 58) (ats := #[39, 97]) (args := [.tmp 8, .tmp 9]) (owed := []) F58 (slices_SortFunc_api_Route_api_Route_ok r1 a1v a1 h_a1) (fun r2 => ?_)
  exact OW.nil <| OJ.nil <| SJ.sr 2 <| OJ.go 2 [(4, Sl.v r1), (11, Sl.v r1)] <| OJ.nil <| SJ.r1 (Sl.v r1) rfl rfl

/-! ### cmp.isNaN[int]: function 67 -/
noncomputable def cmp_isNaN_int.B : Code := (Tryd.f67.body).getD .skip
noncomputable def cmp_isNaN_int.cx : Fx := ⟨Tryd.prog, 67, Tryd.f67, none⟩
noncomputable def cmp_isNaN_int.out (r_ : Bool) : Value := .bool r_
noncomputable def cmp_isNaN_int.F0 (r_ : Bool) : Reach := .ret (cmp_isNaN_int.out r_)
noncomputable def cmp_isNaN_int (a0 : Int) : M Bool :=
  pure (a0 != a0)
theorem cmp_isNaN_int_ok (a0 : Int) : Ref Tryd.prog 67 [.int .i64 a0] (cmp_isNaN_int a0) cmp_isNaN_int.out := by
  refine Ref.of (cd := cmp_isNaN_int.B) Tryd.func67 ?_
  show SJ cmp_isNaN_int.cx [.code cmp_isNaN_int.B] [(0, .int .i64 a0)] [] (cmp_isNaN_int a0) cmp_isNaN_int.F0
  unfold cmp_isNaN_int
  exact SJ.sr 1 <| OJ.go 1 [(2, .bool false)] <| OJ.nil <| SJ.sr 4 <| OJ.go 4 [(2, .bool (a0 != a0)), (5, .bool (a0 != a0)), (4, .int .i64 a0), (3, .int .i64 a0)] <| OJ.nil <| SJ.r1 (.bool (a0 != a0)) rfl rfl

/-! ### cmp.Compare[int]: function 61 -/
noncomputable def cmp_Compare_int.B : Code := (Tryd.f61.body).getD .skip
noncomputable def cmp_Compare_int.cx : Fx := ⟨Tryd.prog, 61, Tryd.f61, none⟩
noncomputable def cmp_Compare_int.out (r_ : Int) : Value := .int .i64 r_
noncomputable def cmp_Compare_int.F0 (r_ : Int) : Reach := .ret (cmp_Compare_int.out r_)
noncomputable def cmp_Compare_int (a0 : Int) (a1 : Int) : M Int :=
  cmp_isNaN_int a0 >>= fun r1 =>
  cmp_isNaN_int a1 >>= fun r2 =>
  if r1 = true then
    if r2 = true then
      pure 0
    else
      pure (-1)
  else
    if r2 = true then
      pure 1
    else
      if a0 < a1 then
        pure (-1)
      else
        if a0 > a1 then
          pure 1
        else
          pure 0
theorem cmp_Compare_int_ok (a0 : Int) (a1 : Int) : Ref Tryd.prog 61 [.int .i64 a0, .int .i64 a1] (cmp_Compare_int a0 a1) cmp_Compare_int.out := by
  refine Ref.of (cd := cmp_Compare_int.B) Tryd.func61 ?_
  show SJ cmp_Compare_int.cx [.code cmp_Compare_int.B] [(0, .int .i64 a0), (1, .int .i64 a1)] [] (cmp_Compare_int a0 a1) cmp_Compare_int.F0
  unfold cmp_Compare_int
  refine SJ.sr 1 <| OJ.go 1 [(4, .int .i64 0)] <| OJ.nil <| SJ.sr 3 <| OJ.go 1 [(7, .int .i64 a0)] <| OJ.call (d := 8) (g := 67) (ats := #[3]) (args := [.tmp 7]) (owed := []) F67 (cmp_isNaN_int_ok a0) (fun r1 => ?_)
  refine OW.nil <| OJ.go 1 [(5, .bool r1)] <| OJ.nil <| SJ.sr 3 <| OJ.go 1 [(9, .int .i64 a1)] <| OJ.call (d := 10) (g := 67) (ats := #[3]) (args := [.tmp 9]) (owed := []) F67 (cmp_isNaN_int_ok a1) (fun r2 => ?_)
  refine OW.nil <| OJ.go 1 [(6, .bool r2)] <| OJ.nil <| SJ.seq <| SJ.sr 1 <| OJ.go 1 [(11, .bool r1)] <| OJ.nil <| SJ.cond (t := (.tmp 11)) (b := r1) Iff.rfl (fun hc8 => ?_) (fun hc8 => ?_)
  · refine SJ.seq <| SJ.sr 1 <| OJ.go 1 [(12, .bool r2)] <| OJ.nil <| SJ.cond (t := (.tmp 12)) (b := r2) Iff.rfl (fun hc4 => ?_) (fun hc4 => ?_)
    · exact SJ.sr 1 <| OJ.go 1 [(4, .int .i64 0)] <| OJ.nil <| SJ.r1 (.int .i64 0) rfl rfl
    · exact SJ.skip <| SJ.sr 1 <| OJ.go 1 [(4, .int .i64 (-1))] <| OJ.nil <| SJ.r1 (.int .i64 (-1)) rfl rfl
  · refine SJ.skip <| SJ.seq <| SJ.sr 1 <| OJ.go 1 [(13, .bool r2)] <| OJ.nil <| SJ.cond (t := (.tmp 13)) (b := r2) Iff.rfl (fun hc7 => ?_) (fun hc7 => ?_)
    · exact SJ.sr 1 <| OJ.go 1 [(4, .int .i64 1)] <| OJ.nil <| SJ.r1 (.int .i64 1) rfl rfl
    · refine SJ.skip <| SJ.seq <| SJ.sr 3 <| OJ.go 3 [(16, .bool (decide (a0 < a1))), (15, .int .i64 a1), (14, .int .i64 a0)] <| OJ.nil <| SJ.cond (t := (.tmp 16)) (b := decide (a0 < a1)) decide_eq_true_iff (fun hc6 => ?_) (fun hc6 => ?_)
      · exact SJ.sr 1 <| OJ.go 1 [(4, .int .i64 (-1))] <| OJ.nil <| SJ.r1 (.int .i64 (-1)) rfl rfl
      · refine SJ.skip <| SJ.seq <| SJ.sr 3 <| OJ.go 3 [(19, .bool (decide (a0 > a1))), (18, .int .i64 a1), (17, .int .i64 a0)] <| OJ.nil <| SJ.cond (t := (.tmp 19)) (b := decide (a0 > a1)) decide_eq_true_iff (fun hc5 => ?_) (fun hc5 => ?_)
        · exact SJ.sr 1 <| OJ.go 1 [(4, .int .i64 1)] <| OJ.nil <| SJ.r1 (.int .i64 1) rfl rfl
        · exact SJ.skip <| SJ.sr 1 <| OJ.go 1 [(4, .int .i64 0)] <| OJ.nil <| SJ.r1 (.int .i64 0) rfl rfl

/-! ### cmp.isNaN[byte]: function 80 -/
noncomputable def cmp_isNaN_byte.B : Code := (Tryd.f80.body).getD .skip
noncomputable def cmp_isNaN_byte.cx : Fx := ⟨Tryd.prog, 80, Tryd.f80, none⟩
noncomputable def cmp_isNaN_byte.out (r_ : Bool) : Value := .bool r_
noncomputable def cmp_isNaN_byte.F0 (r_ : Bool) : Reach := .ret (cmp_isNaN_byte.out r_)
noncomputable def cmp_isNaN_byte (a0 : Int) : M Bool :=
  pure (a0 != a0)
theorem cmp_isNaN_byte_ok (a0 : Int) : Ref Tryd.prog 80 [.int .u8 a0] (cmp_isNaN_byte a0) cmp_isNaN_byte.out := by
  refine Ref.of (cd := cmp_isNaN_byte.B) Tryd.func80 ?_
  show SJ cmp_isNaN_byte.cx [.code cmp_isNaN_byte.B] [(0, .int .u8 a0)] [] (cmp_isNaN_byte a0) cmp_isNaN_byte.F0
  unfold cmp_isNaN_byte
  exact SJ.sr 1 <| OJ.go 1 [(2, .bool false)] <| OJ.nil <| SJ.sr 4 <| OJ.go 4 [(2, .bool (a0 != a0)), (5, .bool (a0 != a0)), (4, .int .u8 a0), (3, .int .u8 a0)] <| OJ.nil <| SJ.r1 (.bool (a0 != a0)) rfl rfl

/-! ### cmp.Compare[byte]: function 68 -/
noncomputable def cmp_Compare_byte.B : Code := (Tryd.f68.body).getD .skip
noncomputable def cmp_Compare_byte.cx : Fx := ⟨Tryd.prog, 68, Tryd.f68, none⟩
noncomputable def cmp_Compare_byte.out (r_ : Int) : Value := .int .i64 r_
noncomputable def cmp_Compare_byte.F0 (r_ : Int) : Reach := .ret (cmp_Compare_byte.out r_)
noncomputable def cmp_Compare_byte (a0 : Int) (a1 : Int) : M Int :=
  cmp_isNaN_byte a0 >>= fun r1 =>
  cmp_isNaN_byte a1 >>= fun r2 =>
  if r1 = true then
    if r2 = true then
      pure 0
    else
      pure (-1)
  else
    if r2 = true then
      pure 1
    else
      if a0 < a1 then
        pure (-1)
      else
        if a0 > a1 then
          pure 1
        else
          pure 0
theorem cmp_Compare_byte_ok (a0 : Int) (a1 : Int) : Ref Tryd.prog 68 [.int .u8 a0, .int .u8 a1] (cmp_Compare_byte a0 a1) cmp_Compare_byte.out := by
  refine Ref.of (cd := cmp_Compare_byte.B) Tryd.func68 ?_
  show SJ cmp_Compare_byte.cx [.code cmp_Compare_byte.B] [(0, .int .u8 a0), (1, .int .u8 a1)] [] (cmp_Compare_byte a0 a1) cmp_Compare_byte.F0
  unfold cmp_Compare_byte
  refine SJ.sr 1 <| OJ.go 1 [(4, .int .i64 0)] <| OJ.nil <| SJ.sr 3 <| OJ.go 1 [(7, .int .u8 a0)] <| OJ.call (d := 8) (g := 80) (ats := #[5]) (args := [.tmp 7]) (owed := []) F80 (cmp_isNaN_byte_ok a0) (fun r1 => ?_)
  refine OW.nil <| OJ.go 1 [(5, .bool r1)] <| OJ.nil <| SJ.sr 3 <| OJ.go 1 [(9, .int .u8 a1)] <| OJ.call (d := 10) (g := 80) (ats := #[5]) (args := [.tmp 9]) (owed := []) F80 (cmp_isNaN_byte_ok a1) (fun r2 => ?_)
  refine OW.nil <| OJ.go 1 [(6, .bool r2)] <| OJ.nil <| SJ.seq <| SJ.sr 1 <| OJ.go 1 [(11, .bool r1)] <| OJ.nil <| SJ.cond (t := (.tmp 11)) (b := r1) Iff.rfl (fun hc8 => ?_) (fun hc8 => ?_)
  · refine SJ.seq <| SJ.sr 1 <| OJ.go 1 [(12, .bool r2)] <| OJ.nil <| SJ.cond (t := (.tmp 12)) (b := r2) Iff.rfl (fun hc4 => ?_) (fun hc4 => ?_)
    · exact SJ.sr 1 <| OJ.go 1 [(4, .int .i64 0)] <| OJ.nil <| SJ.r1 (.int .i64 0) rfl rfl
    · exact SJ.skip <| SJ.sr 1 <| OJ.go 1 [(4, .int .i64 (-1))] <| OJ.nil <| SJ.r1 (.int .i64 (-1)) rfl rfl
  · refine SJ.skip <| SJ.seq <| SJ.sr 1 <| OJ.go 1 [(13, .bool r2)] <| OJ.nil <| SJ.cond (t := (.tmp 13)) (b := r2) Iff.rfl (fun hc7 => ?_) (fun hc7 => ?_)
    · exact SJ.sr 1 <| OJ.go 1 [(4, .int .i64 1)] <| OJ.nil <| SJ.r1 (.int .i64 1) rfl rfl
    · refine SJ.skip <| SJ.seq <| SJ.sr 3 <| OJ.go 3 [(16, .bool (decide (a0 < a1))), (15, .int .u8 a1), (14, .int .u8 a0)] <| OJ.nil <| SJ.cond (t := (.tmp 16)) (b := decide (a0 < a1)) decide_eq_true_iff (fun hc6 => ?_) (fun hc6 => ?_)
      · exact SJ.sr 1 <| OJ.go 1 [(4, .int .i64 (-1))] <| OJ.nil <| SJ.r1 (.int .i64 (-1)) rfl rfl
      · refine SJ.skip <| SJ.seq <| SJ.sr 3 <| OJ.go 3 [(19, .bool (decide (a0 > a1))), (18, .int .u8 a1), (17, .int .u8 a0)] <| OJ.nil <| SJ.cond (t := (.tmp 19)) (b := decide (a0 > a1)) decide_eq_true_iff (fun hc5 => ?_) (fun hc5 => ?_)
        · exact SJ.sr 1 <| OJ.go 1 [(4, .int .i64 1)] <| OJ.nil <| SJ.r1 (.int .i64 1) rfl rfl
        · exact SJ.skip <| SJ.sr 1 <| OJ.go 1 [(4, .int .i64 0)] <| OJ.nil <| SJ.r1 (.int .i64 0) rfl rfl

/-! ### slices.Compare[[]byte,byte]: function 62 -/
noncomputable def slices_Compare_byte_byte.B : Code := (Tryd.f62.body).getD .skip
noncomputable def slices_Compare_byte_byte.cx : Fx := ⟨Tryd.prog, 62, Tryd.f62, none⟩
noncomputable def slices_Compare_byte_byte.out (r_ : Int) : Value := .int .i64 r_
noncomputable def slices_Compare_byte_byte.F0 (r_ : Int) : Reach := .ret (slices_Compare_byte_byte.out r_)
noncomputable def slices_Compare_byte_byte.F1 (a0 : Sl) (a1 : Sl) : (LS Int Int) → Reach := loopF [.inLoop (c1 (c1 (c2 (c1 (c2 slices_Compare_byte_byte.B))))), .inBlock 0, .code (c2 (c2 slices_Compare_byte_byte.B))] (fun s_ : Int => [(0, Sl.v a0), (1, Sl.v a1), (9, Sl.v a0), (10, .int .i64 (a0.len : Int)), (11, .int .i64 s_)]) (fun s_ : Int => []) slices_Compare_byte_byte.F0
noncomputable def slices_Compare_byte_byte.L1 (a0 : Sl) (a1 : Sl) (s1 : Int) : M (LS Int Int) :=
  if s1 < (a0.len : Int) then
    idx a0.a a0.len s1 1 >>= fun p11 =>
    ld (cI .u8) p11 >>= fun x12 =>
    if s1 ≥ (a1.len : Int) then
      pure (LS.done 1)
    else
      idx a1.a a1.len s1 1 >>= fun p13 =>
      ld (cI .u8) p13 >>= fun x14 =>
      cmp_Compare_byte x12 x14 >>= fun r15 =>
      if r15 ≠ 0 then
        pure (LS.done r15)
      else
        pure (LS.next (IntKind.wrap .i64 (s1 + 1)))
  else
    if (a0.len : Int) < (a1.len : Int) then
      pure (LS.done (-1))
    else
      pure (LS.done 0)
theorem slices_Compare_byte_byte.L1_ok (a0 : Sl) (a1 : Sl) (s1 : Int) :
    SJ slices_Compare_byte_byte.cx [.code (c1 (c1 (c2 (c1 (c2 slices_Compare_byte_byte.B))))), .inLoop (c1 (c1 (c2 (c1 (c2 slices_Compare_byte_byte.B))))), .inBlock 0, .code (c2 (c2 slices_Compare_byte_byte.B))] [(0, Sl.v a0), (1, Sl.v a1), (9, Sl.v a0), (10, .int .i64 (a0.len : Int)), (11, .int .i64 s1)] [] (slices_Compare_byte_byte.L1 a0 a1 s1) (slices_Compare_byte_byte.F1 a0 a1) := by
  unfold slices_Compare_byte_byte.L1
  refine SJ.sr 1 <| OJ.go 1 [(12, .bool (decide (s1 < (a0.len : Int))))] <| OJ.nil <| SJ.seq <| SJ.cond (t := (.tmp 12)) (b := decide (s1 < (a0.len : Int))) decide_eq_true_iff (fun hc19 => ?_) (fun hc19 => ?_)
  · refine SJ.skip <| SJ.seq <| SJ.block (id := 1) <| SJ.sr 5 <| OJ.go 1 [(13, .int .i64 s1)] <| OJ.idxS (d := 14) (T := 114) (y := .tmp 9) (j := .tmp 11) (E := 5) (cap := a0.cap) (k := .i64) (fun p11 => ?_)
    refine OJ.ld (d := 15) (y := .tmp 14) (pend2 := fun x12 => []) Ty5 (fun _ => rfl) (fun x12 => ?_)
    refine OJ.go 2 [(6, .int .u8 x12), (5, .int .i64 s1)] <| OJ.nil <| SJ.seq <| SJ.sr 4 <| OJ.go 4 [(19, .bool (decide (s1 ≥ (a1.len : Int)))), (18, .int .i64 (a1.len : Int)), (17, Sl.v a1), (16, .int .i64 s1)] <| OJ.nil <| SJ.cond (t := (.tmp 19)) (b := decide (s1 ≥ (a1.len : Int))) decide_eq_true_iff (fun hc17 => ?_) (fun hc17 => ?_)
    · exact SJ.sr 1 <| OJ.go 1 [(4, .int .i64 1)] <| OJ.nil <| SJ.r1 (.int .i64 1) rfl rfl
    · refine SJ.skip <| SJ.sr 5 <| OJ.go 2 [(21, .int .i64 s1), (20, Sl.v a1)] <| OJ.idxS (d := 22) (T := 114) (y := .tmp 20) (j := .tmp 21) (E := 5) (cap := a1.cap) (k := .i64) (fun p13 => ?_)
      refine OJ.ld (d := 23) (y := .tmp 22) (pend2 := fun x14 => []) Ty5 (fun _ => rfl) (fun x14 => ?_)
      refine OJ.go 1 [(7, .int .u8 x14)] <| OJ.nil <| SJ.sr 4 <| OJ.go 2 [(25, .int .u8 x14), (24, .int .u8 x12)] <| OJ.call (d := 26) (g := 68) (ats := #[5, 5]) (args := [.tmp 24, .tmp 25]) (owed := []) F68 (cmp_Compare_byte_ok x12 x14) (fun r15 => ?_)
      refine OW.nil <| OJ.go 1 [(8, .int .i64 r15)] <| OJ.nil <| SJ.sr 2 <| OJ.go 2 [(28, .bool (r15 != 0)), (27, .int .i64 r15)] <| OJ.nil <| SJ.cond (t := (.tmp 28)) (b := (r15 != 0)) bne_iff_ne (fun hc16 => ?_) (fun hc16 => ?_)
      · exact SJ.sr 2 <| OJ.go 2 [(4, .int .i64 r15), (29, .int .i64 r15)] <| OJ.nil <| SJ.r1 (.int .i64 r15) rfl rfl
      · exact SJ.skip <| SJ.inBlock <| SJ.rg 2 <| OJ.go 2 [(11, .int .i64 (IntKind.wrap .i64 (s1 + 1))), (30, .int .i64 (IntKind.wrap .i64 (s1 + 1)))] <| OJ.nil <| SJ.at_ [0, 1, 9, 10, 11] rfl
  · refine SJ.exit (id := 0) (by rfl) <| SJ.seq <| SJ.sr 5 <| OJ.go 5 [(35, .bool (decide ((a0.len : Int) < (a1.len : Int)))), (34, .int .i64 (a1.len : Int)), (33, Sl.v a1), (32, .int .i64 (a0.len : Int)), (31, Sl.v a0)] <| OJ.nil <| SJ.cond (t := (.tmp 35)) (b := decide ((a0.len : Int) < (a1.len : Int))) decide_eq_true_iff (fun hc18 => ?_) (fun hc18 => ?_)
    · exact SJ.sr 1 <| OJ.go 1 [(4, .int .i64 (-1))] <| OJ.nil <| SJ.r1 (.int .i64 (-1)) rfl rfl
    · exact SJ.skip <| SJ.sr 1 <| OJ.go 1 [(4, .int .i64 0)] <| OJ.nil <| SJ.r1 (.int .i64 0) rfl rfl
noncomputable def slices_Compare_byte_byte (a0 : Sl) (a1 : Sl) : M Int :=
  loopM (fun s_ : Int => slices_Compare_byte_byte.L1 a0 a1 s_) 0
theorem slices_Compare_byte_byte_ok (a0 : Sl) (a1 : Sl) : Ref Tryd.prog 62 [Sl.v a0, Sl.v a1] (slices_Compare_byte_byte a0 a1) slices_Compare_byte_byte.out := by
  refine Ref.of (cd := slices_Compare_byte_byte.B) Tryd.func62 ?_
  show SJ slices_Compare_byte_byte.cx [.code slices_Compare_byte_byte.B] [(0, Sl.v a0), (1, Sl.v a1)] [] (slices_Compare_byte_byte a0 a1) slices_Compare_byte_byte.F0
  unfold slices_Compare_byte_byte
  exact SJ.sr 1 <| OJ.go 1 [(4, .int .i64 0)] <| OJ.nil <| SJ.seq <| SJ.sr 3 <| OJ.go 3 [(11, .int .i64 0), (10, .int .i64 (a0.len : Int)), (9, Sl.v a0)] <| OJ.nil <| SJ.block (id := 0) <| SJ.loop (fun s_ : Int => [(0, Sl.v a0), (1, Sl.v a1), (9, Sl.v a0), (10, .int .i64 (a0.len : Int)), (11, .int .i64 s_)]) (fun s_ : Int => []) [0, 1, 9, 10, 11] rfl (fun _ _ => rfl) (fun s_ => slices_Compare_byte_byte.L1_ok a0 a1 s_)

/-! ### cmp.Or[int]: function 60 -/
noncomputable def cmp_Or_int.B : Code := (Tryd.f60.body).getD .skip
noncomputable def cmp_Or_int.cx : Fx := ⟨Tryd.prog, 60, Tryd.f60, none⟩
noncomputable def cmp_Or_int.out (r_ : Int) : Value := .int .i64 r_
noncomputable def cmp_Or_int.F0 (r_ : Int) : Reach := .ret (cmp_Or_int.out r_)
noncomputable def cmp_Or_int.F1 (a0 : Sl) : (LS Int Int) → Reach := loopF [.inLoop (c1 (c1 (c2 (c1 (c2 (c2 cmp_Or_int.B)))))), .inBlock 0, .code (c2 (c2 (c2 cmp_Or_int.B)))] (fun s_ : Int => [(3, .int .i64 0), (6, Sl.v a0), (7, .int .i64 (a0.len : Int)), (8, .int .i64 s_)]) (fun s_ : Int => []) cmp_Or_int.F0
noncomputable def cmp_Or_int.L1 (a0 : Sl) (s1 : Int) : M (LS Int Int) :=
  if s1 < (a0.len : Int) then
    idx a0.a a0.len s1 1 >>= fun p6 =>
    ld (cI .i64) p6 >>= fun x7 =>
    if x7 ≠ 0 then
      pure (LS.done x7)
    else
      pure (LS.next (IntKind.wrap .i64 (s1 + 1)))
  else
    pure (LS.done 0)
theorem cmp_Or_int.L1_ok (a0 : Sl) (s1 : Int) :
    SJ cmp_Or_int.cx [.code (c1 (c1 (c2 (c1 (c2 (c2 cmp_Or_int.B)))))), .inLoop (c1 (c1 (c2 (c1 (c2 (c2 cmp_Or_int.B)))))), .inBlock 0, .code (c2 (c2 (c2 cmp_Or_int.B)))] [(3, .int .i64 0), (6, Sl.v a0), (7, .int .i64 (a0.len : Int)), (8, .int .i64 s1)] [] (cmp_Or_int.L1 a0 s1) (cmp_Or_int.F1 a0) := by
  unfold cmp_Or_int.L1
  refine SJ.sr 1 <| OJ.go 1 [(9, .bool (decide (s1 < (a0.len : Int))))] <| OJ.nil <| SJ.seq <| SJ.cond (t := (.tmp 9)) (b := decide (s1 < (a0.len : Int))) decide_eq_true_iff (fun hc9 => ?_) (fun hc9 => ?_)
  · refine SJ.skip <| SJ.seq <| SJ.block (id := 1) <| SJ.sr 3 <| OJ.idxS (d := 10) (T := 73) (y := .tmp 6) (j := .tmp 8) (E := 3) (cap := a0.cap) (k := .i64) (fun p6 => ?_)
    refine OJ.ld (d := 11) (y := .tmp 10) (pend2 := fun x7 => []) Ty3 (fun _ => rfl) (fun x7 => ?_)
    refine OJ.go 1 [(5, .int .i64 x7)] <| OJ.nil <| SJ.sr 3 <| OJ.go 3 [(14, .bool (x7 != 0)), (13, .int .i64 0), (12, .int .i64 x7)] <| OJ.nil <| SJ.cond (t := (.tmp 14)) (b := (x7 != 0)) bne_iff_ne (fun hc8 => ?_) (fun hc8 => ?_)
    · exact SJ.sr 2 <| OJ.go 2 [(2, .int .i64 x7), (15, .int .i64 x7)] <| OJ.nil <| SJ.r1 (.int .i64 x7) rfl rfl
    · exact SJ.skip <| SJ.inBlock <| SJ.rg 2 <| OJ.go 2 [(8, .int .i64 (IntKind.wrap .i64 (s1 + 1))), (16, .int .i64 (IntKind.wrap .i64 (s1 + 1)))] <| OJ.nil <| SJ.at_ [3, 6, 7, 8] rfl
  · exact SJ.exit (id := 0) (by rfl) <| SJ.sr 2 <| OJ.go 2 [(2, .int .i64 0), (17, .int .i64 0)] <| OJ.nil <| SJ.r1 (.int .i64 0) rfl rfl
noncomputable def cmp_Or_int (a0 : Sl) : M Int :=
  loopM (fun s_ : Int => cmp_Or_int.L1 a0 s_) 0
theorem cmp_Or_int_ok (a0 : Sl) : Ref Tryd.prog 60 [Sl.v a0] (cmp_Or_int a0) cmp_Or_int.out := by
  refine Ref.of (cd := cmp_Or_int.B) Tryd.func60 ?_
  show SJ cmp_Or_int.cx [.code cmp_Or_int.B] [(0, Sl.v a0)] [] (cmp_Or_int a0) cmp_Or_int.F0
  unfold cmp_Or_int
  exact SJ.sr 1 <| OJ.go 1 [(2, .int .i64 0)] <| OJ.nil <| SJ.sr 1 <| OJ.go 1 [(3, .int .i64 0)] <| OJ.nil <| SJ.seq <| SJ.sr 3 <| OJ.go 3 [(8, .int .i64 0), (7, .int .i64 (a0.len : Int)), (6, Sl.v a0)] <| OJ.nil <| SJ.block (id := 0) <| SJ.loop (fun s_ : Int => [(3, .int .i64 0), (6, Sl.v a0), (7, .int .i64 (a0.len : Int)), (8, .int .i64 s_)]) (fun s_ : Int => []) [3, 6, 7, 8] rfl (fun _ _ => rfl) (fun s_ => cmp_Or_int.L1_ok a0 s_)

/-! ### weir/route.order: function 45 -/
noncomputable def route_order.B : Code := (Tryd.f45.body).getD .skip
noncomputable def route_order.cx : Fx := ⟨Tryd.prog, 45, Tryd.f45, none⟩
noncomputable def route_order.out (r_ : Int) : Value := .int .i64 r_
noncomputable def route_order.F0 (r_ : Int) : Reach := .ret (route_order.out r_)
noncomputable def route_order (a0 : api_Route) (a1 : api_Route) : M Int :=
  newv 32 c_api_Route a0 >>= fun b1 =>
  newv 32 c_api_Route a1 >>= fun b2 =>
  draw >>= fun _ =>
  ld (cI .i64) (pt b1 0) >>= fun x3 =>
  ld (cI .i64) (pt b2 0) >>= fun x4 =>
  ld (cI .i64) (Addr.add (pt b1 0) 17) >>= fun x5 =>
  ld (cI .i64) (Addr.add (pt b2 0) 17) >>= fun x6 =>
  cmp_Compare_int x3 x4 >>= fun r7 =>
  same (cI .i64) (Addr.add (pt b2 0) 17) x6 >>= fun _ =>
  same (cI .i64) (Addr.add (pt b1 0) 17) x5 >>= fun _ =>
  cut 1 ⟨some (Addr.add (pt b1 0) 1), 16, 16⟩ none none none >>= fun r8 =>
  cut 1 ⟨some (Addr.add (pt b2 0) 1), 16, 16⟩ none none none >>= fun r9 =>
  slices_Compare_byte_byte r8 r9 >>= fun r10 =>
  same (cI .i64) (Addr.add (pt b2 0) 17) x6 >>= fun _ =>
  same (cI .i64) (Addr.add (pt b1 0) 17) x5 >>= fun _ =>
  cmp_Compare_int x5 x6 >>= fun r11 =>
  newv 3 ((cI .i64).arr 3) (⟨[r7, r10, r11], rfl⟩ : Vec Int 3) >>= fun b12 =>
  cmp_Or_int (⟨some (pt b12 0), 3, 3⟩ : Sl) >>= fun r13 =>
  pure r13
theorem route_order_ok (a0 : api_Route) (a1 : api_Route) : Ref Tryd.prog 45 [c_api_Route.val a0, c_api_Route.val a1] (route_order a0 a1) route_order.out := by
  refine Ref.of (cd := route_order.B) Tryd.func45 ?_
  show SJ route_order.cx [.code route_order.B] [(0, c_api_Route.val a0), (1, c_api_Route.val a1)] [] (route_order a0 a1) route_order.F0
  unfold route_order
  refine SJ.sr 3 <| OJ.newOf (d := 2) (op := (.box 32 (.tmp 0))) (cd := c_api_Route) (u := a0) (owed := []) (box_run (by kernel_rfl)) (fun b1 => ?_)
  refine OW.nil <| OJ.newOf (d := 3) (op := (.box 32 (.tmp 1))) (cd := c_api_Route) (u := a1) (owed := []) (box_run (by kernel_rfl)) (fun b2 => ?_)
  refine OW.nil <| OJ.go 1 [(4, .int .i64 0)] <| OJ.nil <| SJ.seq <| SJ.draw (id := 1) (kd := [0, 0, 0, 1, 0, 0, 0, 1, 2, 0, 0, 0, 0, 0, 0, 0, 0, 2, 0, 0, 1, 0, 0, 1, 2, 2, 2, 0]) (bef := [0, 1, 3, 7, 0, 16, 48, 112, 255, 0, 512, 1536, 3584, 0, 8192, 24576, 57344, 131071, 0, 262144, 786432, 0, 2097152, 6291456, 16777215, 33554431, 67108863, 134217727]) (ord := [0, 1, 2, 3, 4, 5, 6, 7, 18, 19, 20, 21, 22, 23, 8, 9, 10, 11, 12, 13, 14, 15, 16, 17, 24, 25, 26, 27]) mixed ?_
  refine OJ.go 3 [(7, .pointer (some (pt b1 0))), (6, .pointer (some (pt b1 0))), (5, .pointer (some (pt b1 0)))] <| OJ.ld (d := 8) (y := .tmp 7) (pend2 := fun x3 => [⟨3, 3, (pt b1 0), (cI .i64).val x3⟩]) Ty3 (fun _ => rfl) (fun x3 => ?_)
  refine OJ.go 3 [(11, .pointer (some (pt b2 0))), (10, .pointer (some (pt b2 0))), (9, .pointer (some (pt b2 0)))] <| OJ.ld (d := 12) (y := .tmp 11) (pend2 := fun x4 => [⟨7, 3, (pt b2 0), (cI .i64).val x4⟩, ⟨3, 3, (pt b1 0), (cI .i64).val x3⟩]) Ty3 (fun _ => rfl) (fun x4 => ?_)
  refine OJ.go 2 [(24, .pointer (some (Addr.add (pt b1 0) 17))), (23, .pointer (some (pt b1 0)))] <| OJ.ld (d := 25) (y := .tmp 24) (pend2 := fun x5 => [⟨20, 3, (Addr.add (pt b1 0) 17), (cI .i64).val x5⟩, ⟨7, 3, (pt b2 0), (cI .i64).val x4⟩, ⟨3, 3, (pt b1 0), (cI .i64).val x3⟩]) Ty3 (fun _ => rfl) (fun x5 => ?_)
  refine OJ.go 2 [(27, .pointer (some (Addr.add (pt b2 0) 17))), (26, .pointer (some (pt b2 0)))] <| OJ.ld (d := 28) (y := .tmp 27) (pend2 := fun x6 => [⟨23, 3, (Addr.add (pt b2 0) 17), (cI .i64).val x6⟩, ⟨20, 3, (Addr.add (pt b1 0) 17), (cI .i64).val x5⟩, ⟨7, 3, (pt b2 0), (cI .i64).val x4⟩, ⟨3, 3, (pt b1 0), (cI .i64).val x3⟩]) Ty3 (fun _ => rfl) (fun x6 => ?_)
  refine OJ.call (d := 13) (g := 61) (ats := #[3, 3]) (args := [.tmp 8, .tmp 12]) (owed := [⟨23, 3, (Addr.add (pt b2 0) 17), (cI .i64).val x6⟩, ⟨20, 3, (Addr.add (pt b1 0) 17), (cI .i64).val x5⟩]) F61 (cmp_Compare_int_ok x3 x4) (fun r7 => ?_)
  refine OW.same Ty3 ?_
  refine OW.same Ty3 ?_
  refine OW.nil <| OJ.go 3 [(16, .pointer (some (Addr.add (pt b1 0) 1))), (15, .pointer (some (pt b1 0))), (14, .pointer (some (pt b1 0)))] <| OJ.cutA (d := 17) (t := 26) (E := 5) (y := .tmp 16) (lo := none) (hi := none) (mx := none) (lo' := none) (hi' := none) (mx' := none) (fun h => by cases h) (fun r8 => ?_)
  refine OJ.go 3 [(20, .pointer (some (Addr.add (pt b2 0) 1))), (19, .pointer (some (pt b2 0))), (18, .pointer (some (pt b2 0)))] <| OJ.cutA (d := 21) (t := 26) (E := 5) (y := .tmp 20) (lo := none) (hi := none) (mx := none) (lo' := none) (hi' := none) (mx' := none) (fun h => by cases h) (fun r9 => ?_)
  refine OJ.call (d := 22) (g := 62) (ats := #[114, 114]) (args := [.tmp 17, .tmp 21]) (owed := [⟨23, 3, (Addr.add (pt b2 0) 17), (cI .i64).val x6⟩, ⟨20, 3, (Addr.add (pt b1 0) 17), (cI .i64).val x5⟩]) F62 (slices_Compare_byte_byte_ok r8 r9) (fun r10 => ?_)
  refine OW.same Ty3 ?_
  refine OW.same Ty3 ?_
  refine OW.nil <| OJ.call (d := 29) (g := 61) (ats := #[3, 3]) (args := [.tmp 25, .tmp 28]) (owed := []) F61 (cmp_Compare_int_ok x5 x6) (fun r11 => ?_)
  refine OW.nil <| OJ.rowNew (d := 30) (t := 73) (parts := [(0, .tmp 13), (1, .tmp 22), (2, .tmp 29)]) (ps := [(0, (cI .i64).val r7), (1, (cI .i64).val r10), (2, (cI .i64).val r11)]) (cd := (cI .i64)) (owed := []) Ty3 (Filled.cons (cd := (cI .i64)) (q := r7) (o := 0) rfl (Upd.arr (i := 0) (by decide) (by decide)) (Filled.cons (cd := (cI .i64)) (q := r10) (o := 1) rfl (Upd.arr (i := 1) (by decide) (by decide)) (Filled.cons (cd := (cI .i64)) (q := r11) (o := 2) rfl (Upd.arr (i := 2) (by decide) (by decide)) Filled.nil))) (fun b12 => ?_)
  refine OW.nil <| OJ.call (d := 31) (g := 60) (ats := #[73]) (args := [.tmp 30]) (owed := []) F60 (cmp_Or_int_ok (⟨some (pt b12 0), 3, 3⟩ : Sl)) (fun r13 => ?_)
  exact OW.nil <| OJ.go 1 [(4, .int .i64 r13)] <| OJ.nil <| SJ.r1 (.int .i64 r13) rfl rfl

/-! ### (*weir/route.Table).All$1: function 42 -/
noncomputable def route_Table_All_1.B : Code := (Tryd.f42.body).getD .skip
noncomputable def route_Table_All_1.cx : Fx := ⟨Tryd.prog, 42, Tryd.f42, none⟩
noncomputable def route_Table_All_1.out (r_ : Unit) : Value := .tuple #[]
noncomputable def route_Table_All_1.F0 (r_ : Unit) : Reach := .ret (route_Table_All_1.out r_)
noncomputable def route_Table_All_1.F1 (a0v : Any) (r7 : Sl) : (LS Int Unit) → Reach := loopF [.inLoop (c1 (c1 (c2 route_Table_All_1.B))), .inBlock 0] (fun s_ : Int => [(0, a0v.v), (10, Sl.v r7), (11, .int .i64 (r7.len : Int)), (12, .int .i64 s_)]) (fun s_ : Int => []) route_Table_All_1.F0
noncomputable def route_Table_All_1.L1 (a0 : api_Route → M Bool) (r7 : Sl) (s8 : Int) : M (LS Int Unit) :=
  if s8 < (r7.len : Int) then
    idx r7.a r7.len s8 36 >>= fun p9 =>
    ld c_api_Route p9 >>= fun x10 =>
    slot 32 >>= fun b11 =>
    a0 x10 >>= fun r12 =>
    if ¬ (r12 = true) then
      pure (LS.done ())
    else
      pure (LS.next (IntKind.wrap .i64 (s8 + 1)))
  else
    pure (LS.done ())
theorem route_Table_All_1.L1_ok (a0v : Any) (a0 : api_Route → M Bool) (h_a0 : ∀ (x0_ : api_Route), RefV Tryd.prog a0v.v [c_api_Route.val x0_] (a0 x0_) (fun r_ : Bool => .bool r_)) (r7 : Sl) (s8 : Int) :
    SJ route_Table_All_1.cx [.code (c1 (c1 (c2 route_Table_All_1.B))), .inLoop (c1 (c1 (c2 route_Table_All_1.B))), .inBlock 0] [(0, a0v.v), (10, Sl.v r7), (11, .int .i64 (r7.len : Int)), (12, .int .i64 s8)] [] (route_Table_All_1.L1 a0 r7 s8) (route_Table_All_1.F1 a0v r7) := by
  unfold route_Table_All_1.L1
  refine SJ.sr 1 <| OJ.go 1 [(13, .bool (decide (s8 < (r7.len : Int))))] <| OJ.nil <| SJ.seq <| SJ.cond (t := (.tmp 13)) (b := decide (s8 < (r7.len : Int))) decide_eq_true_iff (fun hc14 => ?_) (fun hc14 => ?_)
  · refine SJ.skip <| SJ.seq <| SJ.block (id := 1) <| SJ.sr 4 <| OJ.idxS (d := 14) (T := 39) (y := .tmp 10) (j := .tmp 12) (E := 32) (cap := r7.cap) (k := .i64) (fun p9 => ?_)
    refine OJ.ld (d := 15) (y := .tmp 14) (pend2 := fun x10 => []) Ty32 (fun _ => rfl) (fun x10 => ?_)
    refine OJ.slotOf (d := 4) (op := (.alloc 32)) (cd := c_api_Route) (u := z_api_Route) (owed := []) (alloc_run Ty32) (fun b11 => ?_)
    refine OW.nil <| OJ.kst (y := .tmp 4) (z := .tmp 15) (cd := c_api_Route) (u := x10) (j := 0) (b := b11) (o := 0) (c_api_Route.enc x10) (owed := []) Ty32 rfl (Upd.whole ((Cod.len _ _).trans (Cod.len _ _).symm)) rfl ?_
    refine OW.nil <| OJ.nil <| SJ.sr 4 <| OJ.go 1 [(16, a0v.v)] <| OJ.kld (d := 17) (y := .tmp 4) (cd := c_api_Route) (j := 0) (b := b11) (o := 0) x10 (pend2 := []) Ty32 rfl (At.whole _) rfl ?_
    refine OJ.callV1 (d := 18) (ats := #[32]) (args := [.tmp 17]) (fo := .tmp 16) (vals := [c_api_Route.val x10]) (owed := []) (h_a0 x10) (fun r12 => ?_)
    refine OW.nil <| OJ.go 1 [(19, .bool (!r12))] <| OJ.nil <| SJ.cond (t := (.tmp 19)) (b := (!r12)) (bnot_iff Iff.rfl) (fun hc13 => ?_) (fun hc13 => ?_)
    · exact SJ.ret rfl (Res.run (ys := []) .nil rfl)
    · refine SJ.skip <| SJ.inBlock <| SJ.rg 2 <| OJ.go 2 [(12, .int .i64 (IntKind.wrap .i64 (s8 + 1))), (20, .int .i64 (IntKind.wrap .i64 (s8 + 1)))] <| OJ.nil <| SJ.forget (List.Sublist.cons _ List.Sublist.slnil) ?_
      exact SJ.at_ [0, 10, 11, 12] rfl
  · exact SJ.exit (id := 0) (by rfl) <| SJ.end_ rfl (Res.run (ys := []) .nil rfl)
noncomputable def route_Table_All_1 (a0 : api_Route → M Bool) (a1 : Addr) : M Unit :=
  ld cP a1 >>= fun x1 =>
  nilck x1 >>= fun p2 =>
  ld cM p2 >>= fun x3 =>
  maps_Values_map_api_Prefix_api_Route_api_Prefix_api_Route x3 >>= fun r4 =>
  slices_SortedFunc_api_Route r4 (fun (q5 : api_Route) (q6 : api_Route) => route_order q5 q6) >>= fun r7 =>
  loopM (fun s_ : Int => route_Table_All_1.L1 a0 r7 s_) 0
theorem route_Table_All_1_ok (a0v : Any) (a0 : api_Route → M Bool) (h_a0 : ∀ (x0_ : api_Route), RefV Tryd.prog a0v.v [c_api_Route.val x0_] (a0 x0_) (fun r_ : Bool => .bool r_)) (a1 : Addr) : Ref Tryd.prog 42 [a0v.v, .pointer (some a1)] (route_Table_All_1 a0 a1) route_Table_All_1.out := by
  refine Ref.of (cd := route_Table_All_1.B) Tryd.func42 ?_
  show SJ route_Table_All_1.cx [.code route_Table_All_1.B] [(0, a0v.v), (1, .pointer (some a1))] [] (route_Table_All_1 a0 a1) route_Table_All_1.F0
  unfold route_Table_All_1
  refine SJ.sr 8 <| OJ.ld (d := 5) (y := .tmp 1) (pend2 := fun x1 => []) Ty22 (fun _ => rfl) (fun x1 => ?_)
  refine OJ.nilck (d := 6) (y := .tmp 5) (fun p2 => ?_)
  refine OJ.go 1 [(7, .pointer (some p2))] <| OJ.ld (d := 8) (y := .tmp 7) (pend2 := fun x3 => []) Ty79 (fun _ => rfl) (fun x3 => ?_)
  refine OJ.call (d := 9) (g := 44) (ats := #[79]) (args := [.tmp 8]) (owed := []) F44 (maps_Values_map_api_Prefix_api_Route_api_Prefix_api_Route_ok x3) (fun r4 => ?_)
  refine OW.nil <| OJ.call (d := 10) (g := 43) (ats := #[62, 97]) (args := [.tmp 9, .func 45]) (owed := []) F43 (slices_SortedFunc_api_Route_ok r4 ⟨.func (.func 45) #[] #[], rfl⟩ (fun (q5 : api_Route) (q6 : api_Route) => route_order q5 q6) (fun q5 q6 => RefV.of (first := []) (cap := []) F45 (route_order_ok q5 q6))) (fun r7 => ?_)
  exact OW.nil <| OJ.go 2 [(12, .int .i64 0), (11, .int .i64 (r7.len : Int))] <| OJ.nil <| SJ.block (id := 0) <| SJ.loop (fun s_ : Int => [(0, a0v.v), (10, Sl.v r7), (11, .int .i64 (r7.len : Int)), (12, .int .i64 s_)]) (fun s_ : Int => []) [0, 10, 11, 12] rfl (fun _ _ => rfl) (fun s_ => route_Table_All_1.L1_ok a0v a0 h_a0 r7 s_)

/-! ### (*weir/route.Table).All: function 24 -/
noncomputable def route_Table_All.B : Code := (Tryd.f24.body).getD .skip
noncomputable def route_Table_All.cx : Fx := ⟨Tryd.prog, 24, Tryd.f24, none⟩
noncomputable def route_Table_All.out (r_ : Any) : Value := r_.v
noncomputable def route_Table_All.F0 (r_ : Any) : Reach := .ret (route_Table_All.out r_)
noncomputable def route_Table_All (a0 : (Option Addr)) : M Any :=
  newv 22 cP a0 >>= fun b1 =>
  pure ⟨.func (.func 42) #[] #[.pointer (some (pt b1 0))], rfl⟩
theorem route_Table_All_ok (a0 : (Option Addr)) : Ref Tryd.prog 24 [.pointer a0] (route_Table_All a0) route_Table_All.out := by
  refine Ref.of (cd := route_Table_All.B) Tryd.func24 ?_
  show SJ route_Table_All.cx [.code route_Table_All.B] [(0, .pointer a0)] [] (route_Table_All a0) route_Table_All.F0
  unfold route_Table_All
  refine SJ.sr 2 <| OJ.newOf (d := 1) (op := (.box 22 (.tmp 0))) (cd := cP) (u := a0) (owed := []) (box_run (by kernel_rfl)) (fun b1 => ?_)
  exact OW.nil <| OJ.go 1 [(2, (⟨.nilFunc, rfl⟩ : Any).v)] <| OJ.nil <| SJ.sr 2 <| OJ.go 2 [(2, .func (.func 42) #[] #[.pointer (some (pt b1 0))]), (3, .func (.func 42) #[] #[.pointer (some (pt b1 0))])] <| OJ.nil <| SJ.r1 (.func (.func 42) #[] #[.pointer (some (pt b1 0))]) rfl rfl

/-! ### (*weir/route.Table).Len: function 12 -/
noncomputable def route_Table_Len.B : Code := (Tryd.f12.body).getD .skip
noncomputable def route_Table_Len.cx : Fx := ⟨Tryd.prog, 12, Tryd.f12, none⟩
noncomputable def route_Table_Len.out (r_ : Int) : Value := .int .i64 r_
noncomputable def route_Table_Len.F0 (r_ : Int) : Reach := .ret (route_Table_Len.out r_)
noncomputable def route_Table_Len (a0 : (Option Addr)) : M Int :=
  nilck a0 >>= fun p1 =>
  ld cM p1 >>= fun x2 =>
  mlen x2 >>= fun r3 =>
  pure r3
theorem route_Table_Len_ok (a0 : (Option Addr)) : Ref Tryd.prog 12 [.pointer a0] (route_Table_Len a0) route_Table_Len.out := by
  refine Ref.of (cd := route_Table_Len.B) Tryd.func12 ?_
  show SJ route_Table_Len.cx [.code route_Table_Len.B] [(0, .pointer a0)] [] (route_Table_Len a0) route_Table_Len.F0
  unfold route_Table_Len
  refine SJ.sr 1 <| OJ.go 1 [(2, .int .i64 0)] <| OJ.nil <| SJ.sr 6 <| OJ.go 1 [(3, .pointer a0)] <| OJ.nilck (d := 4) (y := .tmp 3) (fun p1 => ?_)
  refine OJ.go 1 [(5, .pointer (some p1))] <| OJ.ld (d := 6) (y := .tmp 5) (pend2 := fun x2 => []) Ty79 (fun _ => rfl) (fun x2 => ?_)
  refine OJ.mlen (d := 7) (T := 79) (kT := 30) (vT := 32) (x := .tmp 6) (owed := []) (fun r3 => ?_)
  exact OW.nil <| OJ.go 1 [(2, .int .i64 r3)] <| OJ.nil <| SJ.r1 (.int .i64 r3) rfl rfl

/-! ### weir/weirlaw14.same: function 20 -/
noncomputable def weirlaw14_same.B : Code := (Tryd.f20.body).getD .skip
noncomputable def weirlaw14_same.cx : Fx := ⟨Tryd.prog, 20, Tryd.f20, none⟩
noncomputable def weirlaw14_same.out (r_ : Bool) : Value := .bool r_
noncomputable def weirlaw14_same.F0 (r_ : Bool) : Reach := .ret (weirlaw14_same.out r_)
noncomputable def weirlaw14_same.F1 (a0 : Sl) (a1 : Sl) : (LS Int Bool) → Reach := loopF [.inLoop (c1 (c1 (c2 (c1 (c2 (c2 weirlaw14_same.B)))))), .inBlock 0, .code (c2 (c2 (c2 weirlaw14_same.B)))] (fun s_ : Int => [(0, Sl.v a0), (1, Sl.v a1), (5, .int .i64 s_)]) (fun s_ : Int => []) weirlaw14_same.F0
noncomputable def weirlaw14_same.L1 (a0 : Sl) (a1 : Sl) (s1 : Int) : M (LS Int Bool) :=
  if s1 < (a0.len : Int) then
    draw >>= fun _ =>
    idx a0.a a0.len s1 36 >>= fun p8 =>
    ld c_api_Route p8 >>= fun x9 =>
    idx a1.a a1.len s1 36 >>= fun p10 =>
    ld c_api_Route p10 >>= fun x11 =>
    if ¬ (x9 = x11) then
      pure (LS.done false)
    else
      pure (LS.next (IntKind.wrap .i64 (s1 + 1)))
  else
    pure (LS.done true)
theorem weirlaw14_same.L1_ok (a0 : Sl) (a1 : Sl) (s1 : Int) :
    SJ weirlaw14_same.cx [.code (c1 (c1 (c2 (c1 (c2 (c2 weirlaw14_same.B)))))), .inLoop (c1 (c1 (c2 (c1 (c2 (c2 weirlaw14_same.B)))))), .inBlock 0, .code (c2 (c2 (c2 weirlaw14_same.B)))] [(0, Sl.v a0), (1, Sl.v a1), (5, .int .i64 s1)] [] (weirlaw14_same.L1 a0 a1 s1) (weirlaw14_same.F1 a0 a1) := by
  unfold weirlaw14_same.L1
  refine SJ.seq <| SJ.sr 4 <| OJ.go 4 [(14, .bool (decide (s1 < (a0.len : Int)))), (13, .int .i64 (a0.len : Int)), (12, Sl.v a0), (11, .int .i64 s1)] <| OJ.nil <| SJ.cond (t := (.tmp 14)) (b := decide (s1 < (a0.len : Int))) decide_eq_true_iff (fun hc13 => ?_) (fun hc13 => ?_)
  · refine SJ.skip <| SJ.seq <| SJ.block (id := 1) <| SJ.seq <| SJ.draw (id := 6) (kd := [0, 0, 0, 1, 0, 0, 0, 1, 0]) (bef := [0, 0, 3, 7, 0, 0, 48, 112, 255]) (ord := [0, 1, 2, 3, 4, 5, 6, 7, 8]) mixed ?_
    refine OJ.go 2 [(18, .int .i64 s1), (17, Sl.v a0)] <| OJ.idxS (d := 19) (T := 39) (y := .tmp 17) (j := .tmp 18) (E := 32) (cap := a0.cap) (k := .i64) (fun p8 => ?_)
    refine OJ.ld (d := 20) (y := .tmp 19) (pend2 := fun x9 => [⟨3, 32, p8, c_api_Route.val x9⟩]) Ty32 (fun _ => rfl) (fun x9 => ?_)
    refine OJ.go 2 [(22, .int .i64 s1), (21, Sl.v a1)] <| OJ.idxS (d := 23) (T := 39) (y := .tmp 21) (j := .tmp 22) (E := 32) (cap := a1.cap) (k := .i64) (fun p10 => ?_)
    refine OJ.ld (d := 24) (y := .tmp 23) (pend2 := fun x11 => [⟨7, 32, p10, c_api_Route.val x11⟩, ⟨3, 32, p8, c_api_Route.val x9⟩]) Ty32 (fun _ => rfl) (fun x11 => ?_)
    refine OJ.neq (d := 25) (T := 32) (yT := 32) (y := .tmp 20) (z := .tmp 24) (cd := c_api_Route) (p := x9) (q := x11) rfl Eq32 ?_
    refine OJ.nil <| SJ.cond (t := (.tmp 25)) (b := (!eqv x9 x11)) (bnot_iff eqv_iff) (fun hc12 => ?_) (fun hc12 => ?_)
    · exact SJ.sr 1 <| OJ.go 1 [(4, .bool false)] <| OJ.nil <| SJ.r1 (.bool false) rfl rfl
    · exact SJ.skip <| SJ.inBlock <| SJ.rg 3 <| OJ.go 3 [(5, .int .i64 (IntKind.wrap .i64 (s1 + 1))), (16, .int .i64 (IntKind.wrap .i64 (s1 + 1))), (15, .int .i64 s1)] <| OJ.nil <| SJ.at_ [0, 1, 5] rfl
  · exact SJ.exit (id := 0) (by rfl) <| SJ.sr 1 <| OJ.go 1 [(4, .bool true)] <| OJ.nil <| SJ.r1 (.bool true) rfl rfl
noncomputable def weirlaw14_same (a0 : Sl) (a1 : Sl) : M Bool :=
  if (a0.len : Int) ≠ (a1.len : Int) then
    pure false
  else
    loopM (fun s_ : Int => weirlaw14_same.L1 a0 a1 s_) 0
theorem weirlaw14_same_ok (a0 : Sl) (a1 : Sl) : Ref Tryd.prog 20 [Sl.v a0, Sl.v a1] (weirlaw14_same a0 a1) weirlaw14_same.out := by
  refine Ref.of (cd := weirlaw14_same.B) Tryd.func20 ?_
  show SJ weirlaw14_same.cx [.code weirlaw14_same.B] [(0, Sl.v a0), (1, Sl.v a1)] [] (weirlaw14_same a0 a1) weirlaw14_same.F0
  unfold weirlaw14_same
  refine SJ.sr 1 <| OJ.go 1 [(4, .bool false)] <| OJ.nil <| SJ.seq <| SJ.sr 5 <| OJ.go 5 [(10, .bool ((a0.len : Int) != (a1.len : Int))), (9, .int .i64 (a1.len : Int)), (8, Sl.v a1), (7, .int .i64 (a0.len : Int)), (6, Sl.v a0)] <| OJ.nil <| SJ.cond (t := (.tmp 10)) (b := ((a0.len : Int) != (a1.len : Int))) bne_iff_ne (fun hc14 => ?_) (fun hc14 => ?_)
  · exact SJ.sr 1 <| OJ.go 1 [(4, .bool false)] <| OJ.nil <| SJ.r1 (.bool false) rfl rfl
  · exact SJ.skip <| SJ.seq <| SJ.sr 1 <| OJ.go 1 [(5, .int .i64 0)] <| OJ.nil <| SJ.block (id := 0) <| SJ.loop (fun s_ : Int => [(0, Sl.v a0), (1, Sl.v a1), (5, .int .i64 s_)]) (fun s_ : Int => []) [0, 1, 5] rfl (fun _ _ => rfl) (fun s_ => weirlaw14_same.L1_ok a0 a1 s_)

/-! ### weir/weirlaw14.ranged: function 26 -/
noncomputable def weirlaw14_ranged.B : Code := (Tryd.f26.body).getD .skip
noncomputable def weirlaw14_ranged.cx : Fx := ⟨Tryd.prog, 26, Tryd.f26, none⟩
noncomputable def weirlaw14_ranged.out (r_ : Bool) : Value := .bool r_
noncomputable def weirlaw14_ranged.F0 (r_ : Bool) : Reach := .ret (weirlaw14_ranged.out r_)
noncomputable def weirlaw14_ranged.rx (l_ : Nat) : Fx := ⟨Tryd.prog, 26, Tryd.f26, some l_⟩
noncomputable def weirlaw14_ranged.it (f_ : Any) (y_ : api_Route → M Bool) : M Unit :=
  (caught f_.v).elim fail (fun q_ => if q_.1 = 42 then route_Table_All_1 y_ q_.2 else if q_.1 = 59 then maps_Values_map_api_Prefix_api_Route_api_Prefix_api_Route_1 y_ q_.2 else fail)
theorem weirlaw14_ranged.it_ok (f_ yv_ : Any) (y_ : api_Route → M Bool) (hy_ : ∀ x_, RefV Tryd.prog yv_.v [c_api_Route.val x_] (y_ x_) Value.bool) : RefI Tryd.prog f_.v [yv_.v] (weirlaw14_ranged.it f_ y_) (fun _ => .tuple #[]) := by
  intro v r v' e
  unfold weirlaw14_ranged.it at e
  cases hf_ : caught f_.v with
  | none => rw [hf_] at e; cases e
  | some q_ =>
    obtain ⟨g_, p0⟩ := q_
    rw [hf_] at e
    simp only [Option.elim] at e
    by_cases hg_ : g_ = 42
    · subst hg_
      rw [if_pos rfl] at e
      have h_ := RefI.of (first := []) (vals := [yv_.v]) (cap := [.pointer (some p0)]) F42 (route_Table_All_1_ok yv_ y_ hy_ p0) v r v' e
      rw [caught_eq hf_]
      exact h_
    rw [if_neg hg_] at e
    by_cases hg_ : g_ = 59
    · subst hg_
      rw [if_pos rfl] at e
      have h_ := RefI.of (first := []) (vals := [yv_.v]) (cap := [.pointer (some p0)]) F59 (maps_Values_map_api_Prefix_api_Route_api_Prefix_api_Route_1_ok yv_ y_ hy_ p0) v r v' e
      rw [caught_eq hf_]
      exact h_
    rw [if_neg hg_] at e
    cases e
noncomputable def weirlaw14_ranged.K1 (a2 : Sl) (b1 : Nat) (b3 : Nat) : M Bool :=
  ld (cI .i64) (pt b1 0) >>= fun x13 =>
  (if x13 > 0 then
      ld (cI .i64) (pt b1 0) >>= fun x14 =>
      pure (decide (x14 < (a2.len : Int)))
    else
      pure false) >>= fun y15 =>
  if y15 = true then
    ld (cI .i64) (pt b1 0) >>= fun x18 =>
    cut 36 a2 none (some x18) none >>= fun r19 =>
    ld cL (pt b3 0) >>= fun x20 =>
    weirlaw14_same x20 r19 >>= fun r21 =>
    pure r21
  else
    ld cL (pt b3 0) >>= fun x22 =>
    weirlaw14_same x22 a2 >>= fun r23 =>
    pure r23
theorem weirlaw14_ranged.K1_ok (a2 : Sl) (b1 : Nat) (b3 : Nat) :
    SJ weirlaw14_ranged.cx [.code (c2 (c2 (c2 (c2 weirlaw14_ranged.B))))] [(2, Sl.v a2), (4, .pointer (some (pt b1 0))), (7, .pointer (some (pt b3 0)))] [] (weirlaw14_ranged.K1 a2 b1 b3) weirlaw14_ranged.F0 := by
  unfold weirlaw14_ranged.K1
  refine SJ.seq <| SJ.sr 8 <| OJ.ld (d := 21) (y := .tmp 4) (pend2 := fun x13 => []) Ty3 (fun _ => rfl) (fun x13 => ?_)
  refine OJ.go 2 [(23, .bool (decide (x13 > 0))), (22, .bool (decide (x13 > 0)))] <| OJ.join (b := decide (x13 > 0)) [3, 4, 5, 6, 7] [] [2, 4, 7, 28] (fun y15 => [(2, Sl.v a2), (4, .pointer (some (pt b1 0))), (7, .pointer (some (pt b3 0))), (28, .bool y15)]) [] [] (t := 23) decide_eq_true_iff (fun hp_ => ?_) (fun hp_ => ?_) (fun _ _ _ _ _ _ h_ => h_) (fun y15 => ?_)
  · refine OJ.ld (d := 24) (y := .tmp 4) (pend2 := fun x14 => []) Ty3 (fun _ => rfl) (fun x14 => ?_)
    exact OJ.go 4 [(28, .bool (decide (x14 < (a2.len : Int)))), (27, .bool (decide (x14 < (a2.len : Int)))), (26, .int .i64 (a2.len : Int)), (25, Sl.v a2)] <| OJ.x0
  · exact OJ.go 5 [(28, .bool false), (27, undef), (26, undef), (25, undef), (24, undef)] <| OJ.x0
  · refine OJ.nil <| SJ.cond (t := (.tmp 28)) (b := y15) Iff.rfl (fun hc24 => ?_) (fun hc24 => ?_)
    · refine SJ.rg 4 <| OJ.go 1 [(29, Sl.v a2)] <| OJ.ld (d := 30) (y := .tmp 4) (pend2 := fun x18 => []) Ty3 (fun _ => rfl) (fun x18 => ?_)
      refine OJ.cut (d := 31) (t := 39) (E := 32) (y := .tmp 29) (lo := none) (hi := (some (.tmp 30))) (mx := none) (lo' := none) (hi' := some (.i64, x18)) (mx' := none) (fun h => by cases h) (fun r19 => ?_)
      refine OJ.go 1 [(2, Sl.v r19)] <| OJ.nil <| SJ.sr 4 <| OJ.ld (d := 32) (y := .tmp 7) (pend2 := fun x20 => []) Ty39 (fun _ => rfl) (fun x20 => ?_)
      refine OJ.go 1 [(33, Sl.v r19)] <| OJ.call (d := 34) (g := 20) (ats := #[39, 39]) (args := [.tmp 32, .tmp 33]) (owed := []) F20 (weirlaw14_same_ok x20 r19) (fun r21 => ?_)
      exact OW.nil <| OJ.go 1 [(6, .bool r21)] <| OJ.nil <| SJ.r1 (.bool r21) rfl rfl
    · refine SJ.skip <| SJ.sr 4 <| OJ.ld (d := 32) (y := .tmp 7) (pend2 := fun x22 => []) Ty39 (fun _ => rfl) (fun x22 => ?_)
      refine OJ.go 1 [(33, Sl.v a2)] <| OJ.call (d := 34) (g := 20) (ats := #[39, 39]) (args := [.tmp 32, .tmp 33]) (owed := []) F20 (weirlaw14_same_ok x22 a2) (fun r23 => ?_)
      exact OW.nil <| OJ.go 1 [(6, .bool r23)] <| OJ.nil <| SJ.r1 (.bool r23) rfl rfl
noncomputable def weirlaw14_ranged.R1 (b1 : Nat) (b3 : Nat) (l4 : Nat) (x5 : api_Route) : M (Option Code) :=
  slot 32 >>= fun b25 =>
  begM l4 >>= fun _ =>
  ld cL (pt b3 0) >>= fun x26 =>
  slot 32 >>= fun b27 =>
  appl c_api_Route 32 64 z_api_Route x26 [x5] >>= fun r28 =>
  st cL (pt b3 0) r28 >>= fun _ =>
  ld cL (pt b3 0) >>= fun x29 =>
  ld (cI .i64) (pt b1 0) >>= fun x30 =>
  if (x29.len : Int) = x30 then
    pure (some (Code.exit 0))
  else
    pure none
theorem weirlaw14_ranged.R1_ok (a0 : Any) (a2 : Sl) (b1 : Nat) (b3 : Nat) (l4 : Nat) (rc_ : Loop) (ht_ : Loops.tab l4 = some rc_) (x5 : api_Route) :
    SJ (weirlaw14_ranged.rx l4) [.code ((rfOf (c1 (c2 (c1 (c2 (c2 (c2 weirlaw14_ranged.B))))))).2.2.1), .beginRound, .code ((rfOf (c1 (c2 (c1 (c2 (c2 (c2 weirlaw14_ranged.B))))))).2.2.2)] [(12, c_api_Route.val x5), (2, Sl.v a2), (4, .pointer (some (pt b1 0))), (6, .bool false), (7, .pointer (some (pt b3 0))), (11, a0.v)] [] (weirlaw14_ranged.R1 b1 b3 l4 x5) rdJ := by
  unfold weirlaw14_ranged.R1
  refine SJ.rg 2 <| OJ.slotOf (d := 8) (op := (.alloc 32)) (cd := c_api_Route) (u := z_api_Route) (owed := []) (alloc_run Ty32) (fun b25 => ?_)
  refine OW.nil <| OJ.kst (y := .tmp 8) (z := .tmp 12) (cd := c_api_Route) (u := x5) (j := 0) (b := b25) (o := 0) (c_api_Route.enc x5) (owed := []) Ty32 rfl (Upd.whole ((Cod.len _ _).trans (Cod.len _ _).symm)) rfl ?_
  refine OW.nil <| OJ.nil <| SJ.begin rfl ht_ ?_
  refine SJ.block (id := 1) <| SJ.sr 5 <| OJ.ld (d := 13) (y := .tmp 7) (pend2 := fun x26 => []) Ty39 (fun _ => rfl) (fun x26 => ?_)
  refine OJ.kld (d := 14) (y := .tmp 8) (cd := c_api_Route) (j := 0) (b := b25) (o := 0) x5 (pend2 := []) Ty32 rfl (At.whole _) rfl ?_
  refine OJ.rowSlot (d := 15) (t := 39) (parts := [(0, .tmp 14)]) (ps := [(0, c_api_Route.val x5)]) (cd := c_api_Route) (⟨[x5], rfl⟩ : Vec api_Route 1) (owed := []) Ty32 (Filled.cons (cd := c_api_Route) (q := x5) (o := 0) rfl (Upd.arr (i := 0) (by decide) (by decide)) Filled.nil) (fun b27 => ?_)
  refine OW.nil <| OJ.appl (d := 16) (t := 39) (u := 39) (so := .tmp 13) (xo := .tmp 15) (j := 0) (b := b27) (l := (c_api_Route.arr 1).enc (⟨[x5], rfl⟩ : Vec api_Route 1)) (n := 1) (k := 1) [x5] (owed := []) Ty32 (by rfl) (Cod.arr_enc _ _ _) (by rfl) (fun r28 => ?_)
  refine OW.nil <| OJ.st (y := .tmp 7) (z := .tmp 16) (owed := []) Ty39 ?_
  refine OW.nil <| OJ.nil <| SJ.sr 4 <| OJ.ld (d := 17) (y := .tmp 7) (pend2 := fun x29 => []) Ty39 (fun _ => rfl) (fun x29 => ?_)
  refine OJ.go 1 [(18, .int .i64 (x29.len : Int))] <| OJ.ld (d := 19) (y := .tmp 4) (pend2 := fun x30 => []) Ty3 (fun _ => rfl) (fun x30 => ?_)
  refine OJ.go 1 [(20, .bool ((x29.len : Int) == x30))] <| OJ.nil <| SJ.cond (t := (.tmp 20)) (b := ((x29.len : Int) == x30)) beq_iff_eq (fun hc31 => ?_) (fun hc31 => ?_)
  · exact SJ.exitJ (id := 0) rfl (by rfl)
  · refine SJ.skip <| SJ.inBlock <| SJ.forget (List.Sublist.cons _ (List.Sublist.cons _ List.Sublist.slnil)) ?_
    exact SJ.at_ [] rfl
noncomputable def weirlaw14_ranged (a0 : Any) (a1 : Int) (a2 : Sl) : M Bool :=
  newv 3 (cI .i64) a1 >>= fun b1 =>
  fnil a0.v >>= fun b2 =>
  if b2 = true then
    pure false
  else
    newv 39 cL Sl.nil >>= fun b3 =>
    rangeM (weirlaw14_ranged.it a0) (fun l_ x_ => weirlaw14_ranged.R1 b1 b3 l_ x_) (onJ
      (weirlaw14_ranged.K1 a2 b1 b3)
      (fail)
      [(0, weirlaw14_ranged.K1 a2 b1 b3)])
theorem weirlaw14_ranged_ok (a0 : Any) (a1 : Int) (a2 : Sl) : Ref Tryd.prog 26 [a0.v, .int .i64 a1, Sl.v a2] (weirlaw14_ranged a0 a1 a2) weirlaw14_ranged.out := by
  refine Ref.of (cd := weirlaw14_ranged.B) Tryd.func26 ?_
  show SJ weirlaw14_ranged.cx [.code weirlaw14_ranged.B] [(0, a0.v), (1, .int .i64 a1), (2, Sl.v a2)] [] (weirlaw14_ranged a0 a1 a2) weirlaw14_ranged.F0
  unfold weirlaw14_ranged
  refine SJ.sr 2 <| OJ.newOf (d := 4) (op := (.box 3 (.tmp 1))) (cd := (cI .i64)) (u := a1) (owed := []) (box_run (by kernel_rfl)) (fun b1 => ?_)
  refine OW.nil <| OJ.go 1 [(6, .bool false)] <| OJ.nil <| SJ.seq <| SJ.sr 2 <| OJ.go 1 [(9, a0.v)] <| OJ.fnil (d := 10) (T := 55) (yT := 55) (y := .tmp 9) (z := .const (.nilFunc)) (fv := a0.v) (by kernel_rfl) (fun b2 => ?_)
  refine OJ.nil <| SJ.cond (t := (.tmp 10)) (b := b2) Iff.rfl (fun hc32 => ?_) (fun hc32 => ?_)
  · exact SJ.sr 1 <| OJ.go 1 [(6, .bool false)] <| OJ.nil <| SJ.r1 (.bool false) rfl rfl
  · refine SJ.skip <| SJ.sr 1 <| OJ.newOf (d := 7) (op := (.alloc 39)) (cd := cL) (u := Sl.nil) (owed := []) (alloc_run Ty39) (fun b3 => ?_)
    refine OW.nil <| OJ.nil <| SJ.seq <| SJ.sr 1 <| OJ.go 1 [(11, a0.v)] <| OJ.nil <| SJ.block (id := 0) <| SJ.less [2, 4, 6, 7, 11] (m' := [(2, Sl.v a2), (4, .pointer (some (pt b1 0))), (6, .bool false), (7, .pointer (some (pt b3 0))), (11, a0.v)]) ?_
    refine SJ.rangeF (fo := .tmp 11) (fv := a0.v) (ps := [12]) (fun x_ => [c_api_Route.val x_]) (fun _ => .tuple #[]) (fun L_ yv_ y_ hy_ => @weirlaw14_ranged.it_ok L_ a0 yv_ y_ hy_) (fun L_ l_ rc_ ht_ x_ => @weirlaw14_ranged.R1_ok L_ a0 a2 b1 b3 l_ rc_ ht_ x_) (SJ.onJ ?_ ?_ ?_)
    · refine SJ.inBlock <| SJ.less [2, 4, 7] (m' := [(2, Sl.v a2), (4, .pointer (some (pt b1 0))), (7, .pointer (some (pt b3 0)))]) ?_
      exact weirlaw14_ranged.K1_ok a2 b1 b3
    · exact SJ.fail
    · refine SJ.exits1 ?_
      refine SJ.exit (id := 0) (by rfl) <| SJ.less [2, 4, 7] (m' := [(2, Sl.v a2), (4, .pointer (some (pt b1 0))), (7, .pointer (some (pt b3 0)))]) ?_
      exact weirlaw14_ranged.K1_ok a2 b1 b3

/-! ### weir/weirlaw14.does: function 25 -/
noncomputable def weirlaw14_does.B : Code := (Tryd.f25.body).getD .skip
noncomputable def weirlaw14_does.cx : Fx := ⟨Tryd.prog, 25, Tryd.f25, none⟩
noncomputable def weirlaw14_does.out (r_ : (weirlaw14_Pair × Bool)) : Value := .tuple #[c_weirlaw14_Pair.val r_.1, .bool r_.2]
noncomputable def weirlaw14_does.F0 (r_ : (weirlaw14_Pair × Bool)) : Reach := .ret (weirlaw14_does.out r_)
noncomputable def weirlaw14_does (a0 : weirlaw14_Pair) (a1 : Any) (a2 : weirlaw14_Act) : M (weirlaw14_Pair × Bool) :=
  slot 57 >>= fun b1 =>
  slot 65 >>= fun b2 =>
  slot 57 >>= fun b3 =>
  if a2.Kind = 1 then
    weirlaw14_turned a0 (⟨1, z_weirlaw14_Step.Obj, a2.R, z_weirlaw14_Step.IP, z_weirlaw14_Step.N⟩ : weirlaw14_Step) >>= fun r26 =>
    pure (r26.1, r26.2)
  else
    if a2.Kind = 2 then
      weirlaw14_turned a0 (⟨2, z_weirlaw14_Step.Obj, a2.R, z_weirlaw14_Step.IP, z_weirlaw14_Step.N⟩ : weirlaw14_Step) >>= fun r37 =>
      pure (r37.1, r37.2)
    else
      if a2.Kind = 3 then
        draw >>= fun _ =>
        weirlaw14_ranged a1 0 a0.L >>= fun r42 =>
        pure (a0, r42)
      else
        if a2.Kind = 4 then
          draw >>= fun _ =>
          weirlaw14_ranged a1 (if a2.Stop < 1 then 1 else a2.Stop) a0.L >>= fun r44 =>
          pure (a0, r44)
        else
          pure (a0, true)
theorem weirlaw14_does_ok (a0 : weirlaw14_Pair) (a1 : Any) (a2 : weirlaw14_Act) : Ref Tryd.prog 25 [c_weirlaw14_Pair.val a0, a1.v, c_weirlaw14_Act.val a2] (weirlaw14_does a0 a1 a2) weirlaw14_does.out := by
  refine Ref.of (cd := weirlaw14_does.B) Tryd.func25 ?_
  show SJ weirlaw14_does.cx [.code weirlaw14_does.B] [(0, c_weirlaw14_Pair.val a0), (1, a1.v), (2, c_weirlaw14_Act.val a2)] [] (weirlaw14_does a0 a1 a2) weirlaw14_does.F0
  unfold weirlaw14_does
  refine SJ.sr 4 <| OJ.slotOf (d := 3) (op := (.box 57 (.tmp 0))) (cd := c_weirlaw14_Pair) (u := a0) (owed := []) (box_run (by kernel_rfl)) (fun b1 => ?_)
  refine OW.nil <| OJ.slotOf (d := 5) (op := (.box 65 (.tmp 2))) (cd := c_weirlaw14_Act) (u := a2) (owed := []) (box_run (by kernel_rfl)) (fun b2 => ?_)
  refine OW.nil <| OJ.slotOf (d := 6) (op := (.alloc 57)) (cd := c_weirlaw14_Pair) (u := z_weirlaw14_Pair) (owed := []) (alloc_run Ty57) (fun b3 => ?_)
  refine OW.nil <| OJ.go 1 [(7, .bool false)] <| OJ.nil <| SJ.seq <| SJ.sr 2 <| OJ.go 1 [(8, .pointer (some (pt b2 1)))] <| OJ.kld (d := 9) (y := .tmp 8) (cd := (cI .i64)) (j := 1) (b := b2) (o := 1) a2.Kind (pend2 := []) Ty3 rfl (At_weirlaw14_Act_Kind a2) rfl ?_
  refine OJ.nil <| SJ.block (id := 0) <| SJ.sr 2 <| OJ.go 2 [(10, .bool (a2.Kind == 1)), (11, .bool (a2.Kind == 1))] <| OJ.nil <| SJ.cond (t := (.tmp 10)) (b := (a2.Kind == 1)) beq_iff_eq (fun hc48 => ?_) (fun hc48 => ?_)
  · refine SJ.sr 9 <| OJ.kld (d := 12) (y := .tmp 3) (cd := c_weirlaw14_Pair) (j := 2) (b := b1) (o := 0) a0 (pend2 := []) Ty57 rfl (At.whole _) rfl ?_
    refine OJ.go 1 [(13, .pointer (some (pt b2 2)))] <| OJ.kld (d := 14) (y := .tmp 13) (cd := c_api_Route) (j := 1) (b := b2) (o := 2) a2.R (pend2 := []) Ty32 rfl (At_weirlaw14_Act_R a2) rfl ?_
    refine OJ.build (d := 15) (T := 61) (parts := [(0, .const (.int .i64 1)), (2, .tmp 14)]) (ps := [(0, (cI .i64).val 1), (2, c_api_Route.val a2.R)]) (cd := c_weirlaw14_Step) (z0 := z_weirlaw14_Step) (⟨1, z_weirlaw14_Step.Obj, a2.R, z_weirlaw14_Step.IP, z_weirlaw14_Step.N⟩ : weirlaw14_Step) Ty61 rfl (Filled.cons (cd := (cI .i64)) (q := 1) (o := 0) (by kernel_rfl) (Up_weirlaw14_Step_Kind z_weirlaw14_Step 1) (Filled.cons (cd := c_api_Route) (q := a2.R) (o := 2) (by kernel_rfl) (Up_weirlaw14_Step_R (⟨1, z_weirlaw14_Step.Obj, z_weirlaw14_Step.R, z_weirlaw14_Step.IP, z_weirlaw14_Step.N⟩ : weirlaw14_Step) a2.R) Filled.nil)) ?_
    refine OJ.call (d := 16) (g := 23) (ats := #[57, 61]) (args := [.tmp 12, .tmp 15]) (owed := []) F23 (weirlaw14_turned_ok a0 (⟨1, z_weirlaw14_Step.Obj, a2.R, z_weirlaw14_Step.IP, z_weirlaw14_Step.N⟩ : weirlaw14_Step)) (fun r26 => ?_)
    refine OW.nil <| OJ.go 2 [(18, .bool r26.2), (17, c_weirlaw14_Pair.val r26.1)] <| OJ.kst (y := .tmp 6) (z := .tmp 17) (cd := c_weirlaw14_Pair) (u := r26.1) (j := 0) (b := b3) (o := 0) (c_weirlaw14_Pair.enc r26.1) (owed := []) Ty57 rfl (Upd.whole ((Cod.len _ _).trans (Cod.len _ _).symm)) rfl ?_
    exact OW.nil <| OJ.go 1 [(7, .bool r26.2)] <| OJ.nil <| SJ.ret rfl (Res.run (ys := [c_weirlaw14_Pair.val r26.1, .bool r26.2]) (.cell (j := 0) (b := b3) (cd := c_weirlaw14_Pair) (q := r26.1) (by kernel_rfl) rfl Ty57 (At.whole _) (.tmp (by kernel_rfl) .nil)) rfl)
  · refine SJ.sr 2 <| OJ.go 2 [(19, .bool (a2.Kind == 2)), (20, .bool (a2.Kind == 2))] <| OJ.nil <| SJ.cond (t := (.tmp 19)) (b := (a2.Kind == 2)) beq_iff_eq (fun hc47 => ?_) (fun hc47 => ?_)
    · refine SJ.sr 9 <| OJ.kld (d := 21) (y := .tmp 3) (cd := c_weirlaw14_Pair) (j := 2) (b := b1) (o := 0) a0 (pend2 := []) Ty57 rfl (At.whole _) rfl ?_
      refine OJ.go 1 [(22, .pointer (some (pt b2 2)))] <| OJ.kld (d := 23) (y := .tmp 22) (cd := c_api_Route) (j := 1) (b := b2) (o := 2) a2.R (pend2 := []) Ty32 rfl (At_weirlaw14_Act_R a2) rfl ?_
      refine OJ.build (d := 24) (T := 61) (parts := [(0, .const (.int .i64 2)), (2, .tmp 23)]) (ps := [(0, (cI .i64).val 2), (2, c_api_Route.val a2.R)]) (cd := c_weirlaw14_Step) (z0 := z_weirlaw14_Step) (⟨2, z_weirlaw14_Step.Obj, a2.R, z_weirlaw14_Step.IP, z_weirlaw14_Step.N⟩ : weirlaw14_Step) Ty61 rfl (Filled.cons (cd := (cI .i64)) (q := 2) (o := 0) (by kernel_rfl) (Up_weirlaw14_Step_Kind z_weirlaw14_Step 2) (Filled.cons (cd := c_api_Route) (q := a2.R) (o := 2) (by kernel_rfl) (Up_weirlaw14_Step_R (⟨2, z_weirlaw14_Step.Obj, z_weirlaw14_Step.R, z_weirlaw14_Step.IP, z_weirlaw14_Step.N⟩ : weirlaw14_Step) a2.R) Filled.nil)) ?_
      refine OJ.call (d := 25) (g := 23) (ats := #[57, 61]) (args := [.tmp 21, .tmp 24]) (owed := []) F23 (weirlaw14_turned_ok a0 (⟨2, z_weirlaw14_Step.Obj, a2.R, z_weirlaw14_Step.IP, z_weirlaw14_Step.N⟩ : weirlaw14_Step)) (fun r37 => ?_)
      refine OW.nil <| OJ.go 2 [(27, .bool r37.2), (26, c_weirlaw14_Pair.val r37.1)] <| OJ.kst (y := .tmp 6) (z := .tmp 26) (cd := c_weirlaw14_Pair) (u := r37.1) (j := 0) (b := b3) (o := 0) (c_weirlaw14_Pair.enc r37.1) (owed := []) Ty57 rfl (Upd.whole ((Cod.len _ _).trans (Cod.len _ _).symm)) rfl ?_
      exact OW.nil <| OJ.go 1 [(7, .bool r37.2)] <| OJ.nil <| SJ.ret rfl (Res.run (ys := [c_weirlaw14_Pair.val r37.1, .bool r37.2]) (.cell (j := 0) (b := b3) (cd := c_weirlaw14_Pair) (q := r37.1) (by kernel_rfl) rfl Ty57 (At.whole _) (.tmp (by kernel_rfl) .nil)) rfl)
    · refine SJ.sr 2 <| OJ.go 2 [(28, .bool (a2.Kind == 3)), (29, .bool (a2.Kind == 3))] <| OJ.nil <| SJ.cond (t := (.tmp 28)) (b := (a2.Kind == 3)) beq_iff_eq (fun hc46 => ?_) (fun hc46 => ?_)
      · refine SJ.seq <| SJ.draw (id := 7) (kd := [1, 0, 0, 1, 2, 2, 0]) (bef := [0, 0, 0, 4, 14, 31, 63]) (ord := [0, 1, 2, 3, 4, 5, 6]) mixed ?_
        refine OJ.kld (d := 30) (y := .tmp 3) (cd := c_weirlaw14_Pair) (j := 2) (b := b1) (o := 0) a0 (pend2 := [⟨0, 57, (pt b1 0), c_weirlaw14_Pair.val a0⟩]) Ty57 rfl (At.whole _) rfl ?_
        refine OJ.go 2 [(32, .pointer (some (pt b1 1))), (31, a1.v)] <| OJ.kld (d := 33) (y := .tmp 32) (cd := cL) (j := 2) (b := b1) (o := 1) a0.L (pend2 := [⟨3, 39, (pt b1 1), cL.val a0.L⟩, ⟨0, 57, (pt b1 0), c_weirlaw14_Pair.val a0⟩]) Ty39 rfl (At_weirlaw14_Pair_L a0) rfl ?_
        refine OJ.call (d := 34) (g := 26) (ats := #[55, 3, 39]) (args := [.tmp 31, .const (.int .i64 0), .tmp 33]) (owed := [⟨0, 57, (pt b1 0), c_weirlaw14_Pair.val a0⟩]) F26 (weirlaw14_ranged_ok a1 0 a0.L) (fun r42 => ?_)
        refine OW.known (j := 2) (q := a0) Ty57 rfl (At.whole _) ?_
        refine OW.nil <| OJ.kst (y := .tmp 6) (z := .tmp 30) (cd := c_weirlaw14_Pair) (u := a0) (j := 0) (b := b3) (o := 0) (c_weirlaw14_Pair.enc a0) (owed := []) Ty57 rfl (Upd.whole ((Cod.len _ _).trans (Cod.len _ _).symm)) rfl ?_
        exact OW.nil <| OJ.go 1 [(7, .bool r42)] <| OJ.nil <| SJ.ret rfl (Res.run (ys := [c_weirlaw14_Pair.val a0, .bool r42]) (.cell (j := 0) (b := b3) (cd := c_weirlaw14_Pair) (q := a0) (by kernel_rfl) rfl Ty57 (At.whole _) (.tmp (by kernel_rfl) .nil)) rfl)
      · refine SJ.sr 2 <| OJ.go 2 [(35, .bool (a2.Kind == 4)), (36, .bool (a2.Kind == 4))] <| OJ.nil <| SJ.cond (t := (.tmp 35)) (b := (a2.Kind == 4)) beq_iff_eq (fun hc45 => ?_) (fun hc45 => ?_)
        · refine SJ.seq <| SJ.draw (id := 9) (kd := [1, 0, 0, 1, 0, 0, 1, 2, 2, 0]) (bef := [0, 0, 0, 4, 12, 0, 32, 126, 255, 511]) (ord := [0, 1, 2, 3, 4, 5, 6, 7, 8, 9]) mixed ?_
          refine OJ.kld (d := 37) (y := .tmp 3) (cd := c_weirlaw14_Pair) (j := 2) (b := b1) (o := 0) a0 (pend2 := [⟨0, 57, (pt b1 0), c_weirlaw14_Pair.val a0⟩]) Ty57 rfl (At.whole _) rfl ?_
          refine OJ.go 2 [(39, .pointer (some (pt b2 38))), (38, a1.v)] <| OJ.kld (d := 40) (y := .tmp 39) (cd := (cI .i64)) (j := 1) (b := b2) (o := 38) a2.Stop (pend2 := [⟨3, 3, (pt b2 38), (cI .i64).val a2.Stop⟩, ⟨0, 57, (pt b1 0), c_weirlaw14_Pair.val a0⟩]) Ty3 rfl (At_weirlaw14_Act_Stop a2) rfl ?_
          refine OJ.max (d := 41) (t := 3) (u := 3) (so := .tmp 40) (xo := .const (.int .i64 1)) (k := .i64) (p := a2.Stop) (q := 1) ?_
          refine OJ.go 1 [(42, .pointer (some (pt b1 1)))] <| OJ.kld (d := 43) (y := .tmp 42) (cd := cL) (j := 2) (b := b1) (o := 1) a0.L (pend2 := [⟨6, 39, (pt b1 1), cL.val a0.L⟩, ⟨3, 3, (pt b2 38), (cI .i64).val a2.Stop⟩, ⟨0, 57, (pt b1 0), c_weirlaw14_Pair.val a0⟩]) Ty39 rfl (At_weirlaw14_Pair_L a0) rfl ?_
          refine OJ.call (d := 44) (g := 26) (ats := #[55, 3, 39]) (args := [.tmp 38, .tmp 41, .tmp 43]) (owed := [⟨0, 57, (pt b1 0), c_weirlaw14_Pair.val a0⟩]) F26 (weirlaw14_ranged_ok a1 (if a2.Stop < 1 then 1 else a2.Stop) a0.L) (fun r44 => ?_)
          refine OW.known (j := 2) (q := a0) Ty57 rfl (At.whole _) ?_
          refine OW.nil <| OJ.kst (y := .tmp 6) (z := .tmp 37) (cd := c_weirlaw14_Pair) (u := a0) (j := 0) (b := b3) (o := 0) (c_weirlaw14_Pair.enc a0) (owed := []) Ty57 rfl (Upd.whole ((Cod.len _ _).trans (Cod.len _ _).symm)) rfl ?_
          exact OW.nil <| OJ.go 1 [(7, .bool r44)] <| OJ.nil <| SJ.ret rfl (Res.run (ys := [c_weirlaw14_Pair.val a0, .bool r44]) (.cell (j := 0) (b := b3) (cd := c_weirlaw14_Pair) (q := a0) (by kernel_rfl) rfl Ty57 (At.whole _) (.tmp (by kernel_rfl) .nil)) rfl)
        · refine SJ.skip <| SJ.inBlock <| SJ.sr 3 <| OJ.kld (d := 45) (y := .tmp 3) (cd := c_weirlaw14_Pair) (j := 2) (b := b1) (o := 0) a0 (pend2 := []) Ty57 rfl (At.whole _) rfl ?_
          refine OJ.kst (y := .tmp 6) (z := .tmp 45) (cd := c_weirlaw14_Pair) (u := a0) (j := 0) (b := b3) (o := 0) (c_weirlaw14_Pair.enc a0) (owed := []) Ty57 rfl (Upd.whole ((Cod.len _ _).trans (Cod.len _ _).symm)) rfl ?_
          exact OW.nil <| OJ.go 1 [(7, .bool true)] <| OJ.nil <| SJ.ret rfl (Res.run (ys := [c_weirlaw14_Pair.val a0, .bool true]) (.cell (j := 0) (b := b3) (cd := c_weirlaw14_Pair) (q := a0) (by kernel_rfl) rfl Ty57 (At.whole _) (.tmp (by kernel_rfl) .nil)) rfl)

/-! ### weir/weirlaw14.RouteWithin: function 6 -/
noncomputable def weirlaw14_RouteWithin.B : Code := (Tryd.f6.body).getD .skip
noncomputable def weirlaw14_RouteWithin.cx : Fx := ⟨Tryd.prog, 6, Tryd.f6, none⟩
noncomputable def weirlaw14_RouteWithin.out (r_ : Bool) : Value := .bool r_
noncomputable def weirlaw14_RouteWithin.F0 (r_ : Bool) : Reach := .ret (weirlaw14_RouteWithin.out r_)
noncomputable def weirlaw14_RouteWithin.rx (l_ : Nat) : Fx := ⟨Tryd.prog, 6, Tryd.f6, some l_⟩
noncomputable def weirlaw14_RouteWithin.it (f_ : Any) (y_ : api_Route → M Bool) : M Unit :=
  (caught f_.v).elim fail (fun q_ => if q_.1 = 42 then route_Table_All_1 y_ q_.2 else if q_.1 = 59 then maps_Values_map_api_Prefix_api_Route_api_Prefix_api_Route_1 y_ q_.2 else fail)
theorem weirlaw14_RouteWithin.it_ok (f_ yv_ : Any) (y_ : api_Route → M Bool) (hy_ : ∀ x_, RefV Tryd.prog yv_.v [c_api_Route.val x_] (y_ x_) Value.bool) : RefI Tryd.prog f_.v [yv_.v] (weirlaw14_RouteWithin.it f_ y_) (fun _ => .tuple #[]) := by
  intro v r v' e
  unfold weirlaw14_RouteWithin.it at e
  cases hf_ : caught f_.v with
  | none => rw [hf_] at e; cases e
  | some q_ =>
    obtain ⟨g_, p0⟩ := q_
    rw [hf_] at e
    simp only [Option.elim] at e
    by_cases hg_ : g_ = 42
    · subst hg_
      rw [if_pos rfl] at e
      have h_ := RefI.of (first := []) (vals := [yv_.v]) (cap := [.pointer (some p0)]) F42 (route_Table_All_1_ok yv_ y_ hy_ p0) v r v' e
      rw [caught_eq hf_]
      exact h_
    rw [if_neg hg_] at e
    by_cases hg_ : g_ = 59
    · subst hg_
      rw [if_pos rfl] at e
      have h_ := RefI.of (first := []) (vals := [yv_.v]) (cap := [.pointer (some p0)]) F59 (maps_Values_map_api_Prefix_api_Route_api_Prefix_api_Route_1_ok yv_ y_ hy_ p0) v r v' e
      rw [caught_eq hf_]
      exact h_
    rw [if_neg hg_] at e
    cases e
noncomputable def weirlaw14_RouteWithin.F1 (b1 : Nat) (b2 : Nat) (b3 : Nat) (r4 : (Option Addr)) (b9 : Nat) (b10 : Nat) (b12 : Nat) : (LS Int Bool) → Reach := loopF [.inLoop (c1 (c1 (c2 (c1 (c2 (c2 (c2 (c2 (c2 (c2 (c2 weirlaw14_RouteWithin.B))))))))))), .inBlock 2, .code (c2 (c2 (c2 (c2 (c2 (c2 (c2 (c2 weirlaw14_RouteWithin.B))))))))] (fun s_ : Int => [(4, .pointer (some (pt b1 0))), (5, .pointer (some (pt b2 0))), (6, .pointer (some (pt b3 0))), (7, .pointer r4), (8, .pointer (some (pt b9 0))), (9, .pointer (some (pt b10 0))), (10, .pointer (some (pt b12 0))), (12, .int .i64 s_)]) (fun s_ : Int => []) weirlaw14_RouteWithin.F0
noncomputable def weirlaw14_RouteWithin.K1 (b3 : Nat) (r4 : (Option Addr)) (b9 : Nat) (s31 : Int) (b122 : Nat) (b123 : Nat) (b124 : Nat) : M (LS Int Bool) :=
  draw >>= fun _ =>
  ld cB (pt b124 0) >>= fun x191 =>
  (if ¬ (x191 = true) then
      ld (cI .i64) (pt b123 0) >>= fun x192 =>
      ld cL (pt b122 0) >>= fun x193 =>
      pure (x192 != (x193.len : Int))
    else
      pure false) >>= fun y194 =>
  (if y194 = true then
      pure true
    else
      ld cL (Addr.add (pt b9 0) 1) >>= fun x195 =>
      route_Table_Len r4 >>= fun r196 =>
      same cL (Addr.add (pt b9 0) 1) x195 >>= fun _ =>
      pure (r196 != (x195.len : Int))) >>= fun y197 =>
  (if y197 = true then
      pure true
    else
      ld cL (Addr.add (pt b9 0) 1) >>= fun x198 =>
      route_Table_All r4 >>= fun r199 =>
      same cL (Addr.add (pt b9 0) 1) x198 >>= fun _ =>
      weirlaw14_ranged r199 0 x198 >>= fun r200 =>
      pure (!r200)) >>= fun y201 =>
  if y201 = true then
    st cB (pt b3 0) false >>= fun _ =>
    ld cB (pt b3 0) >>= fun q203 =>
    pure (LS.done q203)
  else
    pure (LS.next (IntKind.wrap .i64 (s31 + 1)))
theorem weirlaw14_RouteWithin.K1_ok (b1 : Nat) (b2 : Nat) (b3 : Nat) (r4 : (Option Addr)) (b9 : Nat) (b10 : Nat) (b12 : Nat) (s31 : Int) (b122 : Nat) (b123 : Nat) (b124 : Nat) :
    SJ weirlaw14_RouteWithin.cx [.code (c2 (c2 (c2 (c2 (c1 (c1 (c2 (c1 (c1 (c2 (c1 (c2 (c2 (c2 (c2 (c2 (c2 (c2 weirlaw14_RouteWithin.B)))))))))))))))))), .inBlock 3, .code (c2 (c2 (c1 (c1 (c2 (c1 (c2 (c2 (c2 (c2 (c2 (c2 (c2 weirlaw14_RouteWithin.B))))))))))))), .inLoop (c1 (c1 (c2 (c1 (c2 (c2 (c2 (c2 (c2 (c2 (c2 weirlaw14_RouteWithin.B))))))))))), .inBlock 2, .code (c2 (c2 (c2 (c2 (c2 (c2 (c2 (c2 weirlaw14_RouteWithin.B))))))))] [(4, .pointer (some (pt b1 0))), (5, .pointer (some (pt b2 0))), (6, .pointer (some (pt b3 0))), (7, .pointer r4), (8, .pointer (some (pt b9 0))), (9, .pointer (some (pt b10 0))), (10, .pointer (some (pt b12 0))), (12, .int .i64 s31), (13, .pointer (some (pt b122 0))), (14, .pointer (some (pt b123 0))), (15, .pointer (some (pt b124 0)))] [] (weirlaw14_RouteWithin.K1 b3 r4 b9 s31 b122 b123 b124) (weirlaw14_RouteWithin.F1 b1 b2 b3 r4 b9 b10 b12) := by
  unfold weirlaw14_RouteWithin.K1
  refine SJ.seq <| SJ.draw (id := 32) (kd := [1, 0, 0, 1, 1, 0, 0, 0, 0, 0, 2, 0, 1, 0, 0, 0, 0, 0, 2, 0, 1, 2, 0, 0]) (bef := [0, 1, 3, 7, 7, 23, 63, 127, 255, 511, 1023, 511, 2559, 6655, 16383, 32767, 65535, 131071, 262143, 131071, 655359, 2097151, 4194303, 8388607]) (ord := [0, 1, 2, 3, 4, 5, 6, 7, 8, 9, 11, 12, 10, 13, 14, 15, 16, 17, 19, 20, 18, 21, 22, 23]) mixed ?_
  refine OJ.ld (d := 123) (y := .tmp 15) (pend2 := fun x191 => [⟨0, 4, (pt b124 0), cB.val x191⟩]) Ty4 (fun _ => rfl) (fun x191 => ?_)
  refine OJ.go 2 [(125, .bool (!x191)), (124, .bool (!x191))] <| OJ.join (b := (!x191)) [3, 4, 5, 6, 7] [8, 9, 11, 12, 10, 13, 14, 15, 16, 17, 19, 20, 18, 21, 22, 23] [4, 5, 6, 7, 8, 9, 10, 12, 130] (fun y194 => [(4, .pointer (some (pt b1 0))), (5, .pointer (some (pt b2 0))), (6, .pointer (some (pt b3 0))), (7, .pointer r4), (8, .pointer (some (pt b9 0))), (9, .pointer (some (pt b10 0))), (10, .pointer (some (pt b12 0))), (12, .int .i64 s31), (130, .bool y194)]) [⟨0, 4, (pt b124 0), cB.val x191⟩] [3, 4] (t := 125) (bnot_iff Iff.rfl) (fun hp_ => ?_) (fun hp_ => ?_) (fun _ _ _ _ _ _ h_ => h_) (fun y194 => ?_)
  · refine OJ.ld (d := 126) (y := .tmp 14) (pend2 := fun x192 => [⟨3, 3, (pt b123 0), (cI .i64).val x192⟩, ⟨0, 4, (pt b124 0), cB.val x191⟩]) Ty3 (fun _ => rfl) (fun x192 => ?_)
    refine OJ.ld (d := 127) (y := .tmp 13) (pend2 := fun x193 => [⟨4, 39, (pt b122 0), cL.val x193⟩, ⟨3, 3, (pt b123 0), (cI .i64).val x192⟩, ⟨0, 4, (pt b124 0), cB.val x191⟩]) Ty39 (fun _ => rfl) (fun x193 => ?_)
    exact OJ.go 3 [(130, .bool (x192 != (x193.len : Int))), (129, .bool (x192 != (x193.len : Int))), (128, .int .i64 (x193.len : Int))] <| OJ.nil ⟨(Cov.mem (Cov.drop (List.mem_of_getElem? (i := 1) rfl) (Cov.drop (List.mem_of_getElem? (i := 0) rfl) (Cov.keep (List.mem_of_getElem? (i := 0) rfl) Cov.nil)))), rfl, _, rfl, by kernel_rfl⟩
  · exact OJ.go 5 [(130, .bool false), (129, undef), (128, undef), (127, undef), (126, undef)] <| OJ.nil ⟨(Cov.mem (Cov.keep (List.mem_of_getElem? (i := 0) rfl) Cov.nil)), rfl, _, rfl, by kernel_rfl⟩
  · refine OJ.go 1 [(131, .bool y194)] <| OJ.join (b := y194) [9, 11, 12, 10, 13, 14, 15] [16, 17, 19, 20, 18, 21, 22, 23] [4, 5, 6, 7, 8, 9, 10, 12, 138] (fun y197 => [(4, .pointer (some (pt b1 0))), (5, .pointer (some (pt b2 0))), (6, .pointer (some (pt b3 0))), (7, .pointer r4), (8, .pointer (some (pt b9 0))), (9, .pointer (some (pt b10 0))), (10, .pointer (some (pt b12 0))), (12, .int .i64 s31), (138, .bool y197)]) [⟨0, 4, (pt b124 0), cB.val x191⟩] [12] (t := 131) Iff.rfl (fun hp_ => ?_) (fun hp_ => ?_) (fun _ _ _ _ _ _ h_ => h_) (fun y197 => ?_)
    · exact OJ.go 7 [(138, .bool true), (137, undef), (136, undef), (133, undef), (135, undef), (134, undef), (132, undef)] <| OJ.nil ⟨(Cov.mem (Cov.keep (List.mem_of_getElem? (i := 0) rfl) Cov.nil)), rfl, _, rfl, by kernel_rfl⟩
    · refine OJ.go 2 [(134, .pointer (some (Addr.add (pt b9 0) 1))), (132, .pointer r4)] <| OJ.ld (d := 135) (y := .tmp 134) (pend2 := fun x195 => [⟨12, 39, (Addr.add (pt b9 0) 1), cL.val x195⟩, ⟨0, 4, (pt b124 0), cB.val x191⟩]) Ty39 (fun _ => rfl) (fun x195 => ?_)
      refine OJ.call (d := 133) (g := 12) (ats := #[22]) (args := [.tmp 132]) (owed := [⟨12, 39, (Addr.add (pt b9 0) 1), cL.val x195⟩]) F12 (route_Table_Len_ok r4) (fun r196 => ?_)
      refine OW.same Ty39 ?_
      exact OW.nil <| OJ.go 3 [(138, .bool (r196 != (x195.len : Int))), (137, .bool (r196 != (x195.len : Int))), (136, .int .i64 (x195.len : Int))] <| OJ.nil ⟨(Cov.mem (Cov.drop (List.mem_of_getElem? (i := 0) rfl) (Cov.keep (List.mem_of_getElem? (i := 0) rfl) Cov.nil))), rfl, _, rfl, by kernel_rfl⟩
    · refine OJ.go 1 [(139, .bool y197)] <| OJ.join (b := y197) [17, 19, 20, 18, 21, 22, 23] [] [4, 5, 6, 7, 8, 9, 10, 12, 146] (fun y201 => [(4, .pointer (some (pt b1 0))), (5, .pointer (some (pt b2 0))), (6, .pointer (some (pt b3 0))), (7, .pointer r4), (8, .pointer (some (pt b9 0))), (9, .pointer (some (pt b10 0))), (10, .pointer (some (pt b12 0))), (12, .int .i64 s31), (146, .bool y201)]) [⟨0, 4, (pt b124 0), cB.val x191⟩] [20] (t := 139) Iff.rfl (fun hp_ => ?_) (fun hp_ => ?_) (fun _ _ _ _ _ _ h_ => h_) (fun y201 => ?_)
      · exact OJ.go 7 [(146, .bool true), (145, undef), (144, undef), (141, undef), (143, undef), (142, undef), (140, undef)] <| OJ.nil ⟨(Cov.mem (Cov.keep (List.mem_of_getElem? (i := 0) rfl) Cov.nil)), rfl, _, rfl, by kernel_rfl⟩
      · refine OJ.go 2 [(142, .pointer (some (Addr.add (pt b9 0) 1))), (140, .pointer r4)] <| OJ.ld (d := 143) (y := .tmp 142) (pend2 := fun x198 => [⟨20, 39, (Addr.add (pt b9 0) 1), cL.val x198⟩, ⟨0, 4, (pt b124 0), cB.val x191⟩]) Ty39 (fun _ => rfl) (fun x198 => ?_)
        refine OJ.call (d := 141) (g := 24) (ats := #[22]) (args := [.tmp 140]) (owed := [⟨20, 39, (Addr.add (pt b9 0) 1), cL.val x198⟩]) F24 (route_Table_All_ok r4) (fun r199 => ?_)
        refine OW.same Ty39 ?_
        refine OW.nil <| OJ.call (d := 144) (g := 26) (ats := #[55, 3, 39]) (args := [.tmp 141, .const (.int .i64 0), .tmp 143]) (owed := []) F26 (weirlaw14_ranged_ok r199 0 x198) (fun r200 => ?_)
        exact OW.nil <| OJ.go 2 [(146, .bool (!r200)), (145, .bool (!r200))] <| OJ.nil ⟨(Cov.mem (Cov.drop (List.mem_of_getElem? (i := 0) rfl) (Cov.keep (List.mem_of_getElem? (i := 0) rfl) Cov.nil))), rfl, _, rfl, by kernel_rfl⟩
      · refine OJ.nil <| SJ.cond (t := (.tmp 146)) (b := y201) Iff.rfl (fun hc204 => ?_) (fun hc204 => ?_)
        · refine SJ.sr 1 <| OJ.st (y := .tmp 6) (z := .const (.bool false)) (owed := []) Ty4 ?_
          exact OW.nil <| OJ.nil <| SJ.retM (rs := [.cell 6 4]) (SR.ld (cd := cB) (ad := (pt b3 0)) Ty4 (fun q203 => (SR.nil rfl)))
        · exact SJ.skip <| SJ.inBlock <| SJ.rg 3 <| OJ.go 3 [(12, .int .i64 (IntKind.wrap .i64 (s31 + 1))), (71, .int .i64 (IntKind.wrap .i64 (s31 + 1))), (70, .int .i64 s31)] <| OJ.nil <| SJ.at_ [4, 5, 6, 7, 8, 9, 10, 12] rfl
noncomputable def weirlaw14_RouteWithin.K2 (b2 : Nat) (b123 : Nat) (b124 : Nat) : M (Option Code) :=
  ld (cI .i64) (pt b123 0) >>= fun x238 =>
  st (cI .i64) (pt b123 0) (IntKind.wrap .i64 (x238 + 1)) >>= fun _ =>
  ld (cI .i64) (pt b123 0) >>= fun x239 =>
  ld (cI .i64) (pt b2 0) >>= fun x240 =>
  if x239 = x240 then
    st cB (pt b124 0) true >>= fun _ =>
    pure (some (Code.exit 4))
  else
    pure none
theorem weirlaw14_RouteWithin.K2_ok (b2 : Nat) (b3 : Nat) (b123 : Nat) (b124 : Nat) (l126 : Nat) :
    SJ (weirlaw14_RouteWithin.rx l126) [.code (c2 (c2 (c1 ((rfOf (c1 (c2 (c1 (c2 (c2 (c2 (c1 (c1 (c2 (c1 (c1 (c2 (c1 (c2 (c2 (c2 (c2 (c2 (c2 (c2 weirlaw14_RouteWithin.B))))))))))))))))))))).2.2.2)))), .inBlock 5] [(5, .pointer (some (pt b2 0))), (6, .pointer (some (pt b3 0))), (14, .pointer (some (pt b123 0))), (15, .pointer (some (pt b124 0)))] [] (weirlaw14_RouteWithin.K2 b2 b123 b124) rdJ := by
  unfold weirlaw14_RouteWithin.K2
  refine SJ.sr 3 <| OJ.ld (d := 118) (y := .tmp 14) (pend2 := fun x238 => []) Ty3 (fun _ => rfl) (fun x238 => ?_)
  refine OJ.go 1 [(119, .int .i64 (IntKind.wrap .i64 (x238 + 1)))] <| OJ.st (y := .tmp 14) (z := .tmp 119) (owed := []) Ty3 ?_
  refine OW.nil <| OJ.nil <| SJ.sr 3 <| OJ.ld (d := 120) (y := .tmp 14) (pend2 := fun x239 => []) Ty3 (fun _ => rfl) (fun x239 => ?_)
  refine OJ.ld (d := 121) (y := .tmp 5) (pend2 := fun x240 => []) Ty3 (fun _ => rfl) (fun x240 => ?_)
  refine OJ.go 1 [(122, .bool (x239 == x240))] <| OJ.nil <| SJ.cond (t := (.tmp 122)) (b := (x239 == x240)) beq_iff_eq (fun hc241 => ?_) (fun hc241 => ?_)
  · refine SJ.sr 1 <| OJ.st (y := .tmp 15) (z := .const (.bool true)) (owed := []) Ty4 ?_
    exact OW.nil <| OJ.nil <| SJ.exitJ (id := 4) rfl (by rfl)
  · exact SJ.skip <| SJ.inBlock <| SJ.at_ [] rfl
noncomputable def weirlaw14_RouteWithin.F2 (b1 : Nat) (b2 : Nat) (b3 : Nat) (b9 : Nat) (b10 : Nat) (b12 : Nat) (b123 : Nat) (b124 : Nat) : (LS Int (Option Code)) → Reach := loopF [.inLoop (c1 (c1 (c2 (c1 (c2 (c1 ((rfOf (c1 (c2 (c1 (c2 (c2 (c2 (c1 (c1 (c2 (c1 (c1 (c2 (c1 (c2 (c2 (c2 (c2 (c2 (c2 (c2 weirlaw14_RouteWithin.B))))))))))))))))))))).2.2.2))))))), .inBlock 6, .code (c2 (c2 (c1 ((rfOf (c1 (c2 (c1 (c2 (c2 (c2 (c1 (c1 (c2 (c1 (c1 (c2 (c1 (c2 (c2 (c2 (c2 (c2 (c2 (c2 weirlaw14_RouteWithin.B))))))))))))))))))))).2.2.2)))), .inBlock 5] (fun s_ : Int => [(4, .pointer (some (pt b1 0))), (5, .pointer (some (pt b2 0))), (6, .pointer (some (pt b3 0))), (8, .pointer (some (pt b9 0))), (9, .pointer (some (pt b10 0))), (10, .pointer (some (pt b12 0))), (14, .pointer (some (pt b123 0))), (15, .pointer (some (pt b124 0))), (17, .int .i64 s_)]) (fun s_ : Int => []) rdJ
noncomputable def weirlaw14_RouteWithin.L2 (b1 : Nat) (b2 : Nat) (b3 : Nat) (b9 : Nat) (b10 : Nat) (b12 : Nat) (b123 : Nat) (b124 : Nat) (s213 : Int) : M (LS Int (Option Code)) :=
  ld cL (pt b1 0) >>= fun x242 =>
  (if s213 < (x242.len : Int) then
      pure (decide (s213 < 40))
    else
      pure false) >>= fun y243 =>
  if y243 = true then
    draw >>= fun _ =>
    ld cL (pt b1 0) >>= fun x244 =>
    idx x244.a x244.len s213 39 >>= fun p245 =>
    ld (cI .i64) p245 >>= fun x246 =>
    ld (cI .i64) (pt b123 0) >>= fun x247 =>
    if x246 = x247 then
      draw >>= fun _ =>
      ld c_weirlaw14_Pair (pt b9 0) >>= fun x256 =>
      ld cV (pt b12 0) >>= fun x257 =>
      ld cL (pt b1 0) >>= fun x258 =>
      idx x258.a x258.len s213 39 >>= fun p259 =>
      ld c_weirlaw14_Act p259 >>= fun x260 =>
      weirlaw14_does x256 x257 x260 >>= fun r261 =>
      st c_weirlaw14_Pair (pt b9 0) r261.1 >>= fun _ =>
      st cB (pt b10 0) r261.2 >>= fun _ =>
      ld cB (pt b10 0) >>= fun x262 =>
      if ¬ (x262 = true) then
        st cB (pt b3 0) false >>= fun _ =>
        pure (LS.done (some Code.ret))
      else
        pure (LS.next (IntKind.wrap .i64 (s213 + 1)))
    else
      pure (LS.next (IntKind.wrap .i64 (s213 + 1)))
  else
    (weirlaw14_RouteWithin.K2 b2 b123 b124) >>= fun b => pure (LS.done b)
theorem weirlaw14_RouteWithin.L2_ok (b1 : Nat) (b2 : Nat) (b3 : Nat) (b9 : Nat) (b10 : Nat) (b12 : Nat) (b123 : Nat) (b124 : Nat) (l126 : Nat) (s213 : Int) :
    SJ (weirlaw14_RouteWithin.rx l126) [.code (c1 (c1 (c2 (c1 (c2 (c1 ((rfOf (c1 (c2 (c1 (c2 (c2 (c2 (c1 (c1 (c2 (c1 (c1 (c2 (c1 (c2 (c2 (c2 (c2 (c2 (c2 (c2 weirlaw14_RouteWithin.B))))))))))))))))))))).2.2.2))))))), .inLoop (c1 (c1 (c2 (c1 (c2 (c1 ((rfOf (c1 (c2 (c1 (c2 (c2 (c2 (c1 (c1 (c2 (c1 (c1 (c2 (c1 (c2 (c2 (c2 (c2 (c2 (c2 (c2 weirlaw14_RouteWithin.B))))))))))))))))))))).2.2.2))))))), .inBlock 6, .code (c2 (c2 (c1 ((rfOf (c1 (c2 (c1 (c2 (c2 (c2 (c1 (c1 (c2 (c1 (c1 (c2 (c1 (c2 (c2 (c2 (c2 (c2 (c2 (c2 weirlaw14_RouteWithin.B))))))))))))))))))))).2.2.2)))), .inBlock 5] [(4, .pointer (some (pt b1 0))), (5, .pointer (some (pt b2 0))), (6, .pointer (some (pt b3 0))), (8, .pointer (some (pt b9 0))), (9, .pointer (some (pt b10 0))), (10, .pointer (some (pt b12 0))), (14, .pointer (some (pt b123 0))), (15, .pointer (some (pt b124 0))), (17, .int .i64 s213)] [] (weirlaw14_RouteWithin.L2 b1 b2 b3 b9 b10 b12 b123 b124 s213) (weirlaw14_RouteWithin.F2 b1 b2 b3 b9 b10 b12 b123 b124) := by
  unfold weirlaw14_RouteWithin.L2
  refine SJ.seq <| SJ.sr 8 <| OJ.go 1 [(89, .int .i64 s213)] <| OJ.ld (d := 90) (y := .tmp 4) (pend2 := fun x242 => []) Ty54 (fun _ => rfl) (fun x242 => ?_)
  refine OJ.go 3 [(93, .bool (decide (s213 < (x242.len : Int)))), (92, .bool (decide (s213 < (x242.len : Int)))), (91, .int .i64 (x242.len : Int))] <| OJ.join (b := decide (s213 < (x242.len : Int))) [5, 6, 7] [] [4, 5, 6, 8, 9, 10, 14, 15, 17, 96] (fun y243 => [(4, .pointer (some (pt b1 0))), (5, .pointer (some (pt b2 0))), (6, .pointer (some (pt b3 0))), (8, .pointer (some (pt b9 0))), (9, .pointer (some (pt b10 0))), (10, .pointer (some (pt b12 0))), (14, .pointer (some (pt b123 0))), (15, .pointer (some (pt b124 0))), (17, .int .i64 s213), (96, .bool y243)]) [] [] (t := 93) decide_eq_true_iff (fun hp_ => ?_) (fun hp_ => ?_) (fun _ _ _ _ _ _ h_ => h_) (fun y243 => ?_)
  · exact OJ.go 3 [(96, .bool (decide (s213 < 40))), (95, .bool (decide (s213 < 40))), (94, .int .i64 s213)] <| OJ.x0
  · exact OJ.go 3 [(96, .bool false), (95, undef), (94, undef)] <| OJ.x0
  · refine OJ.nil <| SJ.cond (t := (.tmp 96)) (b := y243) Iff.rfl (fun hc265 => ?_) (fun hc265 => ?_)
    · refine SJ.skip <| SJ.seq <| SJ.block (id := 7) <| SJ.seq <| SJ.draw (id := 25) (kd := [1, 0, 0, 0, 1, 1, 0]) (bef := [0, 0, 3, 7, 15, 0, 63]) (ord := [0, 1, 2, 3, 4, 5, 6]) mixed ?_
      refine OJ.ld (d := 99) (y := .tmp 4) (pend2 := fun x244 => [⟨0, 54, (pt b1 0), cL.val x244⟩]) Ty54 (fun _ => rfl) (fun x244 => ?_)
      refine OJ.go 1 [(100, .int .i64 s213)] <| OJ.idxS (d := 101) (T := 54) (y := .tmp 99) (j := .tmp 100) (E := 65) (cap := x244.cap) (k := .i64) (fun p245 => ?_)
      refine OJ.go 1 [(102, .pointer (some p245))] <| OJ.ld (d := 103) (y := .tmp 102) (pend2 := fun x246 => [⟨4, 3, p245, (cI .i64).val x246⟩, ⟨0, 54, (pt b1 0), cL.val x244⟩]) Ty3 (fun _ => rfl) (fun x246 => ?_)
      refine OJ.ld (d := 104) (y := .tmp 14) (pend2 := fun x247 => [⟨5, 3, (pt b123 0), (cI .i64).val x247⟩, ⟨4, 3, p245, (cI .i64).val x246⟩, ⟨0, 54, (pt b1 0), cL.val x244⟩]) Ty3 (fun _ => rfl) (fun x247 => ?_)
      refine OJ.go 1 [(105, .bool (x246 == x247))] <| OJ.nil <| SJ.cond (t := (.tmp 105)) (b := (x246 == x247)) beq_iff_eq (fun hc264 => ?_) (fun hc264 => ?_)
      · refine SJ.seq <| SJ.draw (id := 26) (kd := [1, 1, 1, 0, 0, 1, 2, 0, 0, 0, 2, 2]) (bef := [0, 0, 0, 0, 12, 28, 63, 127, 255, 255, 511, 2047]) (ord := [0, 1, 2, 3, 4, 5, 6, 7, 8, 9, 10, 11]) mixed ?_
        refine OJ.ld (d := 107) (y := .tmp 8) (pend2 := fun x256 => [⟨0, 57, (pt b9 0), c_weirlaw14_Pair.val x256⟩]) Ty57 (fun _ => rfl) (fun x256 => ?_)
        refine OJ.ld (d := 108) (y := .tmp 10) (pend2 := fun x257 => [⟨1, 62, (pt b12 0), cV.val x257⟩, ⟨0, 57, (pt b9 0), c_weirlaw14_Pair.val x256⟩]) Ty62 (fun _ => rfl) (fun x257 => ?_)
        refine OJ.ld (d := 109) (y := .tmp 4) (pend2 := fun x258 => [⟨2, 54, (pt b1 0), cL.val x258⟩, ⟨1, 62, (pt b12 0), cV.val x257⟩, ⟨0, 57, (pt b9 0), c_weirlaw14_Pair.val x256⟩]) Ty54 (fun _ => rfl) (fun x258 => ?_)
        refine OJ.go 1 [(110, .int .i64 s213)] <| OJ.idxS (d := 111) (T := 54) (y := .tmp 109) (j := .tmp 110) (E := 65) (cap := x258.cap) (k := .i64) (fun p259 => ?_)
        refine OJ.ld (d := 112) (y := .tmp 111) (pend2 := fun x260 => [⟨5, 65, p259, c_weirlaw14_Act.val x260⟩, ⟨2, 54, (pt b1 0), cL.val x258⟩, ⟨1, 62, (pt b12 0), cV.val x257⟩, ⟨0, 57, (pt b9 0), c_weirlaw14_Pair.val x256⟩]) Ty65 (fun _ => rfl) (fun x260 => ?_)
        refine OJ.call (d := 113) (g := 25) (ats := #[57, 55, 65]) (args := [.tmp 107, .tmp 108, .tmp 112]) (owed := []) F25 (weirlaw14_does_ok x256 x257 x260) (fun r261 => ?_)
        refine OW.nil <| OJ.go 3 [(115, .bool r261.2), (114, c_weirlaw14_Pair.val r261.1), (106, .tuple #[c_weirlaw14_Pair.val r261.1, .bool r261.2])] <| OJ.st (y := .tmp 8) (z := .tmp 114) (owed := []) Ty57 ?_
        refine OW.nil <| OJ.st (y := .tmp 9) (z := .tmp 115) (owed := []) Ty4 ?_
        refine OW.nil <| OJ.nil <| SJ.sr 2 <| OJ.ld (d := 116) (y := .tmp 9) (pend2 := fun x262 => []) Ty4 (fun _ => rfl) (fun x262 => ?_)
        refine OJ.go 1 [(117, .bool (!x262))] <| OJ.nil <| SJ.cond (t := (.tmp 117)) (b := (!x262)) (bnot_iff Iff.rfl) (fun hc263 => ?_) (fun hc263 => ?_)
        · refine SJ.sr 1 <| OJ.st (y := .tmp 6) (z := .const (.bool false)) (owed := []) Ty4 ?_
          exact OW.nil <| OJ.nil <| SJ.retJ rfl
        · exact SJ.skip <| SJ.inBlock <| SJ.rg 3 <| OJ.go 3 [(17, .int .i64 (IntKind.wrap .i64 (s213 + 1))), (98, .int .i64 (IntKind.wrap .i64 (s213 + 1))), (97, .int .i64 s213)] <| OJ.nil <| SJ.at_ [4, 5, 6, 8, 9, 10, 14, 15, 17] rfl
      · exact SJ.skip <| SJ.inBlock <| SJ.rg 3 <| OJ.go 3 [(17, .int .i64 (IntKind.wrap .i64 (s213 + 1))), (98, .int .i64 (IntKind.wrap .i64 (s213 + 1))), (97, .int .i64 s213)] <| OJ.nil <| SJ.at_ [4, 5, 6, 8, 9, 10, 14, 15, 17] rfl
    · refine SJ.exit (id := 6) (by rfl) <| SJ.less [5, 6, 14, 15] (m' := [(5, .pointer (some (pt b2 0))), (6, .pointer (some (pt b3 0))), (14, .pointer (some (pt b123 0))), (15, .pointer (some (pt b124 0)))]) ?_
      refine SJ.done ?_
      exact weirlaw14_RouteWithin.K2_ok b2 b3 b123 b124 l126
noncomputable def weirlaw14_RouteWithin.R1 (b1 : Nat) (b2 : Nat) (b3 : Nat) (b9 : Nat) (b10 : Nat) (b12 : Nat) (b122 : Nat) (b123 : Nat) (b124 : Nat) (l126 : Nat) (x127 : api_Route) : M (Option Code) :=
  slot 32 >>= fun b205 =>
  begM l126 >>= fun _ =>
  draw >>= fun _ =>
  ld (cI .i64) (pt b123 0) >>= fun x206 =>
  ld cL (pt b122 0) >>= fun x207 =>
  (if x206 ≥ (x207.len : Int) then
      pure true
    else
      ld cL (pt b122 0) >>= fun x208 =>
      ld (cI .i64) (pt b123 0) >>= fun x209 =>
      idx x208.a x208.len x209 36 >>= fun p210 =>
      ld c_api_Route p210 >>= fun x211 =>
      pure (!eqv x127 x211)) >>= fun y212 =>
  if y212 = true then
    st cB (pt b3 0) false >>= fun _ =>
    pure (some Code.ret)
  else
    loopM (fun s_ : Int => weirlaw14_RouteWithin.L2 b1 b2 b3 b9 b10 b12 b123 b124 s_) 0
theorem weirlaw14_RouteWithin.R1_ok (b1 : Nat) (b2 : Nat) (b3 : Nat) (r4 : (Option Addr)) (b9 : Nat) (b10 : Nat) (b12 : Nat) (s31 : Int) (b122 : Nat) (b123 : Nat) (b124 : Nat) (x125 : Any) (l126 : Nat) (rc_ : Loop) (ht_ : Loops.tab l126 = some rc_) (x127 : api_Route) :
    SJ (weirlaw14_RouteWithin.rx l126) [.code ((rfOf (c1 (c2 (c1 (c2 (c2 (c2 (c1 (c1 (c2 (c1 (c1 (c2 (c1 (c2 (c2 (c2 (c2 (c2 (c2 (c2 weirlaw14_RouteWithin.B))))))))))))))))))))).2.2.1), .beginRound, .code ((rfOf (c1 (c2 (c1 (c2 (c2 (c2 (c1 (c1 (c2 (c1 (c1 (c2 (c1 (c2 (c2 (c2 (c2 (c2 (c2 (c2 weirlaw14_RouteWithin.B))))))))))))))))))))).2.2.2)] [(76, c_api_Route.val x127), (4, .pointer (some (pt b1 0))), (5, .pointer (some (pt b2 0))), (6, .pointer (some (pt b3 0))), (7, .pointer r4), (8, .pointer (some (pt b9 0))), (9, .pointer (some (pt b10 0))), (10, .pointer (some (pt b12 0))), (12, .int .i64 s31), (13, .pointer (some (pt b122 0))), (14, .pointer (some (pt b123 0))), (15, .pointer (some (pt b124 0))), (75, x125.v)] [] (weirlaw14_RouteWithin.R1 b1 b2 b3 b9 b10 b12 b122 b123 b124 l126 x127) rdJ := by
  unfold weirlaw14_RouteWithin.R1
  refine SJ.rg 2 <| OJ.slotOf (d := 16) (op := (.alloc 32)) (cd := c_api_Route) (u := z_api_Route) (owed := []) (alloc_run Ty32) (fun b205 => ?_)
  refine OW.nil <| OJ.kst (y := .tmp 16) (z := .tmp 76) (cd := c_api_Route) (u := x127) (j := 0) (b := b205) (o := 0) (c_api_Route.enc x127) (owed := []) Ty32 rfl (Upd.whole ((Cod.len _ _).trans (Cod.len _ _).symm)) rfl ?_
  refine OW.nil <| OJ.nil <| SJ.begin rfl ht_ ?_
  refine SJ.block (id := 5) <| SJ.seq <| SJ.seq <| SJ.draw (id := 20) (kd := [1, 1, 0, 0, 0, 1, 1, 1, 0, 1, 0, 0]) (bef := [0, 0, 2, 7, 15, 31, 31, 31, 223, 479, 1023, 2047]) (ord := [0, 1, 2, 3, 4, 5, 6, 7, 8, 9, 10, 11]) mixed ?_
  refine OJ.ld (d := 77) (y := .tmp 14) (pend2 := fun x206 => [⟨0, 3, (pt b123 0), (cI .i64).val x206⟩]) Ty3 (fun _ => rfl) (fun x206 => ?_)
  refine OJ.ld (d := 78) (y := .tmp 13) (pend2 := fun x207 => [⟨1, 39, (pt b122 0), cL.val x207⟩, ⟨0, 3, (pt b123 0), (cI .i64).val x206⟩]) Ty39 (fun _ => rfl) (fun x207 => ?_)
  refine OJ.go 3 [(81, .bool (decide (x206 ≥ (x207.len : Int)))), (80, .bool (decide (x206 ≥ (x207.len : Int)))), (79, .int .i64 (x207.len : Int))] <| OJ.join (b := decide (x206 ≥ (x207.len : Int))) [5, 6, 7, 8, 9, 10, 11] [] [4, 5, 6, 8, 9, 10, 14, 15, 88] (fun y212 => [(4, .pointer (some (pt b1 0))), (5, .pointer (some (pt b2 0))), (6, .pointer (some (pt b3 0))), (8, .pointer (some (pt b9 0))), (9, .pointer (some (pt b10 0))), (10, .pointer (some (pt b12 0))), (14, .pointer (some (pt b123 0))), (15, .pointer (some (pt b124 0))), (88, .bool y212)]) [⟨5, 32, (pt b205 0), c_api_Route.val x127⟩, ⟨1, 39, (pt b122 0), cL.val x207⟩, ⟨0, 3, (pt b123 0), (cI .i64).val x206⟩] [6, 7, 9] (t := 81) decide_eq_true_iff (fun hp_ => ?_) (fun hp_ => ?_) (fun _ _ _ _ _ _ h_ => h_) (fun y212 => ?_)
  · exact OJ.go 7 [(88, .bool true), (87, undef), (86, undef), (85, undef), (84, undef), (83, undef), (82, undef)] <| OJ.nil ⟨(Cov.mem (Cov.keep (List.mem_of_getElem? (i := 1) rfl) (Cov.keep (List.mem_of_getElem? (i := 2) rfl) Cov.nil))), rfl, _, rfl, by kernel_rfl⟩
  · refine OJ.kld (d := 82) (y := .tmp 16) (cd := c_api_Route) (j := 0) (b := b205) (o := 0) x127 (pend2 := [⟨5, 32, (pt b205 0), c_api_Route.val x127⟩, ⟨1, 39, (pt b122 0), cL.val x207⟩, ⟨0, 3, (pt b123 0), (cI .i64).val x206⟩]) Ty32 rfl (At.whole _) rfl ?_
    refine OJ.ld (d := 83) (y := .tmp 13) (pend2 := fun x208 => [⟨6, 39, (pt b122 0), cL.val x208⟩, ⟨5, 32, (pt b205 0), c_api_Route.val x127⟩, ⟨1, 39, (pt b122 0), cL.val x207⟩, ⟨0, 3, (pt b123 0), (cI .i64).val x206⟩]) Ty39 (fun _ => rfl) (fun x208 => ?_)
    refine OJ.ld (d := 84) (y := .tmp 14) (pend2 := fun x209 => [⟨7, 3, (pt b123 0), (cI .i64).val x209⟩, ⟨6, 39, (pt b122 0), cL.val x208⟩, ⟨5, 32, (pt b205 0), c_api_Route.val x127⟩, ⟨1, 39, (pt b122 0), cL.val x207⟩, ⟨0, 3, (pt b123 0), (cI .i64).val x206⟩]) Ty3 (fun _ => rfl) (fun x209 => ?_)
    refine OJ.idxS (d := 85) (T := 39) (y := .tmp 83) (j := .tmp 84) (E := 32) (cap := x208.cap) (k := .i64) (fun p210 => ?_)
    refine OJ.ld (d := 86) (y := .tmp 85) (pend2 := fun x211 => [⟨9, 32, p210, c_api_Route.val x211⟩, ⟨7, 3, (pt b123 0), (cI .i64).val x209⟩, ⟨6, 39, (pt b122 0), cL.val x208⟩, ⟨5, 32, (pt b205 0), c_api_Route.val x127⟩, ⟨1, 39, (pt b122 0), cL.val x207⟩, ⟨0, 3, (pt b123 0), (cI .i64).val x206⟩]) Ty32 (fun _ => rfl) (fun x211 => ?_)
    refine OJ.neq (d := 87) (T := 32) (yT := 32) (y := .tmp 82) (z := .tmp 86) (cd := c_api_Route) (p := x127) (q := x211) rfl Eq32 ?_
    exact OJ.go 1 [(88, .bool (!eqv x127 x211))] <| OJ.nil ⟨(Cov.mem (Cov.drop (List.mem_of_getElem? (i := 2) rfl) (Cov.drop (List.mem_of_getElem? (i := 1) rfl) (Cov.drop (List.mem_of_getElem? (i := 0) rfl) (Cov.keep (List.mem_of_getElem? (i := 0) rfl) (Cov.keep (List.mem_of_getElem? (i := 1) rfl) (Cov.keep (List.mem_of_getElem? (i := 2) rfl) Cov.nil))))))), rfl, _, rfl, by kernel_rfl⟩
  · refine OJ.nil <| SJ.cond (t := (.tmp 88)) (b := y212) Iff.rfl (fun hc266 => ?_) (fun hc266 => ?_)
    · refine SJ.sr 1 <| OJ.st (y := .tmp 6) (z := .const (.bool false)) (owed := []) Ty4 ?_
      exact OW.nil <| OJ.nil <| SJ.retJ rfl
    · refine SJ.skip <| SJ.seq <| SJ.sr 1 <| OJ.go 1 [(17, .int .i64 0)] <| OJ.nil <| SJ.block (id := 6) <| SJ.forget (List.Sublist.cons _ List.Sublist.slnil) ?_
      exact SJ.loop (fun s_ : Int => [(4, .pointer (some (pt b1 0))), (5, .pointer (some (pt b2 0))), (6, .pointer (some (pt b3 0))), (8, .pointer (some (pt b9 0))), (9, .pointer (some (pt b10 0))), (10, .pointer (some (pt b12 0))), (14, .pointer (some (pt b123 0))), (15, .pointer (some (pt b124 0))), (17, .int .i64 s_)]) (fun s_ : Int => []) [4, 5, 6, 8, 9, 10, 14, 15, 17] rfl (fun _ _ => rfl) (fun s_ => weirlaw14_RouteWithin.L2_ok b1 b2 b3 b9 b10 b12 b123 b124 l126 s_)
noncomputable def weirlaw14_RouteWithin.L1 (b1 : Nat) (b2 : Nat) (b3 : Nat) (r4 : (Option Addr)) (b9 : Nat) (b10 : Nat) (b12 : Nat) (s31 : Int) : M (LS Int Bool) :=
  if s31 < 3 then
    ld cL (Addr.add (pt b9 0) 1) >>= fun x120 =>
    appS c_api_Route 32 64 z_api_Route Sl.nil x120 >>= fun r121 =>
    newv 39 cL Sl.nil >>= fun b122 =>
    st cL (pt b122 0) r121 >>= fun _ =>
    newv 3 (cI .i64) 0 >>= fun b123 =>
    st (cI .i64) (pt b123 0) 0 >>= fun _ =>
    newv 4 cB false >>= fun b124 =>
    st cB (pt b124 0) false >>= fun _ =>
    ld cV (pt b12 0) >>= fun x125 =>
    rangeM (weirlaw14_RouteWithin.it x125) (fun l_ x_ => weirlaw14_RouteWithin.R1 b1 b2 b3 b9 b10 b12 b122 b123 b124 l_ x_) (onJ
      (weirlaw14_RouteWithin.K1 b3 r4 b9 s31 b122 b123 b124)
      (ld cB (pt b3 0) >>= fun q267 =>
       pure (LS.done q267))
      [(4, weirlaw14_RouteWithin.K1 b3 r4 b9 s31 b122 b123 b124)])
  else
    st cB (pt b3 0) true >>= fun _ =>
    ld cB (pt b3 0) >>= fun q268 =>
    pure (LS.done q268)
theorem weirlaw14_RouteWithin.L1_ok (b1 : Nat) (b2 : Nat) (b3 : Nat) (r4 : (Option Addr)) (b9 : Nat) (b10 : Nat) (b12 : Nat) (s31 : Int) :
    SJ weirlaw14_RouteWithin.cx [.code (c1 (c1 (c2 (c1 (c2 (c2 (c2 (c2 (c2 (c2 (c2 weirlaw14_RouteWithin.B))))))))))), .inLoop (c1 (c1 (c2 (c1 (c2 (c2 (c2 (c2 (c2 (c2 (c2 weirlaw14_RouteWithin.B))))))))))), .inBlock 2, .code (c2 (c2 (c2 (c2 (c2 (c2 (c2 (c2 weirlaw14_RouteWithin.B))))))))] [(4, .pointer (some (pt b1 0))), (5, .pointer (some (pt b2 0))), (6, .pointer (some (pt b3 0))), (7, .pointer r4), (8, .pointer (some (pt b9 0))), (9, .pointer (some (pt b10 0))), (10, .pointer (some (pt b12 0))), (12, .int .i64 s31)] [] (weirlaw14_RouteWithin.L1 b1 b2 b3 r4 b9 b10 b12 s31) (weirlaw14_RouteWithin.F1 b1 b2 b3 r4 b9 b10 b12) := by
  unfold weirlaw14_RouteWithin.L1
  refine SJ.seq <| SJ.sr 2 <| OJ.go 2 [(69, .bool (decide (s31 < 3))), (68, .int .i64 s31)] <| OJ.nil <| SJ.cond (t := (.tmp 69)) (b := decide (s31 < 3)) decide_eq_true_iff (fun hc269 => ?_) (fun hc269 => ?_)
  · refine SJ.skip <| SJ.seq <| SJ.block (id := 3) <| SJ.sr 5 <| OJ.go 1 [(72, .pointer (some (Addr.add (pt b9 0) 1)))] <| OJ.ld (d := 73) (y := .tmp 72) (pend2 := fun x120 => []) Ty39 (fun _ => rfl) (fun x120 => ?_)
    refine OJ.appS (d := 74) (t := 39) (u := 39) (so := .const (.slice none 0 0)) (xo := .tmp 73) (owed := []) Ty32 (fun r121 => ?_)
    refine OW.nil <| OJ.newOf (d := 13) (op := (.alloc 39)) (cd := cL) (u := Sl.nil) (owed := []) (alloc_run Ty39) (fun b122 => ?_)
    refine OW.nil <| OJ.st (y := .tmp 13) (z := .tmp 74) (owed := []) Ty39 ?_
    refine OW.nil <| OJ.nil <| SJ.sr 2 <| OJ.newOf (d := 14) (op := (.alloc 3)) (cd := (cI .i64)) (u := 0) (owed := []) (alloc_run Ty3) (fun b123 => ?_)
    refine OW.nil <| OJ.st (y := .tmp 14) (z := .const (.int .i64 0)) (owed := []) Ty3 ?_
    refine OW.nil <| OJ.nil <| SJ.sr 2 <| OJ.newOf (d := 15) (op := (.alloc 4)) (cd := cB) (u := false) (owed := []) (alloc_run Ty4) (fun b124 => ?_)
    refine OW.nil <| OJ.st (y := .tmp 15) (z := .const (.bool false)) (owed := []) Ty4 ?_
    refine OW.nil <| OJ.nil <| SJ.seq <| SJ.sr 1 <| OJ.ld (d := 75) (y := .tmp 10) (pend2 := fun x125 => []) Ty62 (fun _ => rfl) (fun x125 => ?_)
    refine OJ.nil <| SJ.block (id := 4) <| SJ.less [4, 5, 6, 7, 8, 9, 10, 12, 13, 14, 15, 75] (m' := [(4, .pointer (some (pt b1 0))), (5, .pointer (some (pt b2 0))), (6, .pointer (some (pt b3 0))), (7, .pointer r4), (8, .pointer (some (pt b9 0))), (9, .pointer (some (pt b10 0))), (10, .pointer (some (pt b12 0))), (12, .int .i64 s31), (13, .pointer (some (pt b122 0))), (14, .pointer (some (pt b123 0))), (15, .pointer (some (pt b124 0))), (75, x125.v)]) ?_
    refine SJ.rangeF (fo := .tmp 75) (fv := x125.v) (ps := [76]) (fun x_ => [c_api_Route.val x_]) (fun _ => .tuple #[]) (fun L_ yv_ y_ hy_ => @weirlaw14_RouteWithin.it_ok L_ x125 yv_ y_ hy_) (fun L_ l_ rc_ ht_ x_ => @weirlaw14_RouteWithin.R1_ok L_ b1 b2 b3 r4 b9 b10 b12 s31 b122 b123 b124 x125 l_ rc_ ht_ x_) (SJ.onJ ?_ ?_ ?_)
    · refine SJ.inBlock <| SJ.less [4, 5, 6, 7, 8, 9, 10, 12, 13, 14, 15] (m' := [(4, .pointer (some (pt b1 0))), (5, .pointer (some (pt b2 0))), (6, .pointer (some (pt b3 0))), (7, .pointer r4), (8, .pointer (some (pt b9 0))), (9, .pointer (some (pt b10 0))), (10, .pointer (some (pt b12 0))), (12, .int .i64 s31), (13, .pointer (some (pt b122 0))), (14, .pointer (some (pt b123 0))), (15, .pointer (some (pt b124 0)))]) ?_
      exact weirlaw14_RouteWithin.K1_ok b1 b2 b3 r4 b9 b10 b12 s31 b122 b123 b124
    · exact SJ.retM (rs := [.cell 6 4]) (SR.ld (cd := cB) (ad := (pt b3 0)) Ty4 (fun q267 => (SR.nil rfl)))
    · refine SJ.exits1 ?_
      refine SJ.exit (id := 4) (by rfl) <| SJ.less [4, 5, 6, 7, 8, 9, 10, 12, 13, 14, 15] (m' := [(4, .pointer (some (pt b1 0))), (5, .pointer (some (pt b2 0))), (6, .pointer (some (pt b3 0))), (7, .pointer r4), (8, .pointer (some (pt b9 0))), (9, .pointer (some (pt b10 0))), (10, .pointer (some (pt b12 0))), (12, .int .i64 s31), (13, .pointer (some (pt b122 0))), (14, .pointer (some (pt b123 0))), (15, .pointer (some (pt b124 0)))]) ?_
      exact weirlaw14_RouteWithin.K1_ok b1 b2 b3 r4 b9 b10 b12 s31 b122 b123 b124
  · refine SJ.exit (id := 2) (by rfl) <| SJ.sr 1 <| OJ.st (y := .tmp 6) (z := .const (.bool true)) (owed := []) Ty4 ?_
    exact OW.nil <| OJ.nil <| SJ.retM (rs := [.cell 6 4]) (SR.ld (cd := cB) (ad := (pt b3 0)) Ty4 (fun q268 => (SR.nil rfl)))
noncomputable def weirlaw14_RouteWithin.K3 (b1 : Nat) (b2 : Nat) (b3 : Nat) (r4 : (Option Addr)) (b9 : Nat) (b10 : Nat) (b12 : Nat) : M Bool :=
  draw >>= fun _ =>
  ld cB (pt b10 0) >>= fun x22 =>
  (if ¬ (x22 = true) then
      pure true
    else
      ld cV (pt b12 0) >>= fun x23 =>
      fnil x23.v >>= fun b24 =>
      pure b24) >>= fun y25 =>
  (if y25 = true then
      pure true
    else
      ld cL (Addr.add (pt b9 0) 1) >>= fun x26 =>
      route_Table_Len r4 >>= fun r27 =>
      same cL (Addr.add (pt b9 0) 1) x26 >>= fun _ =>
      pure (r27 != (x26.len : Int))) >>= fun y28 =>
  if y28 = true then
    st cB (pt b3 0) false >>= fun _ =>
    ld cB (pt b3 0) >>= fun q30 =>
    pure q30
  else
    loopM (fun s_ : Int => weirlaw14_RouteWithin.L1 b1 b2 b3 r4 b9 b10 b12 s_) 0
theorem weirlaw14_RouteWithin.K3_ok (b1 : Nat) (b2 : Nat) (b3 : Nat) (r4 : (Option Addr)) (b9 : Nat) (b10 : Nat) (b12 : Nat) :
    SJ weirlaw14_RouteWithin.cx [.code (c2 (c2 (c2 (c2 (c2 (c2 weirlaw14_RouteWithin.B))))))] [(4, .pointer (some (pt b1 0))), (5, .pointer (some (pt b2 0))), (6, .pointer (some (pt b3 0))), (7, .pointer r4), (8, .pointer (some (pt b9 0))), (9, .pointer (some (pt b10 0))), (10, .pointer (some (pt b12 0)))] [] (weirlaw14_RouteWithin.K3 b1 b2 b3 r4 b9 b10 b12) weirlaw14_RouteWithin.F0 := by
  unfold weirlaw14_RouteWithin.K3
  refine SJ.seq <| SJ.seq <| SJ.draw (id := 10) (kd := [1, 0, 0, 1, 0, 0, 0, 0, 2, 0, 1, 0, 0, 0]) (bef := [0, 1, 3, 7, 15, 31, 63, 127, 255, 127, 639, 1663, 4095, 8191]) (ord := [0, 1, 2, 3, 4, 5, 6, 7, 9, 10, 8, 11, 12, 13]) mixed ?_
  refine OJ.ld (d := 54) (y := .tmp 9) (pend2 := fun x22 => [⟨0, 4, (pt b10 0), cB.val x22⟩]) Ty4 (fun _ => rfl) (fun x22 => ?_)
  refine OJ.go 2 [(56, .bool (!x22)), (55, .bool (!x22))] <| OJ.join (b := (!x22)) [3, 4, 5] [6, 7, 9, 10, 8, 11, 12, 13] [4, 5, 6, 7, 8, 9, 10, 59] (fun y25 => [(4, .pointer (some (pt b1 0))), (5, .pointer (some (pt b2 0))), (6, .pointer (some (pt b3 0))), (7, .pointer r4), (8, .pointer (some (pt b9 0))), (9, .pointer (some (pt b10 0))), (10, .pointer (some (pt b12 0))), (59, .bool y25)]) [⟨0, 4, (pt b10 0), cB.val x22⟩] [3] (t := 56) (bnot_iff Iff.rfl) (fun hp_ => ?_) (fun hp_ => ?_) (fun _ _ _ _ _ _ h_ => h_) (fun y25 => ?_)
  · exact OJ.go 3 [(59, .bool true), (58, undef), (57, undef)] <| OJ.nil ⟨(Cov.mem (Cov.keep (List.mem_of_getElem? (i := 0) rfl) Cov.nil)), rfl, _, rfl, by kernel_rfl⟩
  · refine OJ.ld (d := 57) (y := .tmp 10) (pend2 := fun x23 => [⟨3, 62, (pt b12 0), cV.val x23⟩, ⟨0, 4, (pt b10 0), cB.val x22⟩]) Ty62 (fun _ => rfl) (fun x23 => ?_)
    refine OJ.fnil (d := 58) (T := 62) (yT := 62) (y := .tmp 57) (z := .const (.nilFunc)) (fv := x23.v) (by kernel_rfl) (fun b24 => ?_)
    exact OJ.go 1 [(59, .bool b24)] <| OJ.nil ⟨(Cov.mem (Cov.drop (List.mem_of_getElem? (i := 0) rfl) (Cov.keep (List.mem_of_getElem? (i := 0) rfl) Cov.nil))), rfl, _, rfl, by kernel_rfl⟩
  · refine OJ.go 1 [(60, .bool y25)] <| OJ.join (b := y25) [7, 9, 10, 8, 11, 12, 13] [] [4, 5, 6, 7, 8, 9, 10, 67] (fun y28 => [(4, .pointer (some (pt b1 0))), (5, .pointer (some (pt b2 0))), (6, .pointer (some (pt b3 0))), (7, .pointer r4), (8, .pointer (some (pt b9 0))), (9, .pointer (some (pt b10 0))), (10, .pointer (some (pt b12 0))), (67, .bool y28)]) [⟨0, 4, (pt b10 0), cB.val x22⟩] [10] (t := 60) Iff.rfl (fun hp_ => ?_) (fun hp_ => ?_) (fun _ _ _ _ _ _ h_ => h_) (fun y28 => ?_)
    · exact OJ.go 7 [(67, .bool true), (66, undef), (65, undef), (62, undef), (64, undef), (63, undef), (61, undef)] <| OJ.nil ⟨(Cov.mem (Cov.keep (List.mem_of_getElem? (i := 0) rfl) Cov.nil)), rfl, _, rfl, by kernel_rfl⟩
    · refine OJ.go 2 [(63, .pointer (some (Addr.add (pt b9 0) 1))), (61, .pointer r4)] <| OJ.ld (d := 64) (y := .tmp 63) (pend2 := fun x26 => [⟨10, 39, (Addr.add (pt b9 0) 1), cL.val x26⟩, ⟨0, 4, (pt b10 0), cB.val x22⟩]) Ty39 (fun _ => rfl) (fun x26 => ?_)
      refine OJ.call (d := 62) (g := 12) (ats := #[22]) (args := [.tmp 61]) (owed := [⟨10, 39, (Addr.add (pt b9 0) 1), cL.val x26⟩]) F12 (route_Table_Len_ok r4) (fun r27 => ?_)
      refine OW.same Ty39 ?_
      exact OW.nil <| OJ.go 3 [(67, .bool (r27 != (x26.len : Int))), (66, .bool (r27 != (x26.len : Int))), (65, .int .i64 (x26.len : Int))] <| OJ.nil ⟨(Cov.mem (Cov.drop (List.mem_of_getElem? (i := 0) rfl) (Cov.keep (List.mem_of_getElem? (i := 0) rfl) Cov.nil))), rfl, _, rfl, by kernel_rfl⟩
    · refine OJ.nil <| SJ.cond (t := (.tmp 67)) (b := y28) Iff.rfl (fun hc270 => ?_) (fun hc270 => ?_)
      · refine SJ.sr 1 <| OJ.st (y := .tmp 6) (z := .const (.bool false)) (owed := []) Ty4 ?_
        exact OW.nil <| OJ.nil <| SJ.retM (rs := [.cell 6 4]) (SR.ld (cd := cB) (ad := (pt b3 0)) Ty4 (fun q30 => (SR.nil rfl)))
      · exact SJ.skip <| SJ.seq <| SJ.sr 1 <| OJ.go 1 [(12, .int .i64 0)] <| OJ.nil <| SJ.block (id := 2) <| SJ.loop (fun s_ : Int => [(4, .pointer (some (pt b1 0))), (5, .pointer (some (pt b2 0))), (6, .pointer (some (pt b3 0))), (7, .pointer r4), (8, .pointer (some (pt b9 0))), (9, .pointer (some (pt b10 0))), (10, .pointer (some (pt b12 0))), (12, .int .i64 s_)]) (fun s_ : Int => []) [4, 5, 6, 7, 8, 9, 10, 12] rfl (fun _ _ => rfl) (fun s_ => weirlaw14_RouteWithin.L1_ok b1 b2 b3 r4 b9 b10 b12 s_)
noncomputable def weirlaw14_RouteWithin.F3 (a0 : Sl) (b1 : Nat) (b2 : Nat) (b3 : Nat) (r4 : (Option Addr)) (b9 : Nat) (b10 : Nat) (b12 : Nat) : (LS Int Bool) → Reach := loopF [.inLoop (c1 (c1 (c2 (c1 (c2 (c2 (c2 (c2 (c2 weirlaw14_RouteWithin.B))))))))), .inBlock 0, .code (c2 (c2 (c2 (c2 (c2 (c2 weirlaw14_RouteWithin.B))))))] (fun s_ : Int => [(0, Sl.v a0), (4, .pointer (some (pt b1 0))), (5, .pointer (some (pt b2 0))), (6, .pointer (some (pt b3 0))), (7, .pointer r4), (8, .pointer (some (pt b9 0))), (9, .pointer (some (pt b10 0))), (10, .pointer (some (pt b12 0))), (11, .int .i64 s_)]) (fun s_ : Int => []) weirlaw14_RouteWithin.F0
noncomputable def weirlaw14_RouteWithin.L3 (a0 : Sl) (b1 : Nat) (b2 : Nat) (b3 : Nat) (r4 : (Option Addr)) (b9 : Nat) (b10 : Nat) (b12 : Nat) (s13 : Int) : M (LS Int Bool) :=
  (if s13 < (a0.len : Int) then
      pure (decide (s13 < 300))
    else
      pure false) >>= fun y271 =>
  (if y271 = true then
      ld cB (pt b10 0) >>= fun x272 =>
      pure x272
    else
      pure false) >>= fun y273 =>
  if y273 = true then
    draw >>= fun _ =>
    ld c_weirlaw14_Pair (pt b9 0) >>= fun x274 =>
    idx a0.a a0.len s13 36 >>= fun p275 =>
    ld c_api_Route p275 >>= fun x276 =>
    weirlaw14_turned x274 (⟨1, z_weirlaw14_Step.Obj, x276, z_weirlaw14_Step.IP, z_weirlaw14_Step.N⟩ : weirlaw14_Step) >>= fun r277 =>
    st c_weirlaw14_Pair (pt b9 0) r277.1 >>= fun _ =>
    st cB (pt b10 0) r277.2 >>= fun _ =>
    pure (LS.next (IntKind.wrap .i64 (s13 + 1)))
  else
    (weirlaw14_RouteWithin.K3 b1 b2 b3 r4 b9 b10 b12) >>= fun b => pure (LS.done b)
theorem weirlaw14_RouteWithin.L3_ok (a0 : Sl) (b1 : Nat) (b2 : Nat) (b3 : Nat) (r4 : (Option Addr)) (b9 : Nat) (b10 : Nat) (b12 : Nat) (s13 : Int) :
    SJ weirlaw14_RouteWithin.cx [.code (c1 (c1 (c2 (c1 (c2 (c2 (c2 (c2 (c2 weirlaw14_RouteWithin.B))))))))), .inLoop (c1 (c1 (c2 (c1 (c2 (c2 (c2 (c2 (c2 weirlaw14_RouteWithin.B))))))))), .inBlock 0, .code (c2 (c2 (c2 (c2 (c2 (c2 weirlaw14_RouteWithin.B))))))] [(0, Sl.v a0), (4, .pointer (some (pt b1 0))), (5, .pointer (some (pt b2 0))), (6, .pointer (some (pt b3 0))), (7, .pointer r4), (8, .pointer (some (pt b9 0))), (9, .pointer (some (pt b10 0))), (10, .pointer (some (pt b12 0))), (11, .int .i64 s13)] [] (weirlaw14_RouteWithin.L3 a0 b1 b2 b3 r4 b9 b10 b12 s13) (weirlaw14_RouteWithin.F3 a0 b1 b2 b3 r4 b9 b10 b12) := by
  unfold weirlaw14_RouteWithin.L3
  refine SJ.seq <| SJ.sr 11 <| OJ.go 5 [(35, .bool (decide (s13 < (a0.len : Int)))), (34, .bool (decide (s13 < (a0.len : Int)))), (33, .int .i64 (a0.len : Int)), (32, Sl.v a0), (31, .int .i64 s13)] <| OJ.join (b := decide (s13 < (a0.len : Int))) [5, 6, 7] [8, 9, 10] [0, 4, 5, 6, 7, 8, 9, 10, 11, 38] (fun y271 => [(0, Sl.v a0), (4, .pointer (some (pt b1 0))), (5, .pointer (some (pt b2 0))), (6, .pointer (some (pt b3 0))), (7, .pointer r4), (8, .pointer (some (pt b9 0))), (9, .pointer (some (pt b10 0))), (10, .pointer (some (pt b12 0))), (11, .int .i64 s13), (38, .bool y271)]) [] [] (t := 35) decide_eq_true_iff (fun hp_ => ?_) (fun hp_ => ?_) (fun _ _ _ _ _ _ h_ => h_) (fun y271 => ?_)
  · exact OJ.go 3 [(38, .bool (decide (s13 < 300))), (37, .bool (decide (s13 < 300))), (36, .int .i64 s13)] <| OJ.x0
  · exact OJ.go 3 [(38, .bool false), (37, undef), (36, undef)] <| OJ.x0
  · refine OJ.go 1 [(39, .bool y271)] <| OJ.join (b := y271) [9, 10] [] [0, 4, 5, 6, 7, 8, 9, 10, 11, 41] (fun y273 => [(0, Sl.v a0), (4, .pointer (some (pt b1 0))), (5, .pointer (some (pt b2 0))), (6, .pointer (some (pt b3 0))), (7, .pointer r4), (8, .pointer (some (pt b9 0))), (9, .pointer (some (pt b10 0))), (10, .pointer (some (pt b12 0))), (11, .int .i64 s13), (41, .bool y273)]) [] [] (t := 39) Iff.rfl (fun hp_ => ?_) (fun hp_ => ?_) (fun _ _ _ _ _ _ h_ => h_) (fun y273 => ?_)
    · refine OJ.ld (d := 40) (y := .tmp 9) (pend2 := fun x272 => []) Ty4 (fun _ => rfl) (fun x272 => ?_)
      exact OJ.go 1 [(41, .bool x272)] <| OJ.x0
    · exact OJ.go 2 [(41, .bool false), (40, undef)] <| OJ.x0
    · refine OJ.nil <| SJ.cond (t := (.tmp 41)) (b := y273) Iff.rfl (fun hc278 => ?_) (fun hc278 => ?_)
      · refine SJ.skip <| SJ.seq <| SJ.block (id := 1) <| SJ.draw (id := 9) (kd := [1, 0, 0, 0, 1, 0, 2, 0, 0, 0, 2, 2]) (bef := [0, 0, 0, 6, 14, 30, 63, 127, 255, 255, 511, 2047]) (ord := [0, 1, 2, 3, 4, 5, 6, 7, 8, 9, 10, 11]) mixed ?_
        refine OJ.ld (d := 45) (y := .tmp 8) (pend2 := fun x274 => [⟨0, 57, (pt b9 0), c_weirlaw14_Pair.val x274⟩]) Ty57 (fun _ => rfl) (fun x274 => ?_)
        refine OJ.go 2 [(47, .int .i64 s13), (46, Sl.v a0)] <| OJ.idxS (d := 48) (T := 39) (y := .tmp 46) (j := .tmp 47) (E := 32) (cap := a0.cap) (k := .i64) (fun p275 => ?_)
        refine OJ.ld (d := 49) (y := .tmp 48) (pend2 := fun x276 => [⟨4, 32, p275, c_api_Route.val x276⟩, ⟨0, 57, (pt b9 0), c_weirlaw14_Pair.val x274⟩]) Ty32 (fun _ => rfl) (fun x276 => ?_)
        refine OJ.build (d := 50) (T := 61) (parts := [(0, .const (.int .i64 1)), (2, .tmp 49)]) (ps := [(0, (cI .i64).val 1), (2, c_api_Route.val x276)]) (cd := c_weirlaw14_Step) (z0 := z_weirlaw14_Step) (⟨1, z_weirlaw14_Step.Obj, x276, z_weirlaw14_Step.IP, z_weirlaw14_Step.N⟩ : weirlaw14_Step) Ty61 rfl (Filled.cons (cd := (cI .i64)) (q := 1) (o := 0) (by kernel_rfl) (Up_weirlaw14_Step_Kind z_weirlaw14_Step 1) (Filled.cons (cd := c_api_Route) (q := x276) (o := 2) (by kernel_rfl) (Up_weirlaw14_Step_R (⟨1, z_weirlaw14_Step.Obj, z_weirlaw14_Step.R, z_weirlaw14_Step.IP, z_weirlaw14_Step.N⟩ : weirlaw14_Step) x276) Filled.nil)) ?_
        refine OJ.call (d := 51) (g := 23) (ats := #[57, 61]) (args := [.tmp 45, .tmp 50]) (owed := []) F23 (weirlaw14_turned_ok x274 (⟨1, z_weirlaw14_Step.Obj, x276, z_weirlaw14_Step.IP, z_weirlaw14_Step.N⟩ : weirlaw14_Step)) (fun r277 => ?_)
        refine OW.nil <| OJ.go 3 [(53, .bool r277.2), (52, c_weirlaw14_Pair.val r277.1), (44, .tuple #[c_weirlaw14_Pair.val r277.1, .bool r277.2])] <| OJ.st (y := .tmp 8) (z := .tmp 52) (owed := []) Ty57 ?_
        refine OW.nil <| OJ.st (y := .tmp 9) (z := .tmp 53) (owed := []) Ty4 ?_
        exact OW.nil <| OJ.nil <| SJ.inBlock <| SJ.rg 3 <| OJ.go 3 [(11, .int .i64 (IntKind.wrap .i64 (s13 + 1))), (43, .int .i64 (IntKind.wrap .i64 (s13 + 1))), (42, .int .i64 s13)] <| OJ.nil <| SJ.at_ [0, 4, 5, 6, 7, 8, 9, 10, 11] rfl
      · refine SJ.exit (id := 0) (by rfl) <| SJ.less [4, 5, 6, 7, 8, 9, 10] (m' := [(4, .pointer (some (pt b1 0))), (5, .pointer (some (pt b2 0))), (6, .pointer (some (pt b3 0))), (7, .pointer r4), (8, .pointer (some (pt b9 0))), (9, .pointer (some (pt b10 0))), (10, .pointer (some (pt b12 0)))]) ?_
        refine SJ.done ?_
        exact weirlaw14_RouteWithin.K3_ok b1 b2 b3 r4 b9 b10 b12
noncomputable def weirlaw14_RouteWithin (a0 : Sl) (a1 : Sl) (a2 : Int) : M Bool :=
  newv 54 cL a1 >>= fun b1 =>
  newv 3 (cI .i64) a2 >>= fun b2 =>
  newv 4 cB false >>= fun b3 =>
  route_New >>= fun r4 =>
  if r4 = none then
    st cB (pt b3 0) false >>= fun _ =>
    ld cB (pt b3 0) >>= fun q6 =>
    pure q6
  else
    weirlaw14_route0 >>= fun r7 =>
    weirlaw14_turned (⟨r4, z_weirlaw14_Pair.L, z_weirlaw14_Pair.Kept⟩ : weirlaw14_Pair) (⟨1, z_weirlaw14_Step.Obj, r7, z_weirlaw14_Step.IP, z_weirlaw14_Step.N⟩ : weirlaw14_Step) >>= fun r8 =>
    newv 57 c_weirlaw14_Pair z_weirlaw14_Pair >>= fun b9 =>
    newv 4 cB false >>= fun b10 =>
    st c_weirlaw14_Pair (pt b9 0) r8.1 >>= fun _ =>
    st cB (pt b10 0) r8.2 >>= fun _ =>
    route_Table_All r4 >>= fun r11 =>
    newv 62 cV ⟨.nilFunc, rfl⟩ >>= fun b12 =>
    st cV (pt b12 0) r11 >>= fun _ =>
    loopM (fun s_ : Int => weirlaw14_RouteWithin.L3 a0 b1 b2 b3 r4 b9 b10 b12 s_) 0
theorem weirlaw14_RouteWithin_ok (a0 : Sl) (a1 : Sl) (a2 : Int) : Ref Tryd.prog 6 [Sl.v a0, Sl.v a1, .int .i64 a2] (weirlaw14_RouteWithin a0 a1 a2) weirlaw14_RouteWithin.out := by
  refine Ref.of (cd := weirlaw14_RouteWithin.B) Tryd.func6 ?_
  show SJ weirlaw14_RouteWithin.cx [.code weirlaw14_RouteWithin.B] [(0, Sl.v a0), (1, Sl.v a1), (2, .int .i64 a2)] [] (weirlaw14_RouteWithin a0 a1 a2) weirlaw14_RouteWithin.F0
  unfold weirlaw14_RouteWithin
  refine SJ.sr 3 <| OJ.newOf (d := 4) (op := (.box 54 (.tmp 1))) (cd := cL) (u := a1) (owed := []) (box_run (by kernel_rfl)) (fun b1 => ?_)
  refine OW.nil <| OJ.newOf (d := 5) (op := (.box 3 (.tmp 2))) (cd := (cI .i64)) (u := a2) (owed := []) (box_run (by kernel_rfl)) (fun b2 => ?_)
  refine OW.nil <| OJ.newOf (d := 6) (op := (.alloc 4)) (cd := cB) (u := false) (owed := []) (alloc_run Ty4) (fun b3 => ?_)
  refine OW.nil <| OJ.nil <| SJ.sr 2 <| OJ.call (d := 18) (g := 9) (ats := #[]) (args := []) (owed := []) F9 (route_New_ok ) (fun r4 => ?_)
  refine OW.nil <| OJ.go 1 [(7, .pointer r4)] <| OJ.nil <| SJ.seq <| SJ.sr 2 <| OJ.go 2 [(20, .bool (Option.isNone r4)), (19, .pointer r4)] <| OJ.nil <| SJ.cond (t := (.tmp 20)) (b := (Option.isNone r4)) Option.isNone_iff_eq_none (fun hc279 => ?_) (fun hc279 => ?_)
  · refine SJ.sr 1 <| OJ.st (y := .tmp 6) (z := .const (.bool false)) (owed := []) Ty4 ?_
    exact OW.nil <| OJ.nil <| SJ.retM (rs := [.cell 6 4]) (SR.ld (cd := cB) (ad := (pt b3 0)) Ty4 (fun q6 => (SR.nil rfl)))
  · refine SJ.skip <| SJ.sr 12 <| OJ.go 1 [(22, .pointer r4)] <| OJ.build (d := 23) (T := 57) (parts := [(0, .tmp 22)]) (ps := [(0, cP.val r4)]) (cd := c_weirlaw14_Pair) (z0 := z_weirlaw14_Pair) (⟨r4, z_weirlaw14_Pair.L, z_weirlaw14_Pair.Kept⟩ : weirlaw14_Pair) Ty57 rfl (Filled.cons (cd := cP) (q := r4) (o := 0) (by kernel_rfl) (Up_weirlaw14_Pair_T z_weirlaw14_Pair r4) Filled.nil) ?_
    refine OJ.call (d := 24) (g := 16) (ats := #[]) (args := []) (owed := []) F16 (weirlaw14_route0_ok ) (fun r7 => ?_)
    refine OW.nil <| OJ.build (d := 25) (T := 61) (parts := [(0, .const (.int .i64 1)), (2, .tmp 24)]) (ps := [(0, (cI .i64).val 1), (2, c_api_Route.val r7)]) (cd := c_weirlaw14_Step) (z0 := z_weirlaw14_Step) (⟨1, z_weirlaw14_Step.Obj, r7, z_weirlaw14_Step.IP, z_weirlaw14_Step.N⟩ : weirlaw14_Step) Ty61 rfl (Filled.cons (cd := (cI .i64)) (q := 1) (o := 0) (by kernel_rfl) (Up_weirlaw14_Step_Kind z_weirlaw14_Step 1) (Filled.cons (cd := c_api_Route) (q := r7) (o := 2) (by kernel_rfl) (Up_weirlaw14_Step_R (⟨1, z_weirlaw14_Step.Obj, z_weirlaw14_Step.R, z_weirlaw14_Step.IP, z_weirlaw14_Step.N⟩ : weirlaw14_Step) r7) Filled.nil)) ?_
    refine OJ.call (d := 26) (g := 23) (ats := #[57, 61]) (args := [.tmp 23, .tmp 25]) (owed := []) F23 (weirlaw14_turned_ok (⟨r4, z_weirlaw14_Pair.L, z_weirlaw14_Pair.Kept⟩ : weirlaw14_Pair) (⟨1, z_weirlaw14_Step.Obj, r7, z_weirlaw14_Step.IP, z_weirlaw14_Step.N⟩ : weirlaw14_Step)) (fun r8 => ?_)
    refine OW.nil <| OJ.go 3 [(28, .bool r8.2), (27, c_weirlaw14_Pair.val r8.1), (21, .tuple #[c_weirlaw14_Pair.val r8.1, .bool r8.2])] <| OJ.newOf (d := 8) (op := (.alloc 57)) (cd := c_weirlaw14_Pair) (u := z_weirlaw14_Pair) (owed := []) (alloc_run Ty57) (fun b9 => ?_)
    refine OW.nil <| OJ.newOf (d := 9) (op := (.alloc 4)) (cd := cB) (u := false) (owed := []) (alloc_run Ty4) (fun b10 => ?_)
    refine OW.nil <| OJ.st (y := .tmp 8) (z := .tmp 27) (owed := []) Ty57 ?_
    refine OW.nil <| OJ.st (y := .tmp 9) (z := .tmp 28) (owed := []) Ty4 ?_
    refine OW.nil <| OJ.nil <| SJ.sr 4 <| OJ.go 1 [(29, .pointer r4)] <| OJ.call (d := 30) (g := 24) (ats := #[22]) (args := [.tmp 29]) (owed := []) F24 (route_Table_All_ok r4) (fun r11 => ?_)
    refine OW.nil <| OJ.newOf (d := 10) (op := (.alloc 62)) (cd := cV) (u := ⟨.nilFunc, rfl⟩) (owed := []) (alloc_run Ty62) (fun b12 => ?_)
    refine OW.nil <| OJ.st (y := .tmp 10) (z := .tmp 30) (owed := []) Ty62 ?_
    exact OW.nil <| OJ.nil <| SJ.seq <| SJ.sr 1 <| OJ.go 1 [(11, .int .i64 0)] <| OJ.nil <| SJ.block (id := 0) <| SJ.loop (fun s_ : Int => [(0, Sl.v a0), (4, .pointer (some (pt b1 0))), (5, .pointer (some (pt b2 0))), (6, .pointer (some (pt b3 0))), (7, .pointer r4), (8, .pointer (some (pt b9 0))), (9, .pointer (some (pt b10 0))), (10, .pointer (some (pt b12 0))), (11, .int .i64 s_)]) (fun s_ : Int => []) [0, 4, 5, 6, 7, 8, 9, 10, 11] rfl (fun _ _ => rfl) (fun s_ => weirlaw14_RouteWithin.L3_ok a0 b1 b2 b3 r4 b9 b10 b12 s_)
end Go.Proofs.YtfgcobigollfjaaDoor.Lx
