/- Programs of the M-world for Go functions, each with the proof that the Go text does what it says. Printed by lxgen.py. -/
import Derived.Test.YtfgcobigollfjaaDoorLxT
import Derived.Test.YtfgcobigollfjaaDoorLxP0
set_option linter.unusedVariables false
set_option linter.unusedSimpArgs false
set_option linter.unusedSectionVars false
namespace Go.Proofs.YtfgcobigollfjaaDoor.Lx
open Go Go.Proofs
variable [Loops]
/-! ### slices.insertionSortCmpFunc[weir/api.Route]: function 70 -/
noncomputable def slices_insertionSortCmpFunc_api_Route.B : Code := (Tryd.f70.body).getD .skip
noncomputable def slices_insertionSortCmpFunc_api_Route.cx : Fx := ⟨Tryd.prog, 70, Tryd.f70, none⟩
noncomputable def slices_insertionSortCmpFunc_api_Route.out (r_ : Unit) : Value := .tuple #[]
noncomputable def slices_insertionSortCmpFunc_api_Route.F0 (r_ : Unit) : Reach := .ret (slices_insertionSortCmpFunc_api_Route.out r_)
noncomputable def slices_insertionSortCmpFunc_api_Route.F1 (a0 : Sl) (a1 : Int) (a2 : Int) (a3v : Any) : (LS Int Unit) → Reach := loopF [.inLoop (c1 (c1 (c2 slices_insertionSortCmpFunc_api_Route.B))), .inBlock 0] (fun s_ : Int => [(0, Sl.v a0), (1, .int .i64 a1), (2, .int .i64 a2), (3, a3v.v), (8, .int .i64 s_)]) (fun s_ : Int => []) slices_insertionSortCmpFunc_api_Route.F0
noncomputable def slices_insertionSortCmpFunc_api_Route.F2 (a0 : Sl) (a1 : Int) (a2 : Int) (a3v : Any) (s1 : Int) : (LS Int (LS Int Unit)) → Reach := loopF [.inLoop (c1 (c1 (c2 (c1 (c1 (c2 (c1 (c1 (c2 slices_insertionSortCmpFunc_api_Route.B))))))))), .inBlock 2, .inBlock 1, .code (c2 (c2 (c1 (c1 (c2 slices_insertionSortCmpFunc_api_Route.B))))), .inLoop (c1 (c1 (c2 slices_insertionSortCmpFunc_api_Route.B))), .inBlock 0] (fun s_ : Int => [(0, Sl.v a0), (1, .int .i64 a1), (2, .int .i64 a2), (3, a3v.v), (8, .int .i64 s1), (9, .int .i64 s_)]) (fun s_ : Int => []) (slices_insertionSortCmpFunc_api_Route.F1 a0 a1 a2 a3v)
noncomputable def slices_insertionSortCmpFunc_api_Route.L2 (a0 : Sl) (a1 : Int) (a3 : api_Route → api_Route → M Int) (s1 : Int) (s2 : Int) : M (LS Int (LS Int Unit)) :=
  draw >>= fun _ =>
  (if s2 > a1 then
      idx a0.a a0.len s2 36 >>= fun p16 =>
      ld c_api_Route p16 >>= fun x17 =>
      idx a0.a a0.len (IntKind.wrap .i64 (s2 - 1)) 36 >>= fun p18 =>
      ld c_api_Route p18 >>= fun x19 =>
      a3 x17 x19 >>= fun r20 =>
      pure (decide (r20 < 0))
    else
      pure false) >>= fun y21 =>
  if y21 = true then
    draw >>= fun _ =>
    idx a0.a a0.len (IntKind.wrap .i64 (s2 - 1)) 36 >>= fun p22 =>
    ld c_api_Route p22 >>= fun x23 =>
    idx a0.a a0.len s2 36 >>= fun p24 =>
    ld c_api_Route p24 >>= fun x25 =>
    idx a0.a a0.len s2 36 >>= fun p26 =>
    st c_api_Route p26 x23 >>= fun _ =>
    idx a0.a a0.len (IntKind.wrap .i64 (s2 - 1)) 36 >>= fun p27 =>
    st c_api_Route p27 x25 >>= fun _ =>
    pure (LS.next (IntKind.wrap .i64 (s2 - 1)))
  else
    pure (LS.done (LS.next (IntKind.wrap .i64 (s1 + 1))))
theorem slices_insertionSortCmpFunc_api_Route.L2_ok (a0 : Sl) (a1 : Int) (a2 : Int) (a3v : Any) (a3 : api_Route → api_Route → M Int) (h_a3 : ∀ (x0_ : api_Route), ∀ (x1_ : api_Route), RefV Tryd.prog a3v.v [c_api_Route.val x0_, c_api_Route.val x1_] (a3 x0_ x1_) (fun r_ : Int => .int .i64 r_)) (s1 : Int) (s2 : Int) :
    SJ slices_insertionSortCmpFunc_api_Route.cx [.code (c1 (c1 (c2 (c1 (c1 (c2 (c1 (c1 (c2 slices_insertionSortCmpFunc_api_Route.B))))))))), .inLoop (c1 (c1 (c2 (c1 (c1 (c2 (c1 (c1 (c2 slices_insertionSortCmpFunc_api_Route.B))))))))), .inBlock 2, .inBlock 1, .code (c2 (c2 (c1 (c1 (c2 slices_insertionSortCmpFunc_api_Route.B))))), .inLoop (c1 (c1 (c2 slices_insertionSortCmpFunc_api_Route.B))), .inBlock 0] [(0, Sl.v a0), (1, .int .i64 a1), (2, .int .i64 a2), (3, a3v.v), (8, .int .i64 s1), (9, .int .i64 s2)] [] (slices_insertionSortCmpFunc_api_Route.L2 a0 a1 a3 s1 s2) (slices_insertionSortCmpFunc_api_Route.F2 a0 a1 a2 a3v s1) := by
  unfold slices_insertionSortCmpFunc_api_Route.L2
  refine SJ.seq ?_
  refine SJ.seq ?_
  refine SJ.draw (id := 4) (kd := [0, 0, 0, 0, 0, 0, 0, 0, 1, 0, 0, 0, 0, 1, 2, 0, 0]) (bef := [0, 0, 3, 7, 15, 15, 15, 111, 239, 15, 15, 1039, 3599, 7695, 16383, 32767, 65535]) (ord := [0, 1, 2, 3, 4, 5, 6, 7, 8, 9, 10, 11, 12, 13, 14, 15, 16]) mixed ?_
  refine OJ.go 4 [(21, .bool (decide (s2 > a1))), (20, .bool (decide (s2 > a1))), (19, .int .i64 a1), (18, .int .i64 s2)] ?_
  refine OJ.join (b := decide (s2 > a1)) [4, 5, 6, 7, 8, 9, 10, 11, 12, 13, 14, 15, 16] [] [0, 1, 2, 3, 8, 9, 34] (fun y21 => [(0, Sl.v a0), (1, .int .i64 a1), (2, .int .i64 a2), (3, a3v.v), (8, .int .i64 s1), (9, .int .i64 s2), (34, .bool y21)]) [] [8, 13] (t := 21) decide_eq_true_iff (fun hp_ => ?_) (fun hp_ => ?_) (fun _ _ _ _ _ _ h_ => h_) (fun y21 => ?_)
  · refine OJ.go 3 [(24, .int .i64 s2), (23, Sl.v a0), (22, a3v.v)] ?_
    refine OJ.idxS (d := 25) (T := 39) (y := .tmp 23) (j := .tmp 24) (E := 32) (cap := a0.cap) (k := .i64) (fun p16 => ?_)
    refine OJ.ld (d := 26) (y := .tmp 25) (pend2 := fun x17 => [⟨8, 32, p16, c_api_Route.val x17⟩]) Ty32 (fun _ => rfl) (fun x17 => ?_)
    refine OJ.go 3 [(29, .int .i64 (IntKind.wrap .i64 (s2 - 1))), (28, .int .i64 s2), (27, Sl.v a0)] ?_
    refine OJ.idxS (d := 30) (T := 39) (y := .tmp 27) (j := .tmp 29) (E := 32) (cap := a0.cap) (k := .i64) (fun p18 => ?_)
    refine OJ.ld (d := 31) (y := .tmp 30) (pend2 := fun x19 => [⟨13, 32, p18, c_api_Route.val x19⟩, ⟨8, 32, p16, c_api_Route.val x17⟩]) Ty32 (fun _ => rfl) (fun x19 => ?_)
    refine OJ.callV1 (d := 32) (ats := #[32, 32]) (args := [.tmp 26, .tmp 31]) (fo := .tmp 22) (vals := [c_api_Route.val x17, c_api_Route.val x19]) (owed := []) (h_a3 x17 x19) (fun r20 => ?_)
    refine OW.nil ?_
    refine OJ.go 2 [(34, .bool (decide (r20 < 0))), (33, .bool (decide (r20 < 0)))] ?_
    exact OJ.nil ⟨(Cov.mem (Cov.drop (List.mem_of_getElem? (i := 1) rfl) (Cov.drop (List.mem_of_getElem? (i := 0) rfl) Cov.nil))), rfl, _, rfl, by kernel_rfl⟩
  · refine OJ.go 13 [(34, .bool false), (33, undef), (32, undef), (31, undef), (30, undef), (29, undef), (28, undef), (27, undef), (26, undef), (25, undef), (24, undef), (23, undef), (22, undef)] ?_
    exact OJ.nil ⟨(Cov.mem Cov.nil), rfl, _, rfl, by kernel_rfl⟩
  · refine OJ.nil ?_
    refine SJ.cond (t := (.tmp 34)) (b := y21) Iff.rfl (fun hc28 => ?_) (fun hc28 => ?_)
    · refine SJ.skip ?_
      refine SJ.seq ?_
      refine SJ.block (id := 3) ?_
      refine SJ.draw (id := 6) (kd := [0, 0, 0, 0, 0, 0, 0, 0, 0, 1, 0, 0, 0, 1, 0, 2, 0, 2]) (bef := [0, 0, 0, 0, 8, 0, 0, 64, 224, 480, 0, 0, 3072, 7168, 16355, 32739, 65535, 131071]) (ord := [0, 1, 2, 3, 4, 5, 6, 7, 8, 9, 10, 11, 12, 13, 14, 15, 16, 17]) mixed ?_
      refine OJ.go 8 [(44, .int .i64 (IntKind.wrap .i64 (s2 - 1))), (43, .int .i64 s2), (42, Sl.v a0), (41, .int .i64 (IntKind.wrap .i64 (s2 - 1))), (40, .int .i64 s2), (39, Sl.v a0), (38, .int .i64 s2), (37, Sl.v a0)] ?_
      refine OJ.idxS (d := 45) (T := 39) (y := .tmp 42) (j := .tmp 44) (E := 32) (cap := a0.cap) (k := .i64) (fun p22 => ?_)
      refine OJ.ld (d := 46) (y := .tmp 45) (pend2 := fun x23 => [⟨9, 32, p22, c_api_Route.val x23⟩]) Ty32 (fun _ => rfl) (fun x23 => ?_)
      refine OJ.go 2 [(48, .int .i64 s2), (47, Sl.v a0)] ?_
      refine OJ.idxS (d := 49) (T := 39) (y := .tmp 47) (j := .tmp 48) (E := 32) (cap := a0.cap) (k := .i64) (fun p24 => ?_)
      refine OJ.ld (d := 50) (y := .tmp 49) (pend2 := fun x25 => [⟨13, 32, p24, c_api_Route.val x25⟩, ⟨9, 32, p22, c_api_Route.val x23⟩]) Ty32 (fun _ => rfl) (fun x25 => ?_)
      refine OJ.idxS (d := 51) (T := 39) (y := .tmp 37) (j := .tmp 38) (E := 32) (cap := a0.cap) (k := .i64) (fun p26 => ?_)
      refine OJ.st (y := .tmp 51) (z := .tmp 46) (owed := []) Ty32 ?_
      refine OW.nil ?_
      refine OJ.idxS (d := 52) (T := 39) (y := .tmp 39) (j := .tmp 41) (E := 32) (cap := a0.cap) (k := .i64) (fun p27 => ?_)
      refine OJ.st (y := .tmp 52) (z := .tmp 50) (owed := []) Ty32 ?_
      refine OW.nil ?_
      refine OJ.nil ?_
      refine SJ.inBlock ?_
      refine SJ.rg 3 ?_
      refine OJ.go 3 [(9, .int .i64 (IntKind.wrap .i64 (s2 - 1))), (36, .int .i64 (IntKind.wrap .i64 (s2 - 1))), (35, .int .i64 s2)] ?_
      refine OJ.nil ?_
      exact SJ.at_ [0, 1, 2, 3, 8, 9] rfl
    · refine SJ.exit (id := 2) (by rfl) ?_
      refine SJ.inBlock ?_
      refine SJ.rg 3 ?_
      refine OJ.go 3 [(8, .int .i64 (IntKind.wrap .i64 (s1 + 1))), (16, .int .i64 (IntKind.wrap .i64 (s1 + 1))), (15, .int .i64 s1)] ?_
      refine OJ.nil ?_
      exact SJ.at_ [0, 1, 2, 3, 8] rfl
noncomputable def slices_insertionSortCmpFunc_api_Route.L1 (a0 : Sl) (a1 : Int) (a2 : Int) (a3 : api_Route → api_Route → M Int) (s1 : Int) : M (LS Int Unit) :=
  if s1 < a2 then
    loopM (fun s_ : Int => slices_insertionSortCmpFunc_api_Route.L2 a0 a1 a3 s1 s_) s1
  else
    pure (LS.done ())
theorem slices_insertionSortCmpFunc_api_Route.L1_ok (a0 : Sl) (a1 : Int) (a2 : Int) (a3v : Any) (a3 : api_Route → api_Route → M Int) (h_a3 : ∀ (x0_ : api_Route), ∀ (x1_ : api_Route), RefV Tryd.prog a3v.v [c_api_Route.val x0_, c_api_Route.val x1_] (a3 x0_ x1_) (fun r_ : Int => .int .i64 r_)) (s1 : Int) :
    SJ slices_insertionSortCmpFunc_api_Route.cx [.code (c1 (c1 (c2 slices_insertionSortCmpFunc_api_Route.B))), .inLoop (c1 (c1 (c2 slices_insertionSortCmpFunc_api_Route.B))), .inBlock 0] [(0, Sl.v a0), (1, .int .i64 a1), (2, .int .i64 a2), (3, a3v.v), (8, .int .i64 s1)] [] (slices_insertionSortCmpFunc_api_Route.L1 a0 a1 a2 a3 s1) (slices_insertionSortCmpFunc_api_Route.F1 a0 a1 a2 a3v) := by
  unfold slices_insertionSortCmpFunc_api_Route.L1
  refine SJ.seq ?_
  refine SJ.sr 3 ?_
  refine OJ.go 3 [(14, .bool (decide (s1 < a2))), (13, .int .i64 a2), (12, .int .i64 s1)] ?_
  refine OJ.nil ?_
  refine SJ.cond (t := (.tmp 14)) (b := decide (s1 < a2)) decide_eq_true_iff (fun hc29 => ?_) (fun hc29 => ?_)
  · refine SJ.skip ?_
    refine SJ.seq ?_
    refine SJ.block (id := 1) ?_
    refine SJ.sr 2 ?_
    refine OJ.go 2 [(9, .int .i64 s1), (17, .int .i64 s1)] ?_
    refine OJ.nil ?_
    refine SJ.block (id := 2) ?_
    exact SJ.loop (fun s_ : Int => [(0, Sl.v a0), (1, .int .i64 a1), (2, .int .i64 a2), (3, a3v.v), (8, .int .i64 s1), (9, .int .i64 s_)]) (fun s_ : Int => []) [0, 1, 2, 3, 8, 9] rfl (fun _ _ => rfl) (fun s_ => slices_insertionSortCmpFunc_api_Route.L2_ok a0 a1 a2 a3v a3 h_a3 s1 s_)
  · refine SJ.exit (id := 0) (by rfl) ?_
    exact SJ.end_ rfl (Res.run (ys := []) .nil rfl)
noncomputable def slices_insertionSortCmpFunc_api_Route (a0 : Sl) (a1 : Int) (a2 : Int) (a3 : api_Route → api_Route → M Int) : M Unit :=
  loopM (fun s_ : Int => slices_insertionSortCmpFunc_api_Route.L1 a0 a1 a2 a3 s_) (IntKind.wrap .i64 (a1 + 1))
theorem slices_insertionSortCmpFunc_api_Route_ok (a0 : Sl) (a1 : Int) (a2 : Int) (a3v : Any) (a3 : api_Route → api_Route → M Int) (h_a3 : ∀ (x0_ : api_Route), ∀ (x1_ : api_Route), RefV Tryd.prog a3v.v [c_api_Route.val x0_, c_api_Route.val x1_] (a3 x0_ x1_) (fun r_ : Int => .int .i64 r_)) : Ref Tryd.prog 70 [Sl.v a0, .int .i64 a1, .int .i64 a2, a3v.v] (slices_insertionSortCmpFunc_api_Route a0 a1 a2 a3) slices_insertionSortCmpFunc_api_Route.out := by
  refine Ref.of (cd := slices_insertionSortCmpFunc_api_Route.B) Tryd.func70 ?_
  show SJ slices_insertionSortCmpFunc_api_Route.cx [.code slices_insertionSortCmpFunc_api_Route.B] [(0, Sl.v a0), (1, .int .i64 a1), (2, .int .i64 a2), (3, a3v.v)] [] (slices_insertionSortCmpFunc_api_Route a0 a1 a2 a3) slices_insertionSortCmpFunc_api_Route.F0
  unfold slices_insertionSortCmpFunc_api_Route
  refine SJ.sr 3 ?_
  refine OJ.go 3 [(8, .int .i64 (IntKind.wrap .i64 (a1 + 1))), (11, .int .i64 (IntKind.wrap .i64 (a1 + 1))), (10, .int .i64 a1)] ?_
  refine OJ.nil ?_
  refine SJ.block (id := 0) ?_
  exact SJ.loop (fun s_ : Int => [(0, Sl.v a0), (1, .int .i64 a1), (2, .int .i64 a2), (3, a3v.v), (8, .int .i64 s_)]) (fun s_ : Int => []) [0, 1, 2, 3, 8] rfl (fun _ _ => rfl) (fun s_ => slices_insertionSortCmpFunc_api_Route.L1_ok a0 a1 a2 a3v a3 h_a3 s_)

/-! ### slices.siftDownCmpFunc[weir/api.Route]: function 85 -/
noncomputable def slices_siftDownCmpFunc_api_Route.B : Code := (Tryd.f85.body).getD .skip
noncomputable def slices_siftDownCmpFunc_api_Route.cx : Fx := ⟨Tryd.prog, 85, Tryd.f85, none⟩
noncomputable def slices_siftDownCmpFunc_api_Route.out (r_ : Unit) : Value := .tuple #[]
noncomputable def slices_siftDownCmpFunc_api_Route.F0 (r_ : Unit) : Reach := .ret (slices_siftDownCmpFunc_api_Route.out r_)
noncomputable def slices_siftDownCmpFunc_api_Route.F1 (a0 : Sl) (a2 : Int) (a3 : Int) (a4v : Any) : (LS Int Unit) → Reach := loopF [.inLoop (c1 (c1 (c2 slices_siftDownCmpFunc_api_Route.B))), .inBlock 0] (fun s_ : Int => [(0, Sl.v a0), (2, .int .i64 a2), (3, .int .i64 a3), (4, a4v.v), (10, .int .i64 s_)]) (fun s_ : Int => []) slices_siftDownCmpFunc_api_Route.F0
noncomputable def slices_siftDownCmpFunc_api_Route.K1 (a0 : Sl) (a3 : Int) (a4 : api_Route → api_Route → M Int) (s1 : Int) (j8 : Int) : M (LS Int Unit) :=
  draw >>= fun _ =>
  idx a0.a a0.len (IntKind.wrap .i64 (a3 + s1)) 36 >>= fun p9 =>
  ld c_api_Route p9 >>= fun x10 =>
  idx a0.a a0.len (IntKind.wrap .i64 (a3 + j8)) 36 >>= fun p11 =>
  ld c_api_Route p11 >>= fun x12 =>
  a4 x10 x12 >>= fun r13 =>
  if ¬ (r13 < 0) then
    pure (LS.done ())
  else
    draw >>= fun _ =>
    idx a0.a a0.len (IntKind.wrap .i64 (a3 + j8)) 36 >>= fun p14 =>
    ld c_api_Route p14 >>= fun x15 =>
    idx a0.a a0.len (IntKind.wrap .i64 (a3 + s1)) 36 >>= fun p16 =>
    ld c_api_Route p16 >>= fun x17 =>
    idx a0.a a0.len (IntKind.wrap .i64 (a3 + s1)) 36 >>= fun p18 =>
    st c_api_Route p18 x15 >>= fun _ =>
    idx a0.a a0.len (IntKind.wrap .i64 (a3 + j8)) 36 >>= fun p19 =>
    st c_api_Route p19 x17 >>= fun _ =>
    pure (LS.next j8)
theorem slices_siftDownCmpFunc_api_Route.K1_ok (a0 : Sl) (a2 : Int) (a3 : Int) (a4v : Any) (a4 : api_Route → api_Route → M Int) (h_a4 : ∀ (x0_ : api_Route), ∀ (x1_ : api_Route), RefV Tryd.prog a4v.v [c_api_Route.val x0_, c_api_Route.val x1_] (a4 x0_ x1_) (fun r_ : Int => .int .i64 r_)) (s1 : Int) (j8 : Int) :
    SJ slices_siftDownCmpFunc_api_Route.cx [.code (c2 (c2 (c2 (c1 (c1 (c1 (c2 slices_siftDownCmpFunc_api_Route.B))))))), .inBlock 1, .inLoop (c1 (c1 (c2 slices_siftDownCmpFunc_api_Route.B))), .inBlock 0] [(0, Sl.v a0), (2, .int .i64 a2), (3, .int .i64 a3), (4, a4v.v), (10, .int .i64 s1), (11, .int .i64 j8)] [] (slices_siftDownCmpFunc_api_Route.K1 a0 a3 a4 s1 j8) (slices_siftDownCmpFunc_api_Route.F1 a0 a2 a3 a4v) := by
  unfold slices_siftDownCmpFunc_api_Route.K1
  refine SJ.seq ?_
  refine SJ.seq ?_
  refine SJ.draw (id := 5) (kd := [0, 0, 0, 0, 0, 0, 1, 0, 0, 0, 0, 0, 1, 2, 0, 0]) (bef := [0, 0, 0, 0, 12, 30, 62, 0, 0, 0, 768, 1920, 3968, 8191, 16383, 32767]) (ord := [0, 1, 2, 3, 4, 5, 6, 7, 8, 9, 10, 11, 12, 13, 14, 15]) mixed ?_
  refine OJ.go 5 [(47, .int .i64 (IntKind.wrap .i64 (a3 + s1))), (46, .int .i64 s1), (45, .int .i64 a3), (44, Sl.v a0), (43, a4v.v)] ?_
  refine OJ.idxS (d := 48) (T := 39) (y := .tmp 44) (j := .tmp 47) (E := 32) (cap := a0.cap) (k := .i64) (fun p9 => ?_)
  refine OJ.ld (d := 49) (y := .tmp 48) (pend2 := fun x10 => [⟨6, 32, p9, c_api_Route.val x10⟩]) Ty32 (fun _ => rfl) (fun x10 => ?_)
  refine OJ.go 4 [(53, .int .i64 (IntKind.wrap .i64 (a3 + j8))), (52, .int .i64 j8), (51, .int .i64 a3), (50, Sl.v a0)] ?_
  refine OJ.idxS (d := 54) (T := 39) (y := .tmp 50) (j := .tmp 53) (E := 32) (cap := a0.cap) (k := .i64) (fun p11 => ?_)
  refine OJ.ld (d := 55) (y := .tmp 54) (pend2 := fun x12 => [⟨12, 32, p11, c_api_Route.val x12⟩, ⟨6, 32, p9, c_api_Route.val x10⟩]) Ty32 (fun _ => rfl) (fun x12 => ?_)
  refine OJ.callV1 (d := 56) (ats := #[32, 32]) (args := [.tmp 49, .tmp 55]) (fo := .tmp 43) (vals := [c_api_Route.val x10, c_api_Route.val x12]) (owed := []) (h_a4 x10 x12) (fun r13 => ?_)
  refine OW.nil ?_
  refine OJ.go 2 [(58, .bool (!(decide (r13 < 0)))), (57, .bool (decide (r13 < 0)))] ?_
  refine OJ.nil ?_
  refine SJ.cond (t := (.tmp 58)) (b := (!(decide (r13 < 0)))) (bnot_iff decide_eq_true_iff) (fun hc20 => ?_) (fun hc20 => ?_)
  · exact SJ.ret rfl (Res.run (ys := []) .nil rfl)
  · refine SJ.skip ?_
    refine SJ.seq ?_
    refine SJ.draw (id := 6) (kd := [0, 0, 0, 0, 0, 0, 0, 0, 0, 0, 0, 0, 0, 1, 0, 0, 0, 0, 0, 1, 0, 2, 0, 2]) (bef := [0, 0, 0, 6, 0, 0, 0, 96, 0, 0, 0, 1536, 3840, 7936, 0, 0, 0, 98304, 245760, 507904, 1048335, 2096911, 4194303, 8388607]) (ord := [0, 1, 2, 3, 4, 5, 6, 7, 8, 9, 10, 11, 12, 13, 14, 15, 16, 17, 18, 19, 20, 21, 22, 23]) mixed ?_
    refine OJ.go 12 [(70, .int .i64 (IntKind.wrap .i64 (a3 + j8))), (69, .int .i64 j8), (68, .int .i64 a3), (67, Sl.v a0), (66, .int .i64 (IntKind.wrap .i64 (a3 + j8))), (65, .int .i64 j8), (64, .int .i64 a3), (63, Sl.v a0), (62, .int .i64 (IntKind.wrap .i64 (a3 + s1))), (61, .int .i64 s1), (60, .int .i64 a3), (59, Sl.v a0)] ?_
    refine OJ.idxS (d := 71) (T := 39) (y := .tmp 67) (j := .tmp 70) (E := 32) (cap := a0.cap) (k := .i64) (fun p14 => ?_)
    refine OJ.ld (d := 72) (y := .tmp 71) (pend2 := fun x15 => [⟨13, 32, p14, c_api_Route.val x15⟩]) Ty32 (fun _ => rfl) (fun x15 => ?_)
    refine OJ.go 4 [(76, .int .i64 (IntKind.wrap .i64 (a3 + s1))), (75, .int .i64 s1), (74, .int .i64 a3), (73, Sl.v a0)] ?_
    refine OJ.idxS (d := 77) (T := 39) (y := .tmp 73) (j := .tmp 76) (E := 32) (cap := a0.cap) (k := .i64) (fun p16 => ?_)
    refine OJ.ld (d := 78) (y := .tmp 77) (pend2 := fun x17 => [⟨19, 32, p16, c_api_Route.val x17⟩, ⟨13, 32, p14, c_api_Route.val x15⟩]) Ty32 (fun _ => rfl) (fun x17 => ?_)
    refine OJ.idxS (d := 79) (T := 39) (y := .tmp 59) (j := .tmp 62) (E := 32) (cap := a0.cap) (k := .i64) (fun p18 => ?_)
    refine OJ.st (y := .tmp 79) (z := .tmp 72) (owed := []) Ty32 ?_
    refine OW.nil ?_
    refine OJ.idxS (d := 80) (T := 39) (y := .tmp 63) (j := .tmp 66) (E := 32) (cap := a0.cap) (k := .i64) (fun p19 => ?_)
    refine OJ.st (y := .tmp 80) (z := .tmp 78) (owed := []) Ty32 ?_
    refine OW.nil ?_
    refine OJ.nil ?_
    refine SJ.rg 2 ?_
    refine OJ.go 2 [(10, .int .i64 j8), (81, .int .i64 j8)] ?_
    refine OJ.nil ?_
    refine SJ.inBlock ?_
    exact SJ.at_ [0, 2, 3, 4, 10] rfl
noncomputable def slices_siftDownCmpFunc_api_Route.L1 (a0 : Sl) (a2 : Int) (a3 : Int) (a4 : api_Route → api_Route → M Int) (s1 : Int) : M (LS Int Unit) :=
  if (IntKind.wrap .i64 ((IntKind.wrap .i64 (2 * s1)) + 1)) ≥ a2 then
    pure (LS.done ())
  else
    draw >>= fun _ =>
    (if (IntKind.wrap .i64 ((IntKind.wrap .i64 ((IntKind.wrap .i64 (2 * s1)) + 1)) + 1)) < a2 then
        idx a0.a a0.len (IntKind.wrap .i64 (a3 + (IntKind.wrap .i64 ((IntKind.wrap .i64 (2 * s1)) + 1)))) 36 >>= fun p2 =>
        ld c_api_Route p2 >>= fun x3 =>
        idx a0.a a0.len (IntKind.wrap .i64 ((IntKind.wrap .i64 (a3 + (IntKind.wrap .i64 ((IntKind.wrap .i64 (2 * s1)) + 1)))) + 1)) 36 >>= fun p4 =>
        ld c_api_Route p4 >>= fun x5 =>
        a4 x3 x5 >>= fun r6 =>
        pure (decide (r6 < 0))
      else
        pure false) >>= fun y7 =>
    if y7 = true then
      slices_siftDownCmpFunc_api_Route.K1 a0 a3 a4 s1 (IntKind.wrap .i64 ((IntKind.wrap .i64 ((IntKind.wrap .i64 (2 * s1)) + 1)) + 1))
    else
      slices_siftDownCmpFunc_api_Route.K1 a0 a3 a4 s1 (IntKind.wrap .i64 ((IntKind.wrap .i64 (2 * s1)) + 1))
theorem slices_siftDownCmpFunc_api_Route.L1_ok (a0 : Sl) (a2 : Int) (a3 : Int) (a4v : Any) (a4 : api_Route → api_Route → M Int) (h_a4 : ∀ (x0_ : api_Route), ∀ (x1_ : api_Route), RefV Tryd.prog a4v.v [c_api_Route.val x0_, c_api_Route.val x1_] (a4 x0_ x1_) (fun r_ : Int => .int .i64 r_)) (s1 : Int) :
    SJ slices_siftDownCmpFunc_api_Route.cx [.code (c1 (c1 (c2 slices_siftDownCmpFunc_api_Route.B))), .inLoop (c1 (c1 (c2 slices_siftDownCmpFunc_api_Route.B))), .inBlock 0] [(0, Sl.v a0), (2, .int .i64 a2), (3, .int .i64 a3), (4, a4v.v), (10, .int .i64 s1)] [] (slices_siftDownCmpFunc_api_Route.L1 a0 a2 a3 a4 s1) (slices_siftDownCmpFunc_api_Route.F1 a0 a2 a3 a4v) := by
  unfold slices_siftDownCmpFunc_api_Route.L1
  refine SJ.block (id := 1) ?_
  refine SJ.sr 4 ?_
  refine OJ.go 4 [(11, .int .i64 (IntKind.wrap .i64 ((IntKind.wrap .i64 (2 * s1)) + 1))), (15, .int .i64 (IntKind.wrap .i64 ((IntKind.wrap .i64 (2 * s1)) + 1))), (14, .int .i64 (IntKind.wrap .i64 (2 * s1))), (13, .int .i64 s1)] ?_
  refine OJ.nil ?_
  refine SJ.seq ?_
  refine SJ.sr 3 ?_
  refine OJ.go 3 [(18, .bool (decide ((IntKind.wrap .i64 ((IntKind.wrap .i64 (2 * s1)) + 1)) ≥ a2))), (17, .int .i64 a2), (16, .int .i64 (IntKind.wrap .i64 ((IntKind.wrap .i64 (2 * s1)) + 1)))] ?_
  refine OJ.nil ?_
  refine SJ.cond (t := (.tmp 18)) (b := decide ((IntKind.wrap .i64 ((IntKind.wrap .i64 (2 * s1)) + 1)) ≥ a2)) decide_eq_true_iff (fun hc22 => ?_) (fun hc22 => ?_)
  · refine SJ.exit (id := 0) (by rfl) ?_
    exact SJ.end_ rfl (Res.run (ys := []) .nil rfl)
  · refine SJ.skip ?_
    refine SJ.seq ?_
    refine SJ.seq ?_
    refine SJ.draw (id := 3) (kd := [0, 0, 0, 0, 0, 0, 0, 0, 0, 0, 0, 1, 0, 0, 0, 0, 0, 0, 1, 2, 0, 0]) (bef := [0, 1, 0, 7, 15, 31, 31, 31, 31, 415, 991, 2015, 31, 31, 31, 24607, 57375, 127007, 258079, 524287, 1048575, 2097151]) (ord := [0, 1, 2, 3, 4, 5, 6, 7, 8, 9, 10, 11, 12, 13, 14, 15, 16, 17, 18, 19, 20, 21]) mixed ?_
    refine OJ.go 5 [(23, .bool (decide ((IntKind.wrap .i64 ((IntKind.wrap .i64 ((IntKind.wrap .i64 (2 * s1)) + 1)) + 1)) < a2))), (22, .bool (decide ((IntKind.wrap .i64 ((IntKind.wrap .i64 ((IntKind.wrap .i64 (2 * s1)) + 1)) + 1)) < a2))), (21, .int .i64 a2), (20, .int .i64 (IntKind.wrap .i64 ((IntKind.wrap .i64 ((IntKind.wrap .i64 (2 * s1)) + 1)) + 1))), (19, .int .i64 (IntKind.wrap .i64 ((IntKind.wrap .i64 (2 * s1)) + 1)))] ?_
    refine OJ.join (b := decide ((IntKind.wrap .i64 ((IntKind.wrap .i64 ((IntKind.wrap .i64 (2 * s1)) + 1)) + 1)) < a2)) [5, 6, 7, 8, 9, 10, 11, 12, 13, 14, 15, 16, 17, 18, 19, 20, 21] [] [0, 2, 3, 4, 10, 11, 40] (fun y7 => [(0, Sl.v a0), (2, .int .i64 a2), (3, .int .i64 a3), (4, a4v.v), (10, .int .i64 s1), (11, .int .i64 (IntKind.wrap .i64 ((IntKind.wrap .i64 (2 * s1)) + 1))), (40, .bool y7)]) [] [11, 18] (t := 23) decide_eq_true_iff (fun hp_ => ?_) (fun hp_ => ?_) (fun _ _ _ _ _ _ h_ => h_) (fun y7 => ?_)
    · refine OJ.go 5 [(28, .int .i64 (IntKind.wrap .i64 (a3 + (IntKind.wrap .i64 ((IntKind.wrap .i64 (2 * s1)) + 1))))), (27, .int .i64 (IntKind.wrap .i64 ((IntKind.wrap .i64 (2 * s1)) + 1))), (26, .int .i64 a3), (25, Sl.v a0), (24, a4v.v)] ?_
      refine OJ.idxS (d := 29) (T := 39) (y := .tmp 25) (j := .tmp 28) (E := 32) (cap := a0.cap) (k := .i64) (fun p2 => ?_)
      refine OJ.ld (d := 30) (y := .tmp 29) (pend2 := fun x3 => [⟨11, 32, p2, c_api_Route.val x3⟩]) Ty32 (fun _ => rfl) (fun x3 => ?_)
      refine OJ.go 5 [(35, .int .i64 (IntKind.wrap .i64 ((IntKind.wrap .i64 (a3 + (IntKind.wrap .i64 ((IntKind.wrap .i64 (2 * s1)) + 1)))) + 1))), (34, .int .i64 (IntKind.wrap .i64 (a3 + (IntKind.wrap .i64 ((IntKind.wrap .i64 (2 * s1)) + 1))))), (33, .int .i64 (IntKind.wrap .i64 ((IntKind.wrap .i64 (2 * s1)) + 1))), (32, .int .i64 a3), (31, Sl.v a0)] ?_
      refine OJ.idxS (d := 36) (T := 39) (y := .tmp 31) (j := .tmp 35) (E := 32) (cap := a0.cap) (k := .i64) (fun p4 => ?_)
      refine OJ.ld (d := 37) (y := .tmp 36) (pend2 := fun x5 => [⟨18, 32, p4, c_api_Route.val x5⟩, ⟨11, 32, p2, c_api_Route.val x3⟩]) Ty32 (fun _ => rfl) (fun x5 => ?_)
      refine OJ.callV1 (d := 38) (ats := #[32, 32]) (args := [.tmp 30, .tmp 37]) (fo := .tmp 24) (vals := [c_api_Route.val x3, c_api_Route.val x5]) (owed := []) (h_a4 x3 x5) (fun r6 => ?_)
      refine OW.nil ?_
      refine OJ.go 2 [(40, .bool (decide (r6 < 0))), (39, .bool (decide (r6 < 0)))] ?_
      exact OJ.nil ⟨(Cov.mem (Cov.drop (List.mem_of_getElem? (i := 1) rfl) (Cov.drop (List.mem_of_getElem? (i := 0) rfl) Cov.nil))), rfl, _, rfl, by kernel_rfl⟩
    · refine OJ.go 17 [(40, .bool false), (39, undef), (38, undef), (37, undef), (36, undef), (35, undef), (34, undef), (33, undef), (32, undef), (31, undef), (30, undef), (29, undef), (28, undef), (27, undef), (26, undef), (25, undef), (24, undef)] ?_
      exact OJ.nil ⟨(Cov.mem Cov.nil), rfl, _, rfl, by kernel_rfl⟩
    · refine OJ.nil ?_
      refine SJ.cond (t := (.tmp 40)) (b := y7) Iff.rfl (fun hc21 => ?_) (fun hc21 => ?_)
      · refine SJ.rg 3 ?_
        refine OJ.go 3 [(11, .int .i64 (IntKind.wrap .i64 ((IntKind.wrap .i64 ((IntKind.wrap .i64 (2 * s1)) + 1)) + 1))), (42, .int .i64 (IntKind.wrap .i64 ((IntKind.wrap .i64 ((IntKind.wrap .i64 (2 * s1)) + 1)) + 1))), (41, .int .i64 (IntKind.wrap .i64 ((IntKind.wrap .i64 (2 * s1)) + 1)))] ?_
        refine OJ.nil ?_
        refine SJ.less [0, 2, 3, 4, 10, 11] (m' := [(0, Sl.v a0), (2, .int .i64 a2), (3, .int .i64 a3), (4, a4v.v), (10, .int .i64 s1), (11, .int .i64 (IntKind.wrap .i64 ((IntKind.wrap .i64 ((IntKind.wrap .i64 (2 * s1)) + 1)) + 1)))]) ?_
        exact slices_siftDownCmpFunc_api_Route.K1_ok a0 a2 a3 a4v a4 h_a4 s1 (IntKind.wrap .i64 ((IntKind.wrap .i64 ((IntKind.wrap .i64 (2 * s1)) + 1)) + 1))
      · refine SJ.skip ?_
        refine SJ.less [0, 2, 3, 4, 10, 11] (m' := [(0, Sl.v a0), (2, .int .i64 a2), (3, .int .i64 a3), (4, a4v.v), (10, .int .i64 s1), (11, .int .i64 (IntKind.wrap .i64 ((IntKind.wrap .i64 (2 * s1)) + 1)))]) ?_
        exact slices_siftDownCmpFunc_api_Route.K1_ok a0 a2 a3 a4v a4 h_a4 s1 (IntKind.wrap .i64 ((IntKind.wrap .i64 (2 * s1)) + 1))
noncomputable def slices_siftDownCmpFunc_api_Route (a0 : Sl) (a1 : Int) (a2 : Int) (a3 : Int) (a4 : api_Route → api_Route → M Int) : M Unit :=
  loopM (fun s_ : Int => slices_siftDownCmpFunc_api_Route.L1 a0 a2 a3 a4 s_) a1
theorem slices_siftDownCmpFunc_api_Route_ok (a0 : Sl) (a1 : Int) (a2 : Int) (a3 : Int) (a4v : Any) (a4 : api_Route → api_Route → M Int) (h_a4 : ∀ (x0_ : api_Route), ∀ (x1_ : api_Route), RefV Tryd.prog a4v.v [c_api_Route.val x0_, c_api_Route.val x1_] (a4 x0_ x1_) (fun r_ : Int => .int .i64 r_)) : Ref Tryd.prog 85 [Sl.v a0, .int .i64 a1, .int .i64 a2, .int .i64 a3, a4v.v] (slices_siftDownCmpFunc_api_Route a0 a1 a2 a3 a4) slices_siftDownCmpFunc_api_Route.out := by
  refine Ref.of (cd := slices_siftDownCmpFunc_api_Route.B) Tryd.func85 ?_
  show SJ slices_siftDownCmpFunc_api_Route.cx [.code slices_siftDownCmpFunc_api_Route.B] [(0, Sl.v a0), (1, .int .i64 a1), (2, .int .i64 a2), (3, .int .i64 a3), (4, a4v.v)] [] (slices_siftDownCmpFunc_api_Route a0 a1 a2 a3 a4) slices_siftDownCmpFunc_api_Route.F0
  unfold slices_siftDownCmpFunc_api_Route
  refine SJ.sr 2 ?_
  refine OJ.go 2 [(10, .int .i64 a1), (12, .int .i64 a1)] ?_
  refine OJ.nil ?_
  refine SJ.block (id := 0) ?_
  exact SJ.loop (fun s_ : Int => [(0, Sl.v a0), (2, .int .i64 a2), (3, .int .i64 a3), (4, a4v.v), (10, .int .i64 s_)]) (fun s_ : Int => []) [0, 2, 3, 4, 10] rfl (fun _ _ => rfl) (fun s_ => slices_siftDownCmpFunc_api_Route.L1_ok a0 a2 a3 a4v a4 h_a4 s_)

/-! ### slices.heapSortCmpFunc[weir/api.Route]: function 71 -/
noncomputable def slices_heapSortCmpFunc_api_Route.B : Code := (Tryd.f71.body).getD .skip
noncomputable def slices_heapSortCmpFunc_api_Route.cx : Fx := ⟨Tryd.prog, 71, Tryd.f71, none⟩
noncomputable def slices_heapSortCmpFunc_api_Route.out (r_ : Unit) : Value := .tuple #[]
noncomputable def slices_heapSortCmpFunc_api_Route.F0 (r_ : Unit) : Reach := .ret (slices_heapSortCmpFunc_api_Route.out r_)
noncomputable def slices_heapSortCmpFunc_api_Route.F1 (a0 : Sl) (a1 : Int) (a3v : Any) : (LS Int Unit) → Reach := loopF [.inLoop (c1 (c1 (c2 (c2 (c2 (c2 (c2 slices_heapSortCmpFunc_api_Route.B))))))), .inBlock 2] (fun s_ : Int => [(0, Sl.v a0), (3, a3v.v), (8, .int .i64 a1), (9, .int .i64 0), (12, .int .i64 s_)]) (fun s_ : Int => []) slices_heapSortCmpFunc_api_Route.F0
noncomputable def slices_heapSortCmpFunc_api_Route.L1 (a0 : Sl) (a1 : Int) (a3 : api_Route → api_Route → M Int) (s4 : Int) : M (LS Int Unit) :=
  if s4 ≥ 0 then
    draw >>= fun _ =>
    idx a0.a a0.len (IntKind.wrap .i64 (a1 + s4)) 36 >>= fun p5 =>
    ld c_api_Route p5 >>= fun x6 =>
    idx a0.a a0.len a1 36 >>= fun p7 =>
    ld c_api_Route p7 >>= fun x8 =>
    idx a0.a a0.len a1 36 >>= fun p9 =>
    st c_api_Route p9 x6 >>= fun _ =>
    idx a0.a a0.len (IntKind.wrap .i64 (a1 + s4)) 36 >>= fun p10 =>
    st c_api_Route p10 x8 >>= fun _ =>
    slices_siftDownCmpFunc_api_Route a0 0 s4 a1 a3 >>= fun r11 =>
    pure (LS.next (IntKind.wrap .i64 (s4 - 1)))
  else
    pure (LS.done ())
theorem slices_heapSortCmpFunc_api_Route.L1_ok (a0 : Sl) (a1 : Int) (a3v : Any) (a3 : api_Route → api_Route → M Int) (h_a3 : ∀ (x0_ : api_Route), ∀ (x1_ : api_Route), RefV Tryd.prog a3v.v [c_api_Route.val x0_, c_api_Route.val x1_] (a3 x0_ x1_) (fun r_ : Int => .int .i64 r_)) (s4 : Int) :
    SJ slices_heapSortCmpFunc_api_Route.cx [.code (c1 (c1 (c2 (c2 (c2 (c2 (c2 slices_heapSortCmpFunc_api_Route.B))))))), .inLoop (c1 (c1 (c2 (c2 (c2 (c2 (c2 slices_heapSortCmpFunc_api_Route.B))))))), .inBlock 2] [(0, Sl.v a0), (3, a3v.v), (8, .int .i64 a1), (9, .int .i64 0), (12, .int .i64 s4)] [] (slices_heapSortCmpFunc_api_Route.L1 a0 a1 a3 s4) (slices_heapSortCmpFunc_api_Route.F1 a0 a1 a3v) := by
  unfold slices_heapSortCmpFunc_api_Route.L1
  refine SJ.seq ?_
  refine SJ.sr 2 ?_
  refine OJ.go 2 [(33, .bool (decide (s4 ≥ 0))), (32, .int .i64 s4)] ?_
  refine OJ.nil ?_
  refine SJ.cond (t := (.tmp 33)) (b := decide (s4 ≥ 0)) decide_eq_true_iff (fun hc12 => ?_) (fun hc12 => ?_)
  · refine SJ.skip ?_
    refine SJ.seq ?_
    refine SJ.block (id := 3) ?_
    refine SJ.seq ?_
    refine SJ.draw (id := 10) (kd := [0, 0, 0, 0, 0, 0, 0, 0, 0, 0, 0, 1, 0, 0, 0, 1, 0, 2, 0, 2]) (bef := [0, 0, 0, 0, 0, 24, 0, 0, 0, 384, 960, 1984, 0, 0, 12288, 28672, 65475, 131011, 262143, 524287]) (ord := [0, 1, 2, 3, 4, 5, 6, 7, 8, 9, 10, 11, 12, 13, 14, 15, 16, 17, 18, 19]) mixed ?_
    refine OJ.go 10 [(45, .int .i64 (IntKind.wrap .i64 (a1 + s4))), (44, .int .i64 s4), (43, .int .i64 a1), (42, Sl.v a0), (41, .int .i64 (IntKind.wrap .i64 (a1 + s4))), (40, .int .i64 s4), (39, .int .i64 a1), (38, Sl.v a0), (37, .int .i64 a1), (36, Sl.v a0)] ?_
    refine OJ.idxS (d := 46) (T := 39) (y := .tmp 42) (j := .tmp 45) (E := 32) (cap := a0.cap) (k := .i64) (fun p5 => ?_)
    refine OJ.ld (d := 47) (y := .tmp 46) (pend2 := fun x6 => [⟨11, 32, p5, c_api_Route.val x6⟩]) Ty32 (fun _ => rfl) (fun x6 => ?_)
    refine OJ.go 2 [(49, .int .i64 a1), (48, Sl.v a0)] ?_
    refine OJ.idxS (d := 50) (T := 39) (y := .tmp 48) (j := .tmp 49) (E := 32) (cap := a0.cap) (k := .i64) (fun p7 => ?_)
    refine OJ.ld (d := 51) (y := .tmp 50) (pend2 := fun x8 => [⟨15, 32, p7, c_api_Route.val x8⟩, ⟨11, 32, p5, c_api_Route.val x6⟩]) Ty32 (fun _ => rfl) (fun x8 => ?_)
    refine OJ.idxS (d := 52) (T := 39) (y := .tmp 36) (j := .tmp 37) (E := 32) (cap := a0.cap) (k := .i64) (fun p9 => ?_)
    refine OJ.st (y := .tmp 52) (z := .tmp 47) (owed := []) Ty32 ?_
    refine OW.nil ?_
    refine OJ.idxS (d := 53) (T := 39) (y := .tmp 38) (j := .tmp 41) (E := 32) (cap := a0.cap) (k := .i64) (fun p10 => ?_)
    refine OJ.st (y := .tmp 53) (z := .tmp 51) (owed := []) Ty32 ?_
    refine OW.nil ?_
    refine OJ.nil ?_
    refine SJ.rg 6 ?_
    refine OJ.go 5 [(58, a3v.v), (57, .int .i64 a1), (56, .int .i64 s4), (55, .int .i64 0), (54, Sl.v a0)] ?_
    refine OJ.call (d := 59) (g := 85) (ats := #[39, 3, 3, 3, 97]) (args := [.tmp 54, .tmp 55, .tmp 56, .tmp 57, .tmp 58]) (owed := []) F85 (slices_siftDownCmpFunc_api_Route_ok a0 0 s4 a1 a3v a3 h_a3) (fun r11 => ?_)
    refine OW.nil ?_
    refine OJ.nil ?_
    refine SJ.inBlock ?_
    refine SJ.rg 3 ?_
    refine OJ.go 3 [(12, .int .i64 (IntKind.wrap .i64 (s4 - 1))), (35, .int .i64 (IntKind.wrap .i64 (s4 - 1))), (34, .int .i64 s4)] ?_
    refine OJ.nil ?_
    exact SJ.at_ [0, 3, 8, 9, 12] rfl
  · refine SJ.exit (id := 2) (by rfl) ?_
    exact SJ.end_ rfl (Res.run (ys := []) .nil rfl)
noncomputable def slices_heapSortCmpFunc_api_Route.K1 (a0 : Sl) (a1 : Int) (a2 : Int) (a3 : api_Route → api_Route → M Int) : M Unit :=
  loopM (fun s_ : Int => slices_heapSortCmpFunc_api_Route.L1 a0 a1 a3 s_) (IntKind.wrap .i64 ((IntKind.wrap .i64 (a2 - a1)) - 1))
theorem slices_heapSortCmpFunc_api_Route.K1_ok (a0 : Sl) (a1 : Int) (a2 : Int) (a3v : Any) (a3 : api_Route → api_Route → M Int) (h_a3 : ∀ (x0_ : api_Route), ∀ (x1_ : api_Route), RefV Tryd.prog a3v.v [c_api_Route.val x0_, c_api_Route.val x1_] (a3 x0_ x1_) (fun r_ : Int => .int .i64 r_)) :
    SJ slices_heapSortCmpFunc_api_Route.cx [.code (c2 (c2 (c2 (c2 slices_heapSortCmpFunc_api_Route.B))))] [(0, Sl.v a0), (3, a3v.v), (8, .int .i64 a1), (9, .int .i64 0), (10, .int .i64 (IntKind.wrap .i64 (a2 - a1)))] [] (slices_heapSortCmpFunc_api_Route.K1 a0 a1 a2 a3) slices_heapSortCmpFunc_api_Route.F0 := by
  unfold slices_heapSortCmpFunc_api_Route.K1
  refine SJ.sr 3 ?_
  refine OJ.go 3 [(12, .int .i64 (IntKind.wrap .i64 ((IntKind.wrap .i64 (a2 - a1)) - 1))), (31, .int .i64 (IntKind.wrap .i64 ((IntKind.wrap .i64 (a2 - a1)) - 1))), (30, .int .i64 (IntKind.wrap .i64 (a2 - a1)))] ?_
  refine OJ.nil ?_
  refine SJ.block (id := 2) ?_
  exact SJ.loop (fun s_ : Int => [(0, Sl.v a0), (3, a3v.v), (8, .int .i64 a1), (9, .int .i64 0), (12, .int .i64 s_)]) (fun s_ : Int => []) [0, 3, 8, 9, 12] rfl (fun _ _ => rfl) (fun s_ => slices_heapSortCmpFunc_api_Route.L1_ok a0 a1 a3v a3 h_a3 s_)
noncomputable def slices_heapSortCmpFunc_api_Route.F2 (a0 : Sl) (a1 : Int) (a2 : Int) (a3v : Any) : (LS Int Unit) → Reach := loopF [.inLoop (c1 (c1 (c2 (c1 (c2 (c2 (c2 slices_heapSortCmpFunc_api_Route.B))))))), .inBlock 0, .code (c2 (c2 (c2 (c2 slices_heapSortCmpFunc_api_Route.B))))] (fun s_ : Int => [(0, Sl.v a0), (3, a3v.v), (8, .int .i64 a1), (9, .int .i64 0), (10, .int .i64 (IntKind.wrap .i64 (a2 - a1))), (11, .int .i64 s_)]) (fun s_ : Int => []) slices_heapSortCmpFunc_api_Route.F0
noncomputable def slices_heapSortCmpFunc_api_Route.L2 (a0 : Sl) (a1 : Int) (a2 : Int) (a3 : api_Route → api_Route → M Int) (s1 : Int) : M (LS Int Unit) :=
  if s1 ≥ 0 then
    slices_siftDownCmpFunc_api_Route a0 s1 (IntKind.wrap .i64 (a2 - a1)) a1 a3 >>= fun r13 =>
    pure (LS.next (IntKind.wrap .i64 (s1 - 1)))
  else
    (slices_heapSortCmpFunc_api_Route.K1 a0 a1 a2 a3) >>= fun b => pure (LS.done b)
theorem slices_heapSortCmpFunc_api_Route.L2_ok (a0 : Sl) (a1 : Int) (a2 : Int) (a3v : Any) (a3 : api_Route → api_Route → M Int) (h_a3 : ∀ (x0_ : api_Route), ∀ (x1_ : api_Route), RefV Tryd.prog a3v.v [c_api_Route.val x0_, c_api_Route.val x1_] (a3 x0_ x1_) (fun r_ : Int => .int .i64 r_)) (s1 : Int) :
    SJ slices_heapSortCmpFunc_api_Route.cx [.code (c1 (c1 (c2 (c1 (c2 (c2 (c2 slices_heapSortCmpFunc_api_Route.B))))))), .inLoop (c1 (c1 (c2 (c1 (c2 (c2 (c2 slices_heapSortCmpFunc_api_Route.B))))))), .inBlock 0, .code (c2 (c2 (c2 (c2 slices_heapSortCmpFunc_api_Route.B))))] [(0, Sl.v a0), (3, a3v.v), (8, .int .i64 a1), (9, .int .i64 0), (10, .int .i64 (IntKind.wrap .i64 (a2 - a1))), (11, .int .i64 s1)] [] (slices_heapSortCmpFunc_api_Route.L2 a0 a1 a2 a3 s1) (slices_heapSortCmpFunc_api_Route.F2 a0 a1 a2 a3v) := by
  unfold slices_heapSortCmpFunc_api_Route.L2
  refine SJ.seq ?_
  refine SJ.sr 2 ?_
  refine OJ.go 2 [(21, .bool (decide (s1 ≥ 0))), (20, .int .i64 s1)] ?_
  refine OJ.nil ?_
  refine SJ.cond (t := (.tmp 21)) (b := decide (s1 ≥ 0)) decide_eq_true_iff (fun hc14 => ?_) (fun hc14 => ?_)
  · refine SJ.skip ?_
    refine SJ.seq ?_
    refine SJ.block (id := 1) ?_
    refine SJ.rg 6 ?_
    refine OJ.go 5 [(28, a3v.v), (27, .int .i64 a1), (26, .int .i64 (IntKind.wrap .i64 (a2 - a1))), (25, .int .i64 s1), (24, Sl.v a0)] ?_
    refine OJ.call (d := 29) (g := 85) (ats := #[39, 3, 3, 3, 97]) (args := [.tmp 24, .tmp 25, .tmp 26, .tmp 27, .tmp 28]) (owed := []) F85 (slices_siftDownCmpFunc_api_Route_ok a0 s1 (IntKind.wrap .i64 (a2 - a1)) a1 a3v a3 h_a3) (fun r13 => ?_)
    refine OW.nil ?_
    refine OJ.nil ?_
    refine SJ.inBlock ?_
    refine SJ.rg 3 ?_
    refine OJ.go 3 [(11, .int .i64 (IntKind.wrap .i64 (s1 - 1))), (23, .int .i64 (IntKind.wrap .i64 (s1 - 1))), (22, .int .i64 s1)] ?_
    refine OJ.nil ?_
    exact SJ.at_ [0, 3, 8, 9, 10, 11] rfl
  · refine SJ.exit (id := 0) (by rfl) ?_
    refine SJ.less [0, 3, 8, 9, 10] (m' := [(0, Sl.v a0), (3, a3v.v), (8, .int .i64 a1), (9, .int .i64 0), (10, .int .i64 (IntKind.wrap .i64 (a2 - a1)))]) ?_
    refine SJ.done ?_
    exact slices_heapSortCmpFunc_api_Route.K1_ok a0 a1 a2 a3v a3 h_a3
noncomputable def slices_heapSortCmpFunc_api_Route (a0 : Sl) (a1 : Int) (a2 : Int) (a3 : api_Route → api_Route → M Int) : M Unit :=
  loopM (fun s_ : Int => slices_heapSortCmpFunc_api_Route.L2 a0 a1 a2 a3 s_) (IntKind.wrap .i64 (Int.tdiv (IntKind.wrap .i64 ((IntKind.wrap .i64 (a2 - a1)) - 1)) 2))
theorem slices_heapSortCmpFunc_api_Route_ok (a0 : Sl) (a1 : Int) (a2 : Int) (a3v : Any) (a3 : api_Route → api_Route → M Int) (h_a3 : ∀ (x0_ : api_Route), ∀ (x1_ : api_Route), RefV Tryd.prog a3v.v [c_api_Route.val x0_, c_api_Route.val x1_] (a3 x0_ x1_) (fun r_ : Int => .int .i64 r_)) : Ref Tryd.prog 71 [Sl.v a0, .int .i64 a1, .int .i64 a2, a3v.v] (slices_heapSortCmpFunc_api_Route a0 a1 a2 a3) slices_heapSortCmpFunc_api_Route.out := by
  refine Ref.of (cd := slices_heapSortCmpFunc_api_Route.B) Tryd.func71 ?_
  show SJ slices_heapSortCmpFunc_api_Route.cx [.code slices_heapSortCmpFunc_api_Route.B] [(0, Sl.v a0), (1, .int .i64 a1), (2, .int .i64 a2), (3, a3v.v)] [] (slices_heapSortCmpFunc_api_Route a0 a1 a2 a3) slices_heapSortCmpFunc_api_Route.F0
  unfold slices_heapSortCmpFunc_api_Route
  refine SJ.sr 2 ?_
  refine OJ.go 2 [(8, .int .i64 a1), (13, .int .i64 a1)] ?_
  refine OJ.nil ?_
  refine SJ.sr 1 ?_
  refine OJ.go 1 [(9, .int .i64 0)] ?_
  refine OJ.nil ?_
  refine SJ.sr 4 ?_
  refine OJ.go 4 [(10, .int .i64 (IntKind.wrap .i64 (a2 - a1))), (16, .int .i64 (IntKind.wrap .i64 (a2 - a1))), (15, .int .i64 a1), (14, .int .i64 a2)] ?_
  refine OJ.nil ?_
  refine SJ.seq ?_
  refine SJ.sr 4 ?_
  refine OJ.go 4 [(11, .int .i64 (IntKind.wrap .i64 (Int.tdiv (IntKind.wrap .i64 ((IntKind.wrap .i64 (a2 - a1)) - 1)) 2))), (19, .int .i64 (IntKind.wrap .i64 (Int.tdiv (IntKind.wrap .i64 ((IntKind.wrap .i64 (a2 - a1)) - 1)) 2))), (18, .int .i64 (IntKind.wrap .i64 ((IntKind.wrap .i64 (a2 - a1)) - 1))), (17, .int .i64 (IntKind.wrap .i64 (a2 - a1)))] ?_
  refine OJ.nil ?_
  refine SJ.block (id := 0) ?_
  exact SJ.loop (fun s_ : Int => [(0, Sl.v a0), (3, a3v.v), (8, .int .i64 a1), (9, .int .i64 0), (10, .int .i64 (IntKind.wrap .i64 (a2 - a1))), (11, .int .i64 s_)]) (fun s_ : Int => []) [0, 3, 8, 9, 10, 11] rfl (fun _ _ => rfl) (fun s_ => slices_heapSortCmpFunc_api_Route.L2_ok a0 a1 a2 a3v a3 h_a3 s_)

/-! ### slices.nextPowerOfTwo: function 86 -/
noncomputable def slices_nextPowerOfTwo.B : Code := (Tryd.f86.body).getD .skip
noncomputable def slices_nextPowerOfTwo.cx : Fx := ⟨Tryd.prog, 86, Tryd.f86, none⟩
noncomputable def slices_nextPowerOfTwo.out (r_ : Int) : Value := .int .u64 r_
noncomputable def slices_nextPowerOfTwo.F0 (r_ : Int) : Reach := .ret (slices_nextPowerOfTwo.out r_)
noncomputable def slices_nextPowerOfTwo (a0 : Int) : M Int :=
  bits_Len (IntKind.wrap .u64 a0) >>= fun r1 =>
  chk (0 ≤ r1) >>= fun _ =>
  pure (IntKind.wrap .u64 (1 * 2 ^ min (Int.toNat r1) 64))
theorem slices_nextPowerOfTwo_ok (a0 : Int) : Ref Tryd.prog 86 [.int .i64 a0] (slices_nextPowerOfTwo a0) slices_nextPowerOfTwo.out := by
  refine Ref.of (cd := slices_nextPowerOfTwo.B) Tryd.func86 ?_
  show SJ slices_nextPowerOfTwo.cx [.code slices_nextPowerOfTwo.B] [(0, .int .i64 a0)] [] (slices_nextPowerOfTwo a0) slices_nextPowerOfTwo.F0
  unfold slices_nextPowerOfTwo
  refine SJ.sr 1 ?_
  refine OJ.go 1 [(2, .int .u64 0)] ?_
  refine OJ.nil ?_
  refine SJ.sr 5 ?_
  refine OJ.go 2 [(4, .int .u64 (IntKind.wrap .u64 a0)), (3, .int .i64 a0)] ?_
  refine OJ.call (d := 5) (g := 66) (ats := #[108]) (args := [.tmp 4]) (owed := []) F66 (bits_Len_ok (IntKind.wrap .u64 a0)) (fun r1 => ?_)
  refine OW.nil ?_
  refine OJ.shl (d := 6) (T := 108) (yT := 3) (y := .const (.int .u64 1)) (z := .tmp 5) (k := .u64) (yk := .i64) (p := 1) (q := r1) (fun hq2 => ?_)
  refine OJ.go 1 [(2, .int .u64 (IntKind.wrap .u64 (1 * 2 ^ min (Int.toNat r1) 64)))] ?_
  refine OJ.nil ?_
  exact SJ.ret rfl (Res.run (ys := [.int .u64 (IntKind.wrap .u64 (1 * 2 ^ min (Int.toNat r1) 64))]) (.tmp (by kernel_rfl) .nil) rfl)

/-! ### (*slices.xorshift).Next: function 87 -/
noncomputable def slices_xorshift_Next.B : Code := (Tryd.f87.body).getD .skip
noncomputable def slices_xorshift_Next.cx : Fx := ⟨Tryd.prog, 87, Tryd.f87, none⟩
noncomputable def slices_xorshift_Next.out (r_ : Int) : Value := .int .u64 r_
noncomputable def slices_xorshift_Next.F0 (r_ : Int) : Reach := .ret (slices_xorshift_Next.out r_)
noncomputable def slices_xorshift_Next (a0 : (Option Addr)) : M Int :=
  draw >>= fun _ =>
  nilck a0 >>= fun p1 =>
  ld (cI .u64) p1 >>= fun x2 =>
  nilck a0 >>= fun p3 =>
  ld (cI .u64) p3 >>= fun x4 =>
  nilck a0 >>= fun p5 =>
  st (cI .u64) p5 (bxor .u64 x2 (IntKind.wrap .u64 (x4 * 2 ^ 13))) >>= fun _ =>
  draw >>= fun _ =>
  nilck a0 >>= fun p6 =>
  ld (cI .u64) p6 >>= fun x7 =>
  nilck a0 >>= fun p8 =>
  ld (cI .u64) p8 >>= fun x9 =>
  nilck a0 >>= fun p10 =>
  st (cI .u64) p10 (bxor .u64 x7 (Int.fdiv x9 (2 ^ 7))) >>= fun _ =>
  draw >>= fun _ =>
  nilck a0 >>= fun p11 =>
  ld (cI .u64) p11 >>= fun x12 =>
  nilck a0 >>= fun p13 =>
  ld (cI .u64) p13 >>= fun x14 =>
  nilck a0 >>= fun p15 =>
  st (cI .u64) p15 (bxor .u64 x12 (IntKind.wrap .u64 (x14 * 2 ^ 17))) >>= fun _ =>
  nilck a0 >>= fun p16 =>
  ld (cI .u64) p16 >>= fun x17 =>
  pure x17
theorem slices_xorshift_Next_ok (a0 : (Option Addr)) : Ref Tryd.prog 87 [.pointer a0] (slices_xorshift_Next a0) slices_xorshift_Next.out := by
  refine Ref.of (cd := slices_xorshift_Next.B) Tryd.func87 ?_
  show SJ slices_xorshift_Next.cx [.code slices_xorshift_Next.B] [(0, .pointer a0)] [] (slices_xorshift_Next a0) slices_xorshift_Next.F0
  unfold slices_xorshift_Next
  refine SJ.sr 1 ?_
  refine OJ.go 1 [(2, .int .u64 0)] ?_
  refine OJ.nil ?_
  refine SJ.seq ?_
  refine SJ.draw (id := 1) (kd := [0, 0, 1, 0, 0, 1, 0, 0, 0, 2]) (bef := [0, 1, 3, 0, 8, 24, 56, 127, 255, 511]) (ord := [0, 1, 2, 3, 4, 5, 6, 7, 8, 9]) mixed ?_
  refine OJ.go 1 [(3, .pointer a0)] ?_
  refine OJ.nilck (d := 4) (y := .tmp 3) (fun p1 => ?_)
  refine OJ.ld (d := 5) (y := .tmp 4) (pend2 := fun x2 => [⟨2, 141, p1, (cI .u64).val x2⟩]) Ty141 (fun _ => rfl) (fun x2 => ?_)
  refine OJ.go 1 [(6, .pointer a0)] ?_
  refine OJ.nilck (d := 7) (y := .tmp 6) (fun p3 => ?_)
  refine OJ.ld (d := 8) (y := .tmp 7) (pend2 := fun x4 => [⟨5, 141, p3, (cI .u64).val x4⟩, ⟨2, 141, p1, (cI .u64).val x2⟩]) Ty141 (fun _ => rfl) (fun x4 => ?_)
  refine OJ.go 2 [(10, .int .u64 (bxor .u64 x2 (IntKind.wrap .u64 (x4 * 2 ^ 13)))), (9, .int .u64 (IntKind.wrap .u64 (x4 * 2 ^ 13)))] ?_
  refine OJ.nilck (d := 11) (y := .tmp 3) (fun p5 => ?_)
  refine OJ.st (y := .tmp 11) (z := .tmp 10) (owed := []) Ty141 ?_
  refine OW.nil ?_
  refine OJ.nil ?_
  refine SJ.seq ?_
  refine SJ.draw (id := 2) (kd := [0, 0, 1, 0, 0, 1, 0, 0, 0, 2]) (bef := [0, 1, 3, 0, 8, 24, 56, 127, 255, 511]) (ord := [0, 1, 2, 3, 4, 5, 6, 7, 8, 9]) mixed ?_
  refine OJ.go 1 [(12, .pointer a0)] ?_
  refine OJ.nilck (d := 13) (y := .tmp 12) (fun p6 => ?_)
  refine OJ.ld (d := 14) (y := .tmp 13) (pend2 := fun x7 => [⟨2, 141, p6, (cI .u64).val x7⟩]) Ty141 (fun _ => rfl) (fun x7 => ?_)
  refine OJ.go 1 [(15, .pointer a0)] ?_
  refine OJ.nilck (d := 16) (y := .tmp 15) (fun p8 => ?_)
  refine OJ.ld (d := 17) (y := .tmp 16) (pend2 := fun x9 => [⟨5, 141, p8, (cI .u64).val x9⟩, ⟨2, 141, p6, (cI .u64).val x7⟩]) Ty141 (fun _ => rfl) (fun x9 => ?_)
  refine OJ.go 2 [(19, .int .u64 (bxor .u64 x7 (Int.fdiv x9 (2 ^ 7)))), (18, .int .u64 (Int.fdiv x9 (2 ^ 7)))] ?_
  refine OJ.nilck (d := 20) (y := .tmp 12) (fun p10 => ?_)
  refine OJ.st (y := .tmp 20) (z := .tmp 19) (owed := []) Ty141 ?_
  refine OW.nil ?_
  refine OJ.nil ?_
  refine SJ.seq ?_
  refine SJ.draw (id := 3) (kd := [0, 0, 1, 0, 0, 1, 0, 0, 0, 2]) (bef := [0, 1, 3, 0, 8, 24, 56, 127, 255, 511]) (ord := [0, 1, 2, 3, 4, 5, 6, 7, 8, 9]) mixed ?_
  refine OJ.go 1 [(21, .pointer a0)] ?_
  refine OJ.nilck (d := 22) (y := .tmp 21) (fun p11 => ?_)
  refine OJ.ld (d := 23) (y := .tmp 22) (pend2 := fun x12 => [⟨2, 141, p11, (cI .u64).val x12⟩]) Ty141 (fun _ => rfl) (fun x12 => ?_)
  refine OJ.go 1 [(24, .pointer a0)] ?_
  refine OJ.nilck (d := 25) (y := .tmp 24) (fun p13 => ?_)
  refine OJ.ld (d := 26) (y := .tmp 25) (pend2 := fun x14 => [⟨5, 141, p13, (cI .u64).val x14⟩, ⟨2, 141, p11, (cI .u64).val x12⟩]) Ty141 (fun _ => rfl) (fun x14 => ?_)
  refine OJ.go 2 [(28, .int .u64 (bxor .u64 x12 (IntKind.wrap .u64 (x14 * 2 ^ 17)))), (27, .int .u64 (IntKind.wrap .u64 (x14 * 2 ^ 17)))] ?_
  refine OJ.nilck (d := 29) (y := .tmp 21) (fun p15 => ?_)
  refine OJ.st (y := .tmp 29) (z := .tmp 28) (owed := []) Ty141 ?_
  refine OW.nil ?_
  refine OJ.nil ?_
  refine SJ.sr 4 ?_
  refine OJ.go 1 [(30, .pointer a0)] ?_
  refine OJ.nilck (d := 31) (y := .tmp 30) (fun p16 => ?_)
  refine OJ.ld (d := 32) (y := .tmp 31) (pend2 := fun x17 => []) Ty141 (fun _ => rfl) (fun x17 => ?_)
  refine OJ.go 1 [(2, .int .u64 x17)] ?_
  refine OJ.nil ?_
  exact SJ.ret rfl (Res.run (ys := [.int .u64 x17]) (.tmp (by kernel_rfl) .nil) rfl)

/-! ### slices.breakPatternsCmpFunc[weir/api.Route]: function 72 -/
noncomputable def slices_breakPatternsCmpFunc_api_Route.B : Code := (Tryd.f72.body).getD .skip
noncomputable def slices_breakPatternsCmpFunc_api_Route.cx : Fx := ⟨Tryd.prog, 72, Tryd.f72, none⟩
noncomputable def slices_breakPatternsCmpFunc_api_Route.out (r_ : Unit) : Value := .tuple #[]
noncomputable def slices_breakPatternsCmpFunc_api_Route.F0 (r_ : Unit) : Reach := .ret (slices_breakPatternsCmpFunc_api_Route.out r_)
noncomputable def slices_breakPatternsCmpFunc_api_Route.F1 (a0 : Sl) (a1 : Int) (a2 : Int) (b24 : Nat) (r25 : Int) : (LS Int Unit) → Reach := loopF [.inLoop (c1 (c1 (c2 (c2 (c2 (c1 (c2 (c2 slices_breakPatternsCmpFunc_api_Route.B)))))))), .inBlock 0] (fun s_ : Int => [(0, Sl.v a0), (1, .int .i64 a1), (8, .int .i64 (IntKind.wrap .i64 (a2 - a1))), (9, .pointer (some (pt b24 0))), (10, .int .u64 r25), (11, .int .i64 s_)]) (fun s_ : Int => []) slices_breakPatternsCmpFunc_api_Route.F0
noncomputable def slices_breakPatternsCmpFunc_api_Route.K1 (a0 : Sl) (a1 : Int) (s26 : Int) (j38 : Int) : M (LS Int Unit) :=
  draw >>= fun _ =>
  idx a0.a a0.len (IntKind.wrap .i64 (a1 + j38)) 36 >>= fun p39 =>
  ld c_api_Route p39 >>= fun x40 =>
  idx a0.a a0.len s26 36 >>= fun p41 =>
  ld c_api_Route p41 >>= fun x42 =>
  idx a0.a a0.len s26 36 >>= fun p43 =>
  st c_api_Route p43 x40 >>= fun _ =>
  idx a0.a a0.len (IntKind.wrap .i64 (a1 + j38)) 36 >>= fun p44 =>
  st c_api_Route p44 x42 >>= fun _ =>
  pure (LS.next (IntKind.wrap .i64 (s26 + 1)))
theorem slices_breakPatternsCmpFunc_api_Route.K1_ok (a0 : Sl) (a1 : Int) (a2 : Int) (b24 : Nat) (r25 : Int) (s26 : Int) (j38 : Int) :
    SJ slices_breakPatternsCmpFunc_api_Route.cx [.code (c2 (c2 (c1 (c1 (c2 (c1 (c1 (c2 (c2 (c2 (c1 (c2 (c2 slices_breakPatternsCmpFunc_api_Route.B))))))))))))), .inBlock 1, .code (c2 (c2 (c1 (c1 (c2 (c2 (c2 (c1 (c2 (c2 slices_breakPatternsCmpFunc_api_Route.B)))))))))), .inLoop (c1 (c1 (c2 (c2 (c2 (c1 (c2 (c2 slices_breakPatternsCmpFunc_api_Route.B)))))))), .inBlock 0] [(0, Sl.v a0), (1, .int .i64 a1), (8, .int .i64 (IntKind.wrap .i64 (a2 - a1))), (9, .pointer (some (pt b24 0))), (10, .int .u64 r25), (11, .int .i64 s26), (12, .int .i64 j38)] [] (slices_breakPatternsCmpFunc_api_Route.K1 a0 a1 s26 j38) (slices_breakPatternsCmpFunc_api_Route.F1 a0 a1 a2 b24 r25) := by
  unfold slices_breakPatternsCmpFunc_api_Route.K1
  refine SJ.draw (id := 10) (kd := [0, 0, 0, 0, 0, 0, 0, 0, 0, 0, 0, 1, 0, 0, 0, 1, 0, 2, 0, 2]) (bef := [0, 0, 0, 0, 0, 24, 0, 0, 0, 384, 960, 1984, 0, 0, 12288, 28672, 65475, 131011, 262143, 524287]) (ord := [0, 1, 2, 3, 4, 5, 6, 7, 8, 9, 10, 11, 12, 13, 14, 15, 16, 17, 18, 19]) mixed ?_
  refine OJ.go 10 [(58, .int .i64 (IntKind.wrap .i64 (a1 + j38))), (57, .int .i64 j38), (56, .int .i64 a1), (55, Sl.v a0), (54, .int .i64 (IntKind.wrap .i64 (a1 + j38))), (53, .int .i64 j38), (52, .int .i64 a1), (51, Sl.v a0), (50, .int .i64 s26), (49, Sl.v a0)] ?_
  refine OJ.idxS (d := 59) (T := 39) (y := .tmp 55) (j := .tmp 58) (E := 32) (cap := a0.cap) (k := .i64) (fun p39 => ?_)
  refine OJ.ld (d := 60) (y := .tmp 59) (pend2 := fun x40 => [⟨11, 32, p39, c_api_Route.val x40⟩]) Ty32 (fun _ => rfl) (fun x40 => ?_)
  refine OJ.go 2 [(62, .int .i64 s26), (61, Sl.v a0)] ?_
  refine OJ.idxS (d := 63) (T := 39) (y := .tmp 61) (j := .tmp 62) (E := 32) (cap := a0.cap) (k := .i64) (fun p41 => ?_)
  refine OJ.ld (d := 64) (y := .tmp 63) (pend2 := fun x42 => [⟨15, 32, p41, c_api_Route.val x42⟩, ⟨11, 32, p39, c_api_Route.val x40⟩]) Ty32 (fun _ => rfl) (fun x42 => ?_)
  refine OJ.idxS (d := 65) (T := 39) (y := .tmp 49) (j := .tmp 50) (E := 32) (cap := a0.cap) (k := .i64) (fun p43 => ?_)
  refine OJ.st (y := .tmp 65) (z := .tmp 60) (owed := []) Ty32 ?_
  refine OW.nil ?_
  refine OJ.idxS (d := 66) (T := 39) (y := .tmp 51) (j := .tmp 54) (E := 32) (cap := a0.cap) (k := .i64) (fun p44 => ?_)
  refine OJ.st (y := .tmp 66) (z := .tmp 64) (owed := []) Ty32 ?_
  refine OW.nil ?_
  refine OJ.nil ?_
  refine SJ.inBlock ?_
  refine SJ.rg 3 ?_
  refine OJ.go 3 [(11, .int .i64 (IntKind.wrap .i64 (s26 + 1))), (37, .int .i64 (IntKind.wrap .i64 (s26 + 1))), (36, .int .i64 s26)] ?_
  refine OJ.nil ?_
  exact SJ.at_ [0, 1, 8, 9, 10, 11] rfl
noncomputable def slices_breakPatternsCmpFunc_api_Route.L1 (a0 : Sl) (a1 : Int) (a2 : Int) (b24 : Nat) (r25 : Int) (s26 : Int) : M (LS Int Unit) :=
  if s26 ≤ (IntKind.wrap .i64 ((IntKind.wrap .i64 (a1 + (IntKind.wrap .i64 ((IntKind.wrap .i64 (Int.tdiv (IntKind.wrap .i64 (a2 - a1)) 4)) * 2)))) + 1)) then
    slices_xorshift_Next (some (pt b24 0)) >>= fun r37 =>
    if (IntKind.wrap .i64 (band .u64 r37 (IntKind.wrap .u64 (r25 - 1)))) ≥ (IntKind.wrap .i64 (a2 - a1)) then
      slices_breakPatternsCmpFunc_api_Route.K1 a0 a1 s26 (IntKind.wrap .i64 ((IntKind.wrap .i64 (band .u64 r37 (IntKind.wrap .u64 (r25 - 1)))) - (IntKind.wrap .i64 (a2 - a1))))
    else
      slices_breakPatternsCmpFunc_api_Route.K1 a0 a1 s26 (IntKind.wrap .i64 (band .u64 r37 (IntKind.wrap .u64 (r25 - 1))))
  else
    pure (LS.done ())
theorem slices_breakPatternsCmpFunc_api_Route.L1_ok (a0 : Sl) (a1 : Int) (a2 : Int) (b24 : Nat) (r25 : Int) (s26 : Int) :
    SJ slices_breakPatternsCmpFunc_api_Route.cx [.code (c1 (c1 (c2 (c2 (c2 (c1 (c2 (c2 slices_breakPatternsCmpFunc_api_Route.B)))))))), .inLoop (c1 (c1 (c2 (c2 (c2 (c1 (c2 (c2 slices_breakPatternsCmpFunc_api_Route.B)))))))), .inBlock 0] [(0, Sl.v a0), (1, .int .i64 a1), (8, .int .i64 (IntKind.wrap .i64 (a2 - a1))), (9, .pointer (some (pt b24 0))), (10, .int .u64 r25), (11, .int .i64 s26)] [] (slices_breakPatternsCmpFunc_api_Route.L1 a0 a1 a2 b24 r25 s26) (slices_breakPatternsCmpFunc_api_Route.F1 a0 a1 a2 b24 r25) := by
  unfold slices_breakPatternsCmpFunc_api_Route.L1
  refine SJ.seq ?_
  refine SJ.sr 8 ?_
  refine OJ.go 8 [(35, .bool (decide (s26 ≤ (IntKind.wrap .i64 ((IntKind.wrap .i64 (a1 + (IntKind.wrap .i64 ((IntKind.wrap .i64 (Int.tdiv (IntKind.wrap .i64 (a2 - a1)) 4)) * 2)))) + 1))))), (34, .int .i64 (IntKind.wrap .i64 ((IntKind.wrap .i64 (a1 + (IntKind.wrap .i64 ((IntKind.wrap .i64 (Int.tdiv (IntKind.wrap .i64 (a2 - a1)) 4)) * 2)))) + 1))), (33, .int .i64 (IntKind.wrap .i64 (a1 + (IntKind.wrap .i64 ((IntKind.wrap .i64 (Int.tdiv (IntKind.wrap .i64 (a2 - a1)) 4)) * 2))))), (32, .int .i64 (IntKind.wrap .i64 ((IntKind.wrap .i64 (Int.tdiv (IntKind.wrap .i64 (a2 - a1)) 4)) * 2))), (31, .int .i64 (IntKind.wrap .i64 (Int.tdiv (IntKind.wrap .i64 (a2 - a1)) 4))), (30, .int .i64 (IntKind.wrap .i64 (a2 - a1))), (29, .int .i64 a1), (28, .int .i64 s26)] ?_
  refine OJ.nil ?_
  refine SJ.cond (t := (.tmp 35)) (b := decide (s26 ≤ (IntKind.wrap .i64 ((IntKind.wrap .i64 (a1 + (IntKind.wrap .i64 ((IntKind.wrap .i64 (Int.tdiv (IntKind.wrap .i64 (a2 - a1)) 4)) * 2)))) + 1)))) decide_eq_true_iff (fun hc46 => ?_) (fun hc46 => ?_)
  · refine SJ.skip ?_
    refine SJ.seq ?_
    refine SJ.block (id := 1) ?_
    refine SJ.sr 6 ?_
    refine OJ.call (d := 38) (g := 87) (ats := #[141]) (args := [.tmp 9]) (owed := []) F87 (slices_xorshift_Next_ok (some (pt b24 0))) (fun r37 => ?_)
    refine OW.nil ?_
    refine OJ.go 5 [(12, .int .i64 (IntKind.wrap .i64 (band .u64 r37 (IntKind.wrap .u64 (r25 - 1))))), (42, .int .i64 (IntKind.wrap .i64 (band .u64 r37 (IntKind.wrap .u64 (r25 - 1))))), (41, .int .u64 (band .u64 r37 (IntKind.wrap .u64 (r25 - 1)))), (40, .int .u64 (IntKind.wrap .u64 (r25 - 1))), (39, .int .u64 r25)] ?_
    refine OJ.nil ?_
    refine SJ.seq ?_
    refine SJ.sr 3 ?_
    refine OJ.go 3 [(45, .bool (decide ((IntKind.wrap .i64 (band .u64 r37 (IntKind.wrap .u64 (r25 - 1)))) ≥ (IntKind.wrap .i64 (a2 - a1))))), (44, .int .i64 (IntKind.wrap .i64 (a2 - a1))), (43, .int .i64 (IntKind.wrap .i64 (band .u64 r37 (IntKind.wrap .u64 (r25 - 1)))))] ?_
    refine OJ.nil ?_
    refine SJ.cond (t := (.tmp 45)) (b := decide ((IntKind.wrap .i64 (band .u64 r37 (IntKind.wrap .u64 (r25 - 1)))) ≥ (IntKind.wrap .i64 (a2 - a1)))) decide_eq_true_iff (fun hc45 => ?_) (fun hc45 => ?_)
    · refine SJ.rg 4 ?_
      refine OJ.go 4 [(12, .int .i64 (IntKind.wrap .i64 ((IntKind.wrap .i64 (band .u64 r37 (IntKind.wrap .u64 (r25 - 1)))) - (IntKind.wrap .i64 (a2 - a1))))), (48, .int .i64 (IntKind.wrap .i64 ((IntKind.wrap .i64 (band .u64 r37 (IntKind.wrap .u64 (r25 - 1)))) - (IntKind.wrap .i64 (a2 - a1))))), (47, .int .i64 (IntKind.wrap .i64 (a2 - a1))), (46, .int .i64 (IntKind.wrap .i64 (band .u64 r37 (IntKind.wrap .u64 (r25 - 1)))))] ?_
      refine OJ.nil ?_
      refine SJ.less [0, 1, 8, 9, 10, 11, 12] (m' := [(0, Sl.v a0), (1, .int .i64 a1), (8, .int .i64 (IntKind.wrap .i64 (a2 - a1))), (9, .pointer (some (pt b24 0))), (10, .int .u64 r25), (11, .int .i64 s26), (12, .int .i64 (IntKind.wrap .i64 ((IntKind.wrap .i64 (band .u64 r37 (IntKind.wrap .u64 (r25 - 1)))) - (IntKind.wrap .i64 (a2 - a1)))))]) ?_
      exact slices_breakPatternsCmpFunc_api_Route.K1_ok a0 a1 a2 b24 r25 s26 (IntKind.wrap .i64 ((IntKind.wrap .i64 (band .u64 r37 (IntKind.wrap .u64 (r25 - 1)))) - (IntKind.wrap .i64 (a2 - a1))))
    · refine SJ.skip ?_
      refine SJ.less [0, 1, 8, 9, 10, 11, 12] (m' := [(0, Sl.v a0), (1, .int .i64 a1), (8, .int .i64 (IntKind.wrap .i64 (a2 - a1))), (9, .pointer (some (pt b24 0))), (10, .int .u64 r25), (11, .int .i64 s26), (12, .int .i64 (IntKind.wrap .i64 (band .u64 r37 (IntKind.wrap .u64 (r25 - 1)))))]) ?_
      exact slices_breakPatternsCmpFunc_api_Route.K1_ok a0 a1 a2 b24 r25 s26 (IntKind.wrap .i64 (band .u64 r37 (IntKind.wrap .u64 (r25 - 1))))
  · refine SJ.exit (id := 0) (by rfl) ?_
    exact SJ.end_ rfl (Res.run (ys := []) .nil rfl)
noncomputable def slices_breakPatternsCmpFunc_api_Route (a0 : Sl) (a1 : Int) (a2 : Int) (a3 : api_Route → api_Route → M Int) : M Unit :=
  if (IntKind.wrap .i64 (a2 - a1)) ≥ 8 then
    newv 141 (cI .u64) 0 >>= fun b24 =>
    st (cI .u64) (pt b24 0) (IntKind.wrap .u64 (IntKind.wrap .i64 (a2 - a1))) >>= fun _ =>
    slices_nextPowerOfTwo (IntKind.wrap .i64 (a2 - a1)) >>= fun r25 =>
    loopM (fun s_ : Int => slices_breakPatternsCmpFunc_api_Route.L1 a0 a1 a2 b24 r25 s_) (IntKind.wrap .i64 ((IntKind.wrap .i64 (a1 + (IntKind.wrap .i64 ((IntKind.wrap .i64 (Int.tdiv (IntKind.wrap .i64 (a2 - a1)) 4)) * 2)))) - 1))
  else
    pure ()
theorem slices_breakPatternsCmpFunc_api_Route_ok (a0 : Sl) (a1 : Int) (a2 : Int) (a3v : Any) (a3 : api_Route → api_Route → M Int) (h_a3 : ∀ (x0_ : api_Route), ∀ (x1_ : api_Route), RefV Tryd.prog a3v.v [c_api_Route.val x0_, c_api_Route.val x1_] (a3 x0_ x1_) (fun r_ : Int => .int .i64 r_)) : Ref Tryd.prog 72 [Sl.v a0, .int .i64 a1, .int .i64 a2, a3v.v] (slices_breakPatternsCmpFunc_api_Route a0 a1 a2 a3) slices_breakPatternsCmpFunc_api_Route.out := by
  refine Ref.of (cd := slices_breakPatternsCmpFunc_api_Route.B) Tryd.func72 ?_
  show SJ slices_breakPatternsCmpFunc_api_Route.cx [.code slices_breakPatternsCmpFunc_api_Route.B] [(0, Sl.v a0), (1, .int .i64 a1), (2, .int .i64 a2), (3, a3v.v)] [] (slices_breakPatternsCmpFunc_api_Route a0 a1 a2 a3) slices_breakPatternsCmpFunc_api_Route.F0
  unfold slices_breakPatternsCmpFunc_api_Route
  refine SJ.sr 4 ?_
  refine OJ.go 4 [(8, .int .i64 (IntKind.wrap .i64 (a2 - a1))), (15, .int .i64 (IntKind.wrap .i64 (a2 - a1))), (14, .int .i64 a1), (13, .int .i64 a2)] ?_
  refine OJ.nil ?_
  refine SJ.sr 2 ?_
  refine OJ.go 2 [(17, .bool (decide ((IntKind.wrap .i64 (a2 - a1)) ≥ 8))), (16, .int .i64 (IntKind.wrap .i64 (a2 - a1)))] ?_
  refine OJ.nil ?_
  refine SJ.cond (t := (.tmp 17)) (b := decide ((IntKind.wrap .i64 (a2 - a1)) ≥ 8)) decide_eq_true_iff (fun hc47 => ?_) (fun hc47 => ?_)
  · refine SJ.sr 4 ?_
    refine OJ.go 2 [(19, .int .u64 (IntKind.wrap .u64 (IntKind.wrap .i64 (a2 - a1)))), (18, .int .i64 (IntKind.wrap .i64 (a2 - a1)))] ?_
    refine OJ.newOf (d := 9) (op := (.alloc 141)) (cd := (cI .u64)) (u := 0) (owed := []) (alloc_run Ty141) (fun b24 => ?_)
    refine OW.nil ?_
    refine OJ.st (y := .tmp 9) (z := .tmp 19) (owed := []) Ty141 ?_
    refine OW.nil ?_
    refine OJ.nil ?_
    refine SJ.sr 3 ?_
    refine OJ.go 1 [(20, .int .i64 (IntKind.wrap .i64 (a2 - a1)))] ?_
    refine OJ.call (d := 21) (g := 86) (ats := #[3]) (args := [.tmp 20]) (owed := []) F86 (slices_nextPowerOfTwo_ok (IntKind.wrap .i64 (a2 - a1))) (fun r25 => ?_)
    refine OW.nil ?_
    refine OJ.go 1 [(10, .int .u64 r25)] ?_
    refine OJ.nil ?_
    refine SJ.sr 7 ?_
    refine OJ.go 7 [(11, .int .i64 (IntKind.wrap .i64 ((IntKind.wrap .i64 (a1 + (IntKind.wrap .i64 ((IntKind.wrap .i64 (Int.tdiv (IntKind.wrap .i64 (a2 - a1)) 4)) * 2)))) - 1))), (27, .int .i64 (IntKind.wrap .i64 ((IntKind.wrap .i64 (a1 + (IntKind.wrap .i64 ((IntKind.wrap .i64 (Int.tdiv (IntKind.wrap .i64 (a2 - a1)) 4)) * 2)))) - 1))), (26, .int .i64 (IntKind.wrap .i64 (a1 + (IntKind.wrap .i64 ((IntKind.wrap .i64 (Int.tdiv (IntKind.wrap .i64 (a2 - a1)) 4)) * 2))))), (25, .int .i64 (IntKind.wrap .i64 ((IntKind.wrap .i64 (Int.tdiv (IntKind.wrap .i64 (a2 - a1)) 4)) * 2))), (24, .int .i64 (IntKind.wrap .i64 (Int.tdiv (IntKind.wrap .i64 (a2 - a1)) 4))), (23, .int .i64 (IntKind.wrap .i64 (a2 - a1))), (22, .int .i64 a1)] ?_
    refine OJ.nil ?_
    refine SJ.block (id := 0) ?_
    exact SJ.loop (fun s_ : Int => [(0, Sl.v a0), (1, .int .i64 a1), (8, .int .i64 (IntKind.wrap .i64 (a2 - a1))), (9, .pointer (some (pt b24 0))), (10, .int .u64 r25), (11, .int .i64 s_)]) (fun s_ : Int => []) [0, 1, 8, 9, 10, 11] rfl (fun _ _ => rfl) (fun s_ => slices_breakPatternsCmpFunc_api_Route.L1_ok a0 a1 a2 b24 r25 s_)
  · refine SJ.skip ?_
    exact SJ.end_ rfl (Res.run (ys := []) .nil rfl)

/-! ### slices.order2CmpFunc[weir/api.Route]: function 93 -/
noncomputable def slices_order2CmpFunc_api_Route.B : Code := (Tryd.f93.body).getD .skip
noncomputable def slices_order2CmpFunc_api_Route.cx : Fx := ⟨Tryd.prog, 93, Tryd.f93, none⟩
noncomputable def slices_order2CmpFunc_api_Route.out (r_ : (Int × Int)) : Value := .tuple #[.int .i64 r_.1, .int .i64 r_.2]
noncomputable def slices_order2CmpFunc_api_Route.F0 (r_ : (Int × Int)) : Reach := .ret (slices_order2CmpFunc_api_Route.out r_)
noncomputable def slices_order2CmpFunc_api_Route (a0 : Sl) (a1 : Int) (a2 : Int) (a3 : (Option Addr)) (a4 : api_Route → api_Route → M Int) : M (Int × Int) :=
  draw >>= fun _ =>
  idx a0.a a0.len a2 36 >>= fun p1 =>
  ld c_api_Route p1 >>= fun x2 =>
  idx a0.a a0.len a1 36 >>= fun p3 =>
  ld c_api_Route p3 >>= fun x4 =>
  a4 x2 x4 >>= fun r5 =>
  if r5 < 0 then
    nilck a3 >>= fun p9 =>
    ld (cI .i64) p9 >>= fun x10 =>
    nilck a3 >>= fun p11 =>
    st (cI .i64) p11 (IntKind.wrap .i64 (x10 + 1)) >>= fun _ =>
    pure (a2, a1)
  else
    pure (a1, a2)
theorem slices_order2CmpFunc_api_Route_ok (a0 : Sl) (a1 : Int) (a2 : Int) (a3 : (Option Addr)) (a4v : Any) (a4 : api_Route → api_Route → M Int) (h_a4 : ∀ (x0_ : api_Route), ∀ (x1_ : api_Route), RefV Tryd.prog a4v.v [c_api_Route.val x0_, c_api_Route.val x1_] (a4 x0_ x1_) (fun r_ : Int => .int .i64 r_)) : Ref Tryd.prog 93 [Sl.v a0, .int .i64 a1, .int .i64 a2, .pointer a3, a4v.v] (slices_order2CmpFunc_api_Route a0 a1 a2 a3 a4) slices_order2CmpFunc_api_Route.out := by
  refine Ref.of (cd := slices_order2CmpFunc_api_Route.B) Tryd.func93 ?_
  show SJ slices_order2CmpFunc_api_Route.cx [.code slices_order2CmpFunc_api_Route.B] [(0, Sl.v a0), (1, .int .i64 a1), (2, .int .i64 a2), (3, .pointer a3), (4, a4v.v)] [] (slices_order2CmpFunc_api_Route a0 a1 a2 a3 a4) slices_order2CmpFunc_api_Route.F0
  unfold slices_order2CmpFunc_api_Route
  refine SJ.sr 2 ?_
  refine OJ.go 2 [(11, .int .i64 0), (10, .int .i64 0)] ?_
  refine OJ.nil ?_
  refine SJ.seq ?_
  refine SJ.seq ?_
  refine SJ.draw (id := 1) (kd := [0, 0, 0, 0, 1, 0, 0, 0, 1, 2, 0]) (bef := [0, 0, 0, 6, 14, 0, 0, 96, 224, 511, 1023]) (ord := [0, 1, 2, 3, 4, 5, 6, 7, 8, 9, 10]) mixed ?_
  refine OJ.go 3 [(14, .int .i64 a2), (13, Sl.v a0), (12, a4v.v)] ?_
  refine OJ.idxS (d := 15) (T := 39) (y := .tmp 13) (j := .tmp 14) (E := 32) (cap := a0.cap) (k := .i64) (fun p1 => ?_)
  refine OJ.ld (d := 16) (y := .tmp 15) (pend2 := fun x2 => [⟨4, 32, p1, c_api_Route.val x2⟩]) Ty32 (fun _ => rfl) (fun x2 => ?_)
  refine OJ.go 2 [(18, .int .i64 a1), (17, Sl.v a0)] ?_
  refine OJ.idxS (d := 19) (T := 39) (y := .tmp 17) (j := .tmp 18) (E := 32) (cap := a0.cap) (k := .i64) (fun p3 => ?_)
  refine OJ.ld (d := 20) (y := .tmp 19) (pend2 := fun x4 => [⟨8, 32, p3, c_api_Route.val x4⟩, ⟨4, 32, p1, c_api_Route.val x2⟩]) Ty32 (fun _ => rfl) (fun x4 => ?_)
  refine OJ.callV1 (d := 21) (ats := #[32, 32]) (args := [.tmp 16, .tmp 20]) (fo := .tmp 12) (vals := [c_api_Route.val x2, c_api_Route.val x4]) (owed := []) (h_a4 x2 x4) (fun r5 => ?_)
  refine OW.nil ?_
  refine OJ.go 1 [(22, .bool (decide (r5 < 0)))] ?_
  refine OJ.nil ?_
  refine SJ.cond (t := (.tmp 22)) (b := decide (r5 < 0)) decide_eq_true_iff (fun hc12 => ?_) (fun hc12 => ?_)
  · refine SJ.sr 6 ?_
    refine OJ.go 1 [(23, .pointer a3)] ?_
    refine OJ.nilck (d := 24) (y := .tmp 23) (fun p9 => ?_)
    refine OJ.ld (d := 25) (y := .tmp 24) (pend2 := fun x10 => []) Ty3 (fun _ => rfl) (fun x10 => ?_)
    refine OJ.go 1 [(26, .int .i64 (IntKind.wrap .i64 (x10 + 1)))] ?_
    refine OJ.nilck (d := 27) (y := .tmp 23) (fun p11 => ?_)
    refine OJ.st (y := .tmp 27) (z := .tmp 26) (owed := []) Ty3 ?_
    refine OW.nil ?_
    refine OJ.nil ?_
    refine SJ.sr 4 ?_
    refine OJ.go 4 [(11, .int .i64 a1), (10, .int .i64 a2), (29, .int .i64 a1), (28, .int .i64 a2)] ?_
    refine OJ.nil ?_
    exact SJ.ret rfl (Res.run (ys := [.int .i64 a2, .int .i64 a1]) (.tmp (by kernel_rfl) (.tmp (by kernel_rfl) .nil)) rfl)
  · refine SJ.skip ?_
    refine SJ.sr 4 ?_
    refine OJ.go 4 [(11, .int .i64 a2), (10, .int .i64 a1), (31, .int .i64 a2), (30, .int .i64 a1)] ?_
    refine OJ.nil ?_
    exact SJ.ret rfl (Res.run (ys := [.int .i64 a1, .int .i64 a2]) (.tmp (by kernel_rfl) (.tmp (by kernel_rfl) .nil)) rfl)

/-! ### slices.medianCmpFunc[weir/api.Route]: function 89 -/
noncomputable def slices_medianCmpFunc_api_Route.B : Code := (Tryd.f89.body).getD .skip
noncomputable def slices_medianCmpFunc_api_Route.cx : Fx := ⟨Tryd.prog, 89, Tryd.f89, none⟩
noncomputable def slices_medianCmpFunc_api_Route.out (r_ : Int) : Value := .int .i64 r_
noncomputable def slices_medianCmpFunc_api_Route.F0 (r_ : Int) : Reach := .ret (slices_medianCmpFunc_api_Route.out r_)
noncomputable def slices_medianCmpFunc_api_Route (a0 : Sl) (a1 : Int) (a2 : Int) (a3 : Int) (a4 : (Option Addr)) (a5 : api_Route → api_Route → M Int) : M Int :=
  slices_order2CmpFunc_api_Route a0 a1 a2 a4 a5 >>= fun r1 =>
  slices_order2CmpFunc_api_Route a0 r1.2 a3 a4 a5 >>= fun r2 =>
  slices_order2CmpFunc_api_Route a0 r1.1 r2.1 a4 a5 >>= fun r3 =>
  pure r3.2
theorem slices_medianCmpFunc_api_Route_ok (a0 : Sl) (a1 : Int) (a2 : Int) (a3 : Int) (a4 : (Option Addr)) (a5v : Any) (a5 : api_Route → api_Route → M Int) (h_a5 : ∀ (x0_ : api_Route), ∀ (x1_ : api_Route), RefV Tryd.prog a5v.v [c_api_Route.val x0_, c_api_Route.val x1_] (a5 x0_ x1_) (fun r_ : Int => .int .i64 r_)) : Ref Tryd.prog 89 [Sl.v a0, .int .i64 a1, .int .i64 a2, .int .i64 a3, .pointer a4, a5v.v] (slices_medianCmpFunc_api_Route a0 a1 a2 a3 a4 a5) slices_medianCmpFunc_api_Route.out := by
  refine Ref.of (cd := slices_medianCmpFunc_api_Route.B) Tryd.func89 ?_
  show SJ slices_medianCmpFunc_api_Route.cx [.code slices_medianCmpFunc_api_Route.B] [(0, Sl.v a0), (1, .int .i64 a1), (2, .int .i64 a2), (3, .int .i64 a3), (4, .pointer a4), (5, a5v.v)] [] (slices_medianCmpFunc_api_Route a0 a1 a2 a3 a4 a5) slices_medianCmpFunc_api_Route.F0
  unfold slices_medianCmpFunc_api_Route
  refine SJ.sr 1 ?_
  refine OJ.go 1 [(12, .int .i64 0)] ?_
  refine OJ.nil ?_
  refine SJ.sr 11 ?_
  refine OJ.go 5 [(18, a5v.v), (17, .pointer a4), (16, .int .i64 a2), (15, .int .i64 a1), (14, Sl.v a0)] ?_
  refine OJ.call (d := 19) (g := 93) (ats := #[39, 3, 3, 145, 97]) (args := [.tmp 14, .tmp 15, .tmp 16, .tmp 17, .tmp 18]) (owed := []) F93 (slices_order2CmpFunc_api_Route_ok a0 a1 a2 a4 a5v a5 h_a5) (fun r1 => ?_)
  refine OW.nil ?_
  refine OJ.go 5 [(2, .int .i64 r1.2), (1, .int .i64 r1.1), (21, .int .i64 r1.2), (20, .int .i64 r1.1), (13, .tuple #[.int .i64 r1.1, .int .i64 r1.2])] ?_
  refine OJ.nil ?_
  refine SJ.sr 11 ?_
  refine OJ.go 5 [(27, a5v.v), (26, .pointer a4), (25, .int .i64 a3), (24, .int .i64 r1.2), (23, Sl.v a0)] ?_
  refine OJ.call (d := 28) (g := 93) (ats := #[39, 3, 3, 145, 97]) (args := [.tmp 23, .tmp 24, .tmp 25, .tmp 26, .tmp 27]) (owed := []) F93 (slices_order2CmpFunc_api_Route_ok a0 r1.2 a3 a4 a5v a5 h_a5) (fun r2 => ?_)
  refine OW.nil ?_
  refine OJ.go 5 [(3, .int .i64 r2.2), (2, .int .i64 r2.1), (30, .int .i64 r2.2), (29, .int .i64 r2.1), (22, .tuple #[.int .i64 r2.1, .int .i64 r2.2])] ?_
  refine OJ.nil ?_
  refine SJ.sr 11 ?_
  refine OJ.go 5 [(36, a5v.v), (35, .pointer a4), (34, .int .i64 r2.1), (33, .int .i64 r1.1), (32, Sl.v a0)] ?_
  refine OJ.call (d := 37) (g := 93) (ats := #[39, 3, 3, 145, 97]) (args := [.tmp 32, .tmp 33, .tmp 34, .tmp 35, .tmp 36]) (owed := []) F93 (slices_order2CmpFunc_api_Route_ok a0 r1.1 r2.1 a4 a5v a5 h_a5) (fun r3 => ?_)
  refine OW.nil ?_
  refine OJ.go 5 [(2, .int .i64 r3.2), (1, .int .i64 r3.1), (39, .int .i64 r3.2), (38, .int .i64 r3.1), (31, .tuple #[.int .i64 r3.1, .int .i64 r3.2])] ?_
  refine OJ.nil ?_
  refine SJ.sr 2 ?_
  refine OJ.go 2 [(12, .int .i64 r3.2), (40, .int .i64 r3.2)] ?_
  refine OJ.nil ?_
  exact SJ.ret rfl (Res.run (ys := [.int .i64 r3.2]) (.tmp (by kernel_rfl) .nil) rfl)

/-! ### slices.medianAdjacentCmpFunc[weir/api.Route]: function 88 -/
noncomputable def slices_medianAdjacentCmpFunc_api_Route.B : Code := (Tryd.f88.body).getD .skip
noncomputable def slices_medianAdjacentCmpFunc_api_Route.cx : Fx := ⟨Tryd.prog, 88, Tryd.f88, none⟩
noncomputable def slices_medianAdjacentCmpFunc_api_Route.out (r_ : Int) : Value := .int .i64 r_
noncomputable def slices_medianAdjacentCmpFunc_api_Route.F0 (r_ : Int) : Reach := .ret (slices_medianAdjacentCmpFunc_api_Route.out r_)
noncomputable def slices_medianAdjacentCmpFunc_api_Route (a0 : Sl) (a1 : Int) (a2 : (Option Addr)) (a3 : api_Route → api_Route → M Int) : M Int :=
  slices_medianCmpFunc_api_Route a0 (IntKind.wrap .i64 (a1 - 1)) a1 (IntKind.wrap .i64 (a1 + 1)) a2 a3 >>= fun r1 =>
  pure r1
theorem slices_medianAdjacentCmpFunc_api_Route_ok (a0 : Sl) (a1 : Int) (a2 : (Option Addr)) (a3v : Any) (a3 : api_Route → api_Route → M Int) (h_a3 : ∀ (x0_ : api_Route), ∀ (x1_ : api_Route), RefV Tryd.prog a3v.v [c_api_Route.val x0_, c_api_Route.val x1_] (a3 x0_ x1_) (fun r_ : Int => .int .i64 r_)) : Ref Tryd.prog 88 [Sl.v a0, .int .i64 a1, .pointer a2, a3v.v] (slices_medianAdjacentCmpFunc_api_Route a0 a1 a2 a3) slices_medianAdjacentCmpFunc_api_Route.out := by
  refine Ref.of (cd := slices_medianAdjacentCmpFunc_api_Route.B) Tryd.func88 ?_
  show SJ slices_medianAdjacentCmpFunc_api_Route.cx [.code slices_medianAdjacentCmpFunc_api_Route.B] [(0, Sl.v a0), (1, .int .i64 a1), (2, .pointer a2), (3, a3v.v)] [] (slices_medianAdjacentCmpFunc_api_Route a0 a1 a2 a3) slices_medianAdjacentCmpFunc_api_Route.F0
  unfold slices_medianAdjacentCmpFunc_api_Route
  refine SJ.sr 1 ?_
  refine OJ.go 1 [(8, .int .i64 0)] ?_
  refine OJ.nil ?_
  refine SJ.sr 10 ?_
  refine OJ.go 8 [(16, a3v.v), (15, .pointer a2), (14, .int .i64 (IntKind.wrap .i64 (a1 + 1))), (13, .int .i64 a1), (12, .int .i64 a1), (11, .int .i64 (IntKind.wrap .i64 (a1 - 1))), (10, .int .i64 a1), (9, Sl.v a0)] ?_
  refine OJ.call (d := 17) (g := 89) (ats := #[39, 3, 3, 3, 145, 97]) (args := [.tmp 9, .tmp 11, .tmp 12, .tmp 14, .tmp 15, .tmp 16]) (owed := []) F89 (slices_medianCmpFunc_api_Route_ok a0 (IntKind.wrap .i64 (a1 - 1)) a1 (IntKind.wrap .i64 (a1 + 1)) a2 a3v a3 h_a3) (fun r1 => ?_)
  refine OW.nil ?_
  refine OJ.go 1 [(8, .int .i64 r1)] ?_
  refine OJ.nil ?_
  exact SJ.ret rfl (Res.run (ys := [.int .i64 r1]) (.tmp (by kernel_rfl) .nil) rfl)

/-! ### slices.choosePivotCmpFunc[weir/api.Route]: function 73 -/
noncomputable def slices_choosePivotCmpFunc_api_Route.B : Code := (Tryd.f73.body).getD .skip
noncomputable def slices_choosePivotCmpFunc_api_Route.cx : Fx := ⟨Tryd.prog, 73, Tryd.f73, none⟩
noncomputable def slices_choosePivotCmpFunc_api_Route.out (r_ : (Int × Int)) : Value := .tuple #[.int .i64 r_.1, .int .i64 r_.2]
noncomputable def slices_choosePivotCmpFunc_api_Route.F0 (r_ : (Int × Int)) : Reach := .ret (slices_choosePivotCmpFunc_api_Route.out r_)
noncomputable def slices_choosePivotCmpFunc_api_Route (a0 : Sl) (a1 : Int) (a2 : Int) (a3 : api_Route → api_Route → M Int) : M (Int × Int) :=
  newv 3 (cI .i64) 0 >>= fun b1 =>
  if (IntKind.wrap .i64 (a2 - a1)) ≥ 8 then
    if (IntKind.wrap .i64 (a2 - a1)) ≥ 50 then
      slices_medianAdjacentCmpFunc_api_Route a0 (IntKind.wrap .i64 (a1 + (IntKind.wrap .i64 ((IntKind.wrap .i64 (Int.tdiv (IntKind.wrap .i64 (a2 - a1)) 4)) * 1)))) (some (pt b1 0)) a3 >>= fun r14 =>
      slices_medianAdjacentCmpFunc_api_Route a0 (IntKind.wrap .i64 (a1 + (IntKind.wrap .i64 ((IntKind.wrap .i64 (Int.tdiv (IntKind.wrap .i64 (a2 - a1)) 4)) * 2)))) (some (pt b1 0)) a3 >>= fun r15 =>
      slices_medianAdjacentCmpFunc_api_Route a0 (IntKind.wrap .i64 (a1 + (IntKind.wrap .i64 ((IntKind.wrap .i64 (Int.tdiv (IntKind.wrap .i64 (a2 - a1)) 4)) * 3)))) (some (pt b1 0)) a3 >>= fun r16 =>
      slices_medianCmpFunc_api_Route a0 r14 r15 r16 (some (pt b1 0)) a3 >>= fun r17 =>
      ld (cI .i64) (pt b1 0) >>= fun x18 =>
      if x18 = 0 then
        pure (r17, 1)
      else
        if x18 = 12 then
          pure (r17, 2)
        else
          pure (r17, 0)
    else
      slices_medianCmpFunc_api_Route a0 (IntKind.wrap .i64 (a1 + (IntKind.wrap .i64 ((IntKind.wrap .i64 (Int.tdiv (IntKind.wrap .i64 (a2 - a1)) 4)) * 1)))) (IntKind.wrap .i64 (a1 + (IntKind.wrap .i64 ((IntKind.wrap .i64 (Int.tdiv (IntKind.wrap .i64 (a2 - a1)) 4)) * 2)))) (IntKind.wrap .i64 (a1 + (IntKind.wrap .i64 ((IntKind.wrap .i64 (Int.tdiv (IntKind.wrap .i64 (a2 - a1)) 4)) * 3)))) (some (pt b1 0)) a3 >>= fun r22 =>
      ld (cI .i64) (pt b1 0) >>= fun x23 =>
      if x23 = 0 then
        pure (r22, 1)
      else
        if x23 = 12 then
          pure (r22, 2)
        else
          pure (r22, 0)
  else
    ld (cI .i64) (pt b1 0) >>= fun x28 =>
    if x28 = 0 then
      pure (IntKind.wrap .i64 (a1 + (IntKind.wrap .i64 ((IntKind.wrap .i64 (Int.tdiv (IntKind.wrap .i64 (a2 - a1)) 4)) * 2))), 1)
    else
      if x28 = 12 then
        pure (IntKind.wrap .i64 (a1 + (IntKind.wrap .i64 ((IntKind.wrap .i64 (Int.tdiv (IntKind.wrap .i64 (a2 - a1)) 4)) * 2))), 2)
      else
        pure (IntKind.wrap .i64 (a1 + (IntKind.wrap .i64 ((IntKind.wrap .i64 (Int.tdiv (IntKind.wrap .i64 (a2 - a1)) 4)) * 2))), 0)
theorem slices_choosePivotCmpFunc_api_Route_ok (a0 : Sl) (a1 : Int) (a2 : Int) (a3v : Any) (a3 : api_Route → api_Route → M Int) (h_a3 : ∀ (x0_ : api_Route), ∀ (x1_ : api_Route), RefV Tryd.prog a3v.v [c_api_Route.val x0_, c_api_Route.val x1_] (a3 x0_ x1_) (fun r_ : Int => .int .i64 r_)) : Ref Tryd.prog 73 [Sl.v a0, .int .i64 a1, .int .i64 a2, a3v.v] (slices_choosePivotCmpFunc_api_Route a0 a1 a2 a3) slices_choosePivotCmpFunc_api_Route.out := by
  refine Ref.of (cd := slices_choosePivotCmpFunc_api_Route.B) Tryd.func73 ?_
  show SJ slices_choosePivotCmpFunc_api_Route.cx [.code slices_choosePivotCmpFunc_api_Route.B] [(0, Sl.v a0), (1, .int .i64 a1), (2, .int .i64 a2), (3, a3v.v)] [] (slices_choosePivotCmpFunc_api_Route a0 a1 a2 a3) slices_choosePivotCmpFunc_api_Route.F0
  unfold slices_choosePivotCmpFunc_api_Route
  refine SJ.sr 2 ?_
  refine OJ.go 2 [(9, .int .i64 0), (8, .int .i64 0)] ?_
  refine OJ.nil ?_
  refine SJ.sr 4 ?_
  refine OJ.go 4 [(10, .int .i64 (IntKind.wrap .i64 (a2 - a1))), (17, .int .i64 (IntKind.wrap .i64 (a2 - a1))), (16, .int .i64 a1), (15, .int .i64 a2)] ?_
  refine OJ.nil ?_
  refine SJ.sr 1 ?_
  refine OJ.newOf (d := 11) (op := (.alloc 3)) (cd := (cI .i64)) (u := 0) (owed := []) (alloc_run Ty3) (fun b1 => ?_)
  refine OW.nil ?_
  refine OJ.nil ?_
  refine SJ.sr 6 ?_
  refine OJ.go 6 [(12, .int .i64 (IntKind.wrap .i64 (a1 + (IntKind.wrap .i64 ((IntKind.wrap .i64 (Int.tdiv (IntKind.wrap .i64 (a2 - a1)) 4)) * 1))))), (22, .int .i64 (IntKind.wrap .i64 (a1 + (IntKind.wrap .i64 ((IntKind.wrap .i64 (Int.tdiv (IntKind.wrap .i64 (a2 - a1)) 4)) * 1))))), (21, .int .i64 (IntKind.wrap .i64 ((IntKind.wrap .i64 (Int.tdiv (IntKind.wrap .i64 (a2 - a1)) 4)) * 1))), (20, .int .i64 (IntKind.wrap .i64 (Int.tdiv (IntKind.wrap .i64 (a2 - a1)) 4))), (19, .int .i64 (IntKind.wrap .i64 (a2 - a1))), (18, .int .i64 a1)] ?_
  refine OJ.nil ?_
  refine SJ.sr 6 ?_
  refine OJ.go 6 [(13, .int .i64 (IntKind.wrap .i64 (a1 + (IntKind.wrap .i64 ((IntKind.wrap .i64 (Int.tdiv (IntKind.wrap .i64 (a2 - a1)) 4)) * 2))))), (27, .int .i64 (IntKind.wrap .i64 (a1 + (IntKind.wrap .i64 ((IntKind.wrap .i64 (Int.tdiv (IntKind.wrap .i64 (a2 - a1)) 4)) * 2))))), (26, .int .i64 (IntKind.wrap .i64 ((IntKind.wrap .i64 (Int.tdiv (IntKind.wrap .i64 (a2 - a1)) 4)) * 2))), (25, .int .i64 (IntKind.wrap .i64 (Int.tdiv (IntKind.wrap .i64 (a2 - a1)) 4))), (24, .int .i64 (IntKind.wrap .i64 (a2 - a1))), (23, .int .i64 a1)] ?_
  refine OJ.nil ?_
  refine SJ.sr 6 ?_
  refine OJ.go 6 [(14, .int .i64 (IntKind.wrap .i64 (a1 + (IntKind.wrap .i64 ((IntKind.wrap .i64 (Int.tdiv (IntKind.wrap .i64 (a2 - a1)) 4)) * 3))))), (32, .int .i64 (IntKind.wrap .i64 (a1 + (IntKind.wrap .i64 ((IntKind.wrap .i64 (Int.tdiv (IntKind.wrap .i64 (a2 - a1)) 4)) * 3))))), (31, .int .i64 (IntKind.wrap .i64 ((IntKind.wrap .i64 (Int.tdiv (IntKind.wrap .i64 (a2 - a1)) 4)) * 3))), (30, .int .i64 (IntKind.wrap .i64 (Int.tdiv (IntKind.wrap .i64 (a2 - a1)) 4))), (29, .int .i64 (IntKind.wrap .i64 (a2 - a1))), (28, .int .i64 a1)] ?_
  refine OJ.nil ?_
  refine SJ.seq ?_
  refine SJ.sr 2 ?_
  refine OJ.go 2 [(34, .bool (decide ((IntKind.wrap .i64 (a2 - a1)) ≥ 8))), (33, .int .i64 (IntKind.wrap .i64 (a2 - a1)))] ?_
  refine OJ.nil ?_
  refine SJ.cond (t := (.tmp 34)) (b := decide ((IntKind.wrap .i64 (a2 - a1)) ≥ 8)) decide_eq_true_iff (fun hc32 => ?_) (fun hc32 => ?_)
  · refine SJ.seq ?_
    refine SJ.sr 2 ?_
    refine OJ.go 2 [(36, .bool (decide ((IntKind.wrap .i64 (a2 - a1)) ≥ 50))), (35, .int .i64 (IntKind.wrap .i64 (a2 - a1)))] ?_
    refine OJ.nil ?_
    refine SJ.cond (t := (.tmp 36)) (b := decide ((IntKind.wrap .i64 (a2 - a1)) ≥ 50)) decide_eq_true_iff (fun hc27 => ?_) (fun hc27 => ?_)
    · refine SJ.sr 5 ?_
      refine OJ.go 3 [(39, a3v.v), (38, .int .i64 (IntKind.wrap .i64 (a1 + (IntKind.wrap .i64 ((IntKind.wrap .i64 (Int.tdiv (IntKind.wrap .i64 (a2 - a1)) 4)) * 1))))), (37, Sl.v a0)] ?_
      refine OJ.call (d := 40) (g := 88) (ats := #[39, 3, 145, 97]) (args := [.tmp 37, .tmp 38, .tmp 11, .tmp 39]) (owed := []) F88 (slices_medianAdjacentCmpFunc_api_Route_ok a0 (IntKind.wrap .i64 (a1 + (IntKind.wrap .i64 ((IntKind.wrap .i64 (Int.tdiv (IntKind.wrap .i64 (a2 - a1)) 4)) * 1)))) (some (pt b1 0)) a3v a3 h_a3) (fun r14 => ?_)
      refine OW.nil ?_
      refine OJ.go 1 [(12, .int .i64 r14)] ?_
      refine OJ.nil ?_
      refine SJ.sr 5 ?_
      refine OJ.go 3 [(43, a3v.v), (42, .int .i64 (IntKind.wrap .i64 (a1 + (IntKind.wrap .i64 ((IntKind.wrap .i64 (Int.tdiv (IntKind.wrap .i64 (a2 - a1)) 4)) * 2))))), (41, Sl.v a0)] ?_
      refine OJ.call (d := 44) (g := 88) (ats := #[39, 3, 145, 97]) (args := [.tmp 41, .tmp 42, .tmp 11, .tmp 43]) (owed := []) F88 (slices_medianAdjacentCmpFunc_api_Route_ok a0 (IntKind.wrap .i64 (a1 + (IntKind.wrap .i64 ((IntKind.wrap .i64 (Int.tdiv (IntKind.wrap .i64 (a2 - a1)) 4)) * 2)))) (some (pt b1 0)) a3v a3 h_a3) (fun r15 => ?_)
      refine OW.nil ?_
      refine OJ.go 1 [(13, .int .i64 r15)] ?_
      refine OJ.nil ?_
      refine SJ.rg 5 ?_
      refine OJ.go 3 [(47, a3v.v), (46, .int .i64 (IntKind.wrap .i64 (a1 + (IntKind.wrap .i64 ((IntKind.wrap .i64 (Int.tdiv (IntKind.wrap .i64 (a2 - a1)) 4)) * 3))))), (45, Sl.v a0)] ?_
      refine OJ.call (d := 48) (g := 88) (ats := #[39, 3, 145, 97]) (args := [.tmp 45, .tmp 46, .tmp 11, .tmp 47]) (owed := []) F88 (slices_medianAdjacentCmpFunc_api_Route_ok a0 (IntKind.wrap .i64 (a1 + (IntKind.wrap .i64 ((IntKind.wrap .i64 (Int.tdiv (IntKind.wrap .i64 (a2 - a1)) 4)) * 3)))) (some (pt b1 0)) a3v a3 h_a3) (fun r16 => ?_)
      refine OW.nil ?_
      refine OJ.go 1 [(14, .int .i64 r16)] ?_
      refine OJ.nil ?_
      refine SJ.rg 7 ?_
      refine OJ.go 5 [(53, a3v.v), (52, .int .i64 r16), (51, .int .i64 r15), (50, .int .i64 r14), (49, Sl.v a0)] ?_
      refine OJ.call (d := 54) (g := 89) (ats := #[39, 3, 3, 3, 145, 97]) (args := [.tmp 49, .tmp 50, .tmp 51, .tmp 52, .tmp 11, .tmp 53]) (owed := []) F89 (slices_medianCmpFunc_api_Route_ok a0 r14 r15 r16 (some (pt b1 0)) a3v a3 h_a3) (fun r17 => ?_)
      refine OW.nil ?_
      refine OJ.go 1 [(13, .int .i64 r17)] ?_
      refine OJ.nil ?_
      refine SJ.sr 1 ?_
      refine OJ.ld (d := 55) (y := .tmp 11) (pend2 := fun x18 => []) Ty3 (fun _ => rfl) (fun x18 => ?_)
      refine OJ.nil ?_
      refine SJ.block (id := 0) ?_
      refine SJ.sr 2 ?_
      refine OJ.go 2 [(57, .bool (x18 == 0)), (58, .bool (x18 == 0))] ?_
      refine OJ.nil ?_
      refine SJ.cond (t := (.tmp 57)) (b := (x18 == 0)) beq_iff_eq (fun hc21 => ?_) (fun hc21 => ?_)
      · refine SJ.sr 3 ?_
        refine OJ.go 3 [(9, .int .i64 1), (8, .int .i64 r17), (59, .int .i64 r17)] ?_
        refine OJ.nil ?_
        exact SJ.ret rfl (Res.run (ys := [.int .i64 r17, .int .i64 1]) (.tmp (by kernel_rfl) (.tmp (by kernel_rfl) .nil)) rfl)
      · refine SJ.sr 2 ?_
        refine OJ.go 2 [(60, .bool (x18 == 12)), (61, .bool (x18 == 12))] ?_
        refine OJ.nil ?_
        refine SJ.cond (t := (.tmp 60)) (b := (x18 == 12)) beq_iff_eq (fun hc20 => ?_) (fun hc20 => ?_)
        · refine SJ.sr 3 ?_
          refine OJ.go 3 [(9, .int .i64 2), (8, .int .i64 r17), (62, .int .i64 r17)] ?_
          refine OJ.nil ?_
          exact SJ.ret rfl (Res.run (ys := [.int .i64 r17, .int .i64 2]) (.tmp (by kernel_rfl) (.tmp (by kernel_rfl) .nil)) rfl)
        · refine SJ.sr 3 ?_
          refine OJ.go 3 [(9, .int .i64 0), (8, .int .i64 r17), (56, .int .i64 r17)] ?_
          refine OJ.nil ?_
          exact SJ.ret rfl (Res.run (ys := [.int .i64 r17, .int .i64 0]) (.tmp (by kernel_rfl) (.tmp (by kernel_rfl) .nil)) rfl)
    · refine SJ.skip ?_
      refine SJ.rg 7 ?_
      refine OJ.go 5 [(53, a3v.v), (52, .int .i64 (IntKind.wrap .i64 (a1 + (IntKind.wrap .i64 ((IntKind.wrap .i64 (Int.tdiv (IntKind.wrap .i64 (a2 - a1)) 4)) * 3))))), (51, .int .i64 (IntKind.wrap .i64 (a1 + (IntKind.wrap .i64 ((IntKind.wrap .i64 (Int.tdiv (IntKind.wrap .i64 (a2 - a1)) 4)) * 2))))), (50, .int .i64 (IntKind.wrap .i64 (a1 + (IntKind.wrap .i64 ((IntKind.wrap .i64 (Int.tdiv (IntKind.wrap .i64 (a2 - a1)) 4)) * 1))))), (49, Sl.v a0)] ?_
      refine OJ.call (d := 54) (g := 89) (ats := #[39, 3, 3, 3, 145, 97]) (args := [.tmp 49, .tmp 50, .tmp 51, .tmp 52, .tmp 11, .tmp 53]) (owed := []) F89 (slices_medianCmpFunc_api_Route_ok a0 (IntKind.wrap .i64 (a1 + (IntKind.wrap .i64 ((IntKind.wrap .i64 (Int.tdiv (IntKind.wrap .i64 (a2 - a1)) 4)) * 1)))) (IntKind.wrap .i64 (a1 + (IntKind.wrap .i64 ((IntKind.wrap .i64 (Int.tdiv (IntKind.wrap .i64 (a2 - a1)) 4)) * 2)))) (IntKind.wrap .i64 (a1 + (IntKind.wrap .i64 ((IntKind.wrap .i64 (Int.tdiv (IntKind.wrap .i64 (a2 - a1)) 4)) * 3)))) (some (pt b1 0)) a3v a3 h_a3) (fun r22 => ?_)
      refine OW.nil ?_
      refine OJ.go 1 [(13, .int .i64 r22)] ?_
      refine OJ.nil ?_
      refine SJ.sr 1 ?_
      refine OJ.ld (d := 55) (y := .tmp 11) (pend2 := fun x23 => []) Ty3 (fun _ => rfl) (fun x23 => ?_)
      refine OJ.nil ?_
      refine SJ.block (id := 0) ?_
      refine SJ.sr 2 ?_
      refine OJ.go 2 [(57, .bool (x23 == 0)), (58, .bool (x23 == 0))] ?_
      refine OJ.nil ?_
      refine SJ.cond (t := (.tmp 57)) (b := (x23 == 0)) beq_iff_eq (fun hc26 => ?_) (fun hc26 => ?_)
      · refine SJ.sr 3 ?_
        refine OJ.go 3 [(9, .int .i64 1), (8, .int .i64 r22), (59, .int .i64 r22)] ?_
        refine OJ.nil ?_
        exact SJ.ret rfl (Res.run (ys := [.int .i64 r22, .int .i64 1]) (.tmp (by kernel_rfl) (.tmp (by kernel_rfl) .nil)) rfl)
      · refine SJ.sr 2 ?_
        refine OJ.go 2 [(60, .bool (x23 == 12)), (61, .bool (x23 == 12))] ?_
        refine OJ.nil ?_
        refine SJ.cond (t := (.tmp 60)) (b := (x23 == 12)) beq_iff_eq (fun hc25 => ?_) (fun hc25 => ?_)
        · refine SJ.sr 3 ?_
          refine OJ.go 3 [(9, .int .i64 2), (8, .int .i64 r22), (62, .int .i64 r22)] ?_
          refine OJ.nil ?_
          exact SJ.ret rfl (Res.run (ys := [.int .i64 r22, .int .i64 2]) (.tmp (by kernel_rfl) (.tmp (by kernel_rfl) .nil)) rfl)
        · refine SJ.sr 3 ?_
          refine OJ.go 3 [(9, .int .i64 0), (8, .int .i64 r22), (56, .int .i64 r22)] ?_
          refine OJ.nil ?_
          exact SJ.ret rfl (Res.run (ys := [.int .i64 r22, .int .i64 0]) (.tmp (by kernel_rfl) (.tmp (by kernel_rfl) .nil)) rfl)
  · refine SJ.skip ?_
    refine SJ.sr 1 ?_
    refine OJ.ld (d := 55) (y := .tmp 11) (pend2 := fun x28 => []) Ty3 (fun _ => rfl) (fun x28 => ?_)
    refine OJ.nil ?_
    refine SJ.block (id := 0) ?_
    refine SJ.sr 2 ?_
    refine OJ.go 2 [(57, .bool (x28 == 0)), (58, .bool (x28 == 0))] ?_
    refine OJ.nil ?_
    refine SJ.cond (t := (.tmp 57)) (b := (x28 == 0)) beq_iff_eq (fun hc31 => ?_) (fun hc31 => ?_)
    · refine SJ.sr 3 ?_
      refine OJ.go 3 [(9, .int .i64 1), (8, .int .i64 (IntKind.wrap .i64 (a1 + (IntKind.wrap .i64 ((IntKind.wrap .i64 (Int.tdiv (IntKind.wrap .i64 (a2 - a1)) 4)) * 2))))), (59, .int .i64 (IntKind.wrap .i64 (a1 + (IntKind.wrap .i64 ((IntKind.wrap .i64 (Int.tdiv (IntKind.wrap .i64 (a2 - a1)) 4)) * 2)))))] ?_
      refine OJ.nil ?_
      exact SJ.ret rfl (Res.run (ys := [.int .i64 (IntKind.wrap .i64 (a1 + (IntKind.wrap .i64 ((IntKind.wrap .i64 (Int.tdiv (IntKind.wrap .i64 (a2 - a1)) 4)) * 2)))), .int .i64 1]) (.tmp (by kernel_rfl) (.tmp (by kernel_rfl) .nil)) rfl)
    · refine SJ.sr 2 ?_
      refine OJ.go 2 [(60, .bool (x28 == 12)), (61, .bool (x28 == 12))] ?_
      refine OJ.nil ?_
      refine SJ.cond (t := (.tmp 60)) (b := (x28 == 12)) beq_iff_eq (fun hc30 => ?_) (fun hc30 => ?_)
      · refine SJ.sr 3 ?_
        refine OJ.go 3 [(9, .int .i64 2), (8, .int .i64 (IntKind.wrap .i64 (a1 + (IntKind.wrap .i64 ((IntKind.wrap .i64 (Int.tdiv (IntKind.wrap .i64 (a2 - a1)) 4)) * 2))))), (62, .int .i64 (IntKind.wrap .i64 (a1 + (IntKind.wrap .i64 ((IntKind.wrap .i64 (Int.tdiv (IntKind.wrap .i64 (a2 - a1)) 4)) * 2)))))] ?_
        refine OJ.nil ?_
        exact SJ.ret rfl (Res.run (ys := [.int .i64 (IntKind.wrap .i64 (a1 + (IntKind.wrap .i64 ((IntKind.wrap .i64 (Int.tdiv (IntKind.wrap .i64 (a2 - a1)) 4)) * 2)))), .int .i64 2]) (.tmp (by kernel_rfl) (.tmp (by kernel_rfl) .nil)) rfl)
      · refine SJ.sr 3 ?_
        refine OJ.go 3 [(9, .int .i64 0), (8, .int .i64 (IntKind.wrap .i64 (a1 + (IntKind.wrap .i64 ((IntKind.wrap .i64 (Int.tdiv (IntKind.wrap .i64 (a2 - a1)) 4)) * 2))))), (56, .int .i64 (IntKind.wrap .i64 (a1 + (IntKind.wrap .i64 ((IntKind.wrap .i64 (Int.tdiv (IntKind.wrap .i64 (a2 - a1)) 4)) * 2)))))] ?_
        refine OJ.nil ?_
        exact SJ.ret rfl (Res.run (ys := [.int .i64 (IntKind.wrap .i64 (a1 + (IntKind.wrap .i64 ((IntKind.wrap .i64 (Int.tdiv (IntKind.wrap .i64 (a2 - a1)) 4)) * 2)))), .int .i64 0]) (.tmp (by kernel_rfl) (.tmp (by kernel_rfl) .nil)) rfl)

/-! ### slices.reverseRangeCmpFunc[weir/api.Route]: function 74 -/
noncomputable def slices_reverseRangeCmpFunc_api_Route.B : Code := (Tryd.f74.body).getD .skip
noncomputable def slices_reverseRangeCmpFunc_api_Route.cx : Fx := ⟨Tryd.prog, 74, Tryd.f74, none⟩
noncomputable def slices_reverseRangeCmpFunc_api_Route.out (r_ : Unit) : Value := .tuple #[]
noncomputable def slices_reverseRangeCmpFunc_api_Route.F0 (r_ : Unit) : Reach := .ret (slices_reverseRangeCmpFunc_api_Route.out r_)
noncomputable def slices_reverseRangeCmpFunc_api_Route.F1 (a0 : Sl) : (LS (Int × Int) Unit) → Reach := loopF [.inLoop (c1 (c1 (c2 (c2 slices_reverseRangeCmpFunc_api_Route.B)))), .inBlock 0] (fun s_ : (Int × Int) => [(0, Sl.v a0), (8, .int .i64 s_.1), (9, .int .i64 s_.2)]) (fun s_ : (Int × Int) => []) slices_reverseRangeCmpFunc_api_Route.F0
noncomputable def slices_reverseRangeCmpFunc_api_Route.L1 (a0 : Sl) (s1 : Int) (s2 : Int) : M (LS (Int × Int) Unit) :=
  if s1 < s2 then
    draw >>= fun _ =>
    idx a0.a a0.len s2 36 >>= fun p3 =>
    ld c_api_Route p3 >>= fun x4 =>
    idx a0.a a0.len s1 36 >>= fun p5 =>
    ld c_api_Route p5 >>= fun x6 =>
    idx a0.a a0.len s1 36 >>= fun p7 =>
    st c_api_Route p7 x4 >>= fun _ =>
    idx a0.a a0.len s2 36 >>= fun p8 =>
    st c_api_Route p8 x6 >>= fun _ =>
    pure (LS.next (IntKind.wrap .i64 (s1 + 1), IntKind.wrap .i64 (s2 - 1)))
  else
    pure (LS.done ())
theorem slices_reverseRangeCmpFunc_api_Route.L1_ok (a0 : Sl) (s1 : Int) (s2 : Int) :
    SJ slices_reverseRangeCmpFunc_api_Route.cx [.code (c1 (c1 (c2 (c2 slices_reverseRangeCmpFunc_api_Route.B)))), .inLoop (c1 (c1 (c2 (c2 slices_reverseRangeCmpFunc_api_Route.B)))), .inBlock 0] [(0, Sl.v a0), (8, .int .i64 s1), (9, .int .i64 s2)] [] (slices_reverseRangeCmpFunc_api_Route.L1 a0 s1 s2) (slices_reverseRangeCmpFunc_api_Route.F1 a0) := by
  unfold slices_reverseRangeCmpFunc_api_Route.L1
  refine SJ.seq ?_
  refine SJ.sr 3 ?_
  refine OJ.go 3 [(15, .bool (decide (s1 < s2))), (14, .int .i64 s2), (13, .int .i64 s1)] ?_
  refine OJ.nil ?_
  refine SJ.cond (t := (.tmp 15)) (b := decide (s1 < s2)) decide_eq_true_iff (fun hc9 => ?_) (fun hc9 => ?_)
  · refine SJ.skip ?_
    refine SJ.block (id := 1) ?_
    refine SJ.seq ?_
    refine SJ.draw (id := 3) (kd := [0, 0, 0, 0, 0, 0, 0, 1, 0, 0, 0, 1, 0, 2, 0, 2]) (bef := [0, 0, 0, 0, 0, 0, 48, 112, 0, 0, 768, 1792, 4083, 8179, 16383, 32767]) (ord := [0, 1, 2, 3, 4, 5, 6, 7, 8, 9, 10, 11, 12, 13, 14, 15]) mixed ?_
    refine OJ.go 6 [(21, .int .i64 s2), (20, Sl.v a0), (19, .int .i64 s2), (18, Sl.v a0), (17, .int .i64 s1), (16, Sl.v a0)] ?_
    refine OJ.idxS (d := 22) (T := 39) (y := .tmp 20) (j := .tmp 21) (E := 32) (cap := a0.cap) (k := .i64) (fun p3 => ?_)
    refine OJ.ld (d := 23) (y := .tmp 22) (pend2 := fun x4 => [⟨7, 32, p3, c_api_Route.val x4⟩]) Ty32 (fun _ => rfl) (fun x4 => ?_)
    refine OJ.go 2 [(25, .int .i64 s1), (24, Sl.v a0)] ?_
    refine OJ.idxS (d := 26) (T := 39) (y := .tmp 24) (j := .tmp 25) (E := 32) (cap := a0.cap) (k := .i64) (fun p5 => ?_)
    refine OJ.ld (d := 27) (y := .tmp 26) (pend2 := fun x6 => [⟨11, 32, p5, c_api_Route.val x6⟩, ⟨7, 32, p3, c_api_Route.val x4⟩]) Ty32 (fun _ => rfl) (fun x6 => ?_)
    refine OJ.idxS (d := 28) (T := 39) (y := .tmp 16) (j := .tmp 17) (E := 32) (cap := a0.cap) (k := .i64) (fun p7 => ?_)
    refine OJ.st (y := .tmp 28) (z := .tmp 23) (owed := []) Ty32 ?_
    refine OW.nil ?_
    refine OJ.idxS (d := 29) (T := 39) (y := .tmp 18) (j := .tmp 19) (E := 32) (cap := a0.cap) (k := .i64) (fun p8 => ?_)
    refine OJ.st (y := .tmp 29) (z := .tmp 27) (owed := []) Ty32 ?_
    refine OW.nil ?_
    refine OJ.nil ?_
    refine SJ.sr 3 ?_
    refine OJ.go 3 [(8, .int .i64 (IntKind.wrap .i64 (s1 + 1))), (31, .int .i64 (IntKind.wrap .i64 (s1 + 1))), (30, .int .i64 s1)] ?_
    refine OJ.nil ?_
    refine SJ.rg 3 ?_
    refine OJ.go 3 [(9, .int .i64 (IntKind.wrap .i64 (s2 - 1))), (33, .int .i64 (IntKind.wrap .i64 (s2 - 1))), (32, .int .i64 s2)] ?_
    refine OJ.nil ?_
    refine SJ.inBlock ?_
    exact SJ.at_ [0, 8, 9] rfl
  · refine SJ.exit (id := 0) (by rfl) ?_
    exact SJ.end_ rfl (Res.run (ys := []) .nil rfl)
noncomputable def slices_reverseRangeCmpFunc_api_Route (a0 : Sl) (a1 : Int) (a2 : Int) (a3 : api_Route → api_Route → M Int) : M Unit :=
  loopM (fun s_ : (Int × Int) => slices_reverseRangeCmpFunc_api_Route.L1 a0 s_.1 s_.2) (a1, IntKind.wrap .i64 (a2 - 1))
theorem slices_reverseRangeCmpFunc_api_Route_ok (a0 : Sl) (a1 : Int) (a2 : Int) (a3v : Any) (a3 : api_Route → api_Route → M Int) (h_a3 : ∀ (x0_ : api_Route), ∀ (x1_ : api_Route), RefV Tryd.prog a3v.v [c_api_Route.val x0_, c_api_Route.val x1_] (a3 x0_ x1_) (fun r_ : Int => .int .i64 r_)) : Ref Tryd.prog 74 [Sl.v a0, .int .i64 a1, .int .i64 a2, a3v.v] (slices_reverseRangeCmpFunc_api_Route a0 a1 a2 a3) slices_reverseRangeCmpFunc_api_Route.out := by
  refine Ref.of (cd := slices_reverseRangeCmpFunc_api_Route.B) Tryd.func74 ?_
  show SJ slices_reverseRangeCmpFunc_api_Route.cx [.code slices_reverseRangeCmpFunc_api_Route.B] [(0, Sl.v a0), (1, .int .i64 a1), (2, .int .i64 a2), (3, a3v.v)] [] (slices_reverseRangeCmpFunc_api_Route a0 a1 a2 a3) slices_reverseRangeCmpFunc_api_Route.F0
  unfold slices_reverseRangeCmpFunc_api_Route
  refine SJ.sr 2 ?_
  refine OJ.go 2 [(8, .int .i64 a1), (10, .int .i64 a1)] ?_
  refine OJ.nil ?_
  refine SJ.sr 3 ?_
  refine OJ.go 3 [(9, .int .i64 (IntKind.wrap .i64 (a2 - 1))), (12, .int .i64 (IntKind.wrap .i64 (a2 - 1))), (11, .int .i64 a2)] ?_
  refine OJ.nil ?_
  refine SJ.block (id := 0) ?_
  exact SJ.loop (fun s_ : (Int × Int) => [(0, Sl.v a0), (8, .int .i64 s_.1), (9, .int .i64 s_.2)]) (fun s_ : (Int × Int) => []) [0, 8, 9] rfl (fun _ _ => rfl) (fun s_ => slices_reverseRangeCmpFunc_api_Route.L1_ok a0 s_.1 s_.2)

/-! ### slices.partialInsertionSortCmpFunc[weir/api.Route]: function 75 -/
noncomputable def slices_partialInsertionSortCmpFunc_api_Route.B : Code := (Tryd.f75.body).getD .skip
noncomputable def slices_partialInsertionSortCmpFunc_api_Route.cx : Fx := ⟨Tryd.prog, 75, Tryd.f75, none⟩
noncomputable def slices_partialInsertionSortCmpFunc_api_Route.out (r_ : Bool) : Value := .bool r_
noncomputable def slices_partialInsertionSortCmpFunc_api_Route.F0 (r_ : Bool) : Reach := .ret (slices_partialInsertionSortCmpFunc_api_Route.out r_)
noncomputable def slices_partialInsertionSortCmpFunc_api_Route.F1 (a0 : Sl) (a1 : Int) (a2 : Int) (a3v : Any) : (LS (Int × Int) Bool) → Reach := loopF [.inLoop (c1 (c1 (c2 (c1 (c2 (c2 slices_partialInsertionSortCmpFunc_api_Route.B)))))), .inBlock 0, .code (c2 (c2 (c2 slices_partialInsertionSortCmpFunc_api_Route.B)))] (fun s_ : (Int × Int) => [(0, Sl.v a0), (1, .int .i64 a1), (2, .int .i64 a2), (3, a3v.v), (9, .int .i64 s_.1), (10, .int .i64 s_.2)]) (fun s_ : (Int × Int) => []) slices_partialInsertionSortCmpFunc_api_Route.F0
noncomputable def slices_partialInsertionSortCmpFunc_api_Route.K1 (s2 : Int) (s137 : Int) : M (LS (Int × Int) Bool) :=
  pure (LS.next (s137, IntKind.wrap .i64 (s2 + 1)))
theorem slices_partialInsertionSortCmpFunc_api_Route.K1_ok (a0 : Sl) (a1 : Int) (a2 : Int) (a3v : Any) (s2 : Int) (s137 : Int) :
    SJ slices_partialInsertionSortCmpFunc_api_Route.cx [.inBlock 1, .code (c2 (c2 (c1 (c1 (c2 (c1 (c2 (c2 slices_partialInsertionSortCmpFunc_api_Route.B)))))))), .inLoop (c1 (c1 (c2 (c1 (c2 (c2 slices_partialInsertionSortCmpFunc_api_Route.B)))))), .inBlock 0, .code (c2 (c2 (c2 slices_partialInsertionSortCmpFunc_api_Route.B)))] [(0, Sl.v a0), (1, .int .i64 a1), (2, .int .i64 a2), (3, a3v.v), (9, .int .i64 s137), (10, .int .i64 s2)] [] (slices_partialInsertionSortCmpFunc_api_Route.K1 s2 s137) (slices_partialInsertionSortCmpFunc_api_Route.F1 a0 a1 a2 a3v) := by
  unfold slices_partialInsertionSortCmpFunc_api_Route.K1
  refine SJ.inBlock ?_
  refine SJ.rg 3 ?_
  refine OJ.go 3 [(10, .int .i64 (IntKind.wrap .i64 (s2 + 1))), (18, .int .i64 (IntKind.wrap .i64 (s2 + 1))), (17, .int .i64 s2)] ?_
  refine OJ.nil ?_
  exact SJ.at_ [0, 1, 2, 3, 9, 10] rfl
noncomputable def slices_partialInsertionSortCmpFunc_api_Route.F2 (a0 : Sl) (a1 : Int) (a2 : Int) (a3v : Any) (s2 : Int) (s137 : Int) : (LS Int (LS (Int × Int) Bool)) → Reach := loopF [.inLoop (c1 (c1 (c2 (c1 (c2 (c2 (c2 (c2 (c2 (c2 (c1 (c1 (c2 (c1 (c1 (c2 (c1 (c2 (c2 slices_partialInsertionSortCmpFunc_api_Route.B))))))))))))))))))), .inBlock 6, .inBlock 1, .code (c2 (c2 (c1 (c1 (c2 (c1 (c2 (c2 slices_partialInsertionSortCmpFunc_api_Route.B)))))))), .inLoop (c1 (c1 (c2 (c1 (c2 (c2 slices_partialInsertionSortCmpFunc_api_Route.B)))))), .inBlock 0, .code (c2 (c2 (c2 slices_partialInsertionSortCmpFunc_api_Route.B)))] (fun s_ : Int => [(0, Sl.v a0), (1, .int .i64 a1), (2, .int .i64 a2), (3, a3v.v), (9, .int .i64 s137), (10, .int .i64 s2), (12, .int .i64 s_)]) (fun s_ : Int => []) (slices_partialInsertionSortCmpFunc_api_Route.F1 a0 a1 a2 a3v)
noncomputable def slices_partialInsertionSortCmpFunc_api_Route.L2 (a0 : Sl) (a2 : Int) (a3 : api_Route → api_Route → M Int) (s2 : Int) (s137 : Int) (s205 : Int) : M (LS Int (LS (Int × Int) Bool)) :=
  if s205 < a2 then
    draw >>= fun _ =>
    idx a0.a a0.len s205 36 >>= fun p219 =>
    ld c_api_Route p219 >>= fun x220 =>
    idx a0.a a0.len (IntKind.wrap .i64 (s205 - 1)) 36 >>= fun p221 =>
    ld c_api_Route p221 >>= fun x222 =>
    a3 x220 x222 >>= fun r223 =>
    if ¬ (r223 < 0) then
      (slices_partialInsertionSortCmpFunc_api_Route.K1 s2 s137) >>= fun b => pure (LS.done b)
    else
      draw >>= fun _ =>
      idx a0.a a0.len (IntKind.wrap .i64 (s205 - 1)) 36 >>= fun p224 =>
      ld c_api_Route p224 >>= fun x225 =>
      idx a0.a a0.len s205 36 >>= fun p226 =>
      ld c_api_Route p226 >>= fun x227 =>
      idx a0.a a0.len s205 36 >>= fun p228 =>
      st c_api_Route p228 x225 >>= fun _ =>
      idx a0.a a0.len (IntKind.wrap .i64 (s205 - 1)) 36 >>= fun p229 =>
      st c_api_Route p229 x227 >>= fun _ =>
      pure (LS.next (IntKind.wrap .i64 (s205 + 1)))
  else
    (slices_partialInsertionSortCmpFunc_api_Route.K1 s2 s137) >>= fun b => pure (LS.done b)
theorem slices_partialInsertionSortCmpFunc_api_Route.L2_ok (a0 : Sl) (a1 : Int) (a2 : Int) (a3v : Any) (a3 : api_Route → api_Route → M Int) (h_a3 : ∀ (x0_ : api_Route), ∀ (x1_ : api_Route), RefV Tryd.prog a3v.v [c_api_Route.val x0_, c_api_Route.val x1_] (a3 x0_ x1_) (fun r_ : Int => .int .i64 r_)) (s2 : Int) (s137 : Int) (s205 : Int) :
    SJ slices_partialInsertionSortCmpFunc_api_Route.cx [.code (c1 (c1 (c2 (c1 (c2 (c2 (c2 (c2 (c2 (c2 (c1 (c1 (c2 (c1 (c1 (c2 (c1 (c2 (c2 slices_partialInsertionSortCmpFunc_api_Route.B))))))))))))))))))), .inLoop (c1 (c1 (c2 (c1 (c2 (c2 (c2 (c2 (c2 (c2 (c1 (c1 (c2 (c1 (c1 (c2 (c1 (c2 (c2 slices_partialInsertionSortCmpFunc_api_Route.B))))))))))))))))))), .inBlock 6, .inBlock 1, .code (c2 (c2 (c1 (c1 (c2 (c1 (c2 (c2 slices_partialInsertionSortCmpFunc_api_Route.B)))))))), .inLoop (c1 (c1 (c2 (c1 (c2 (c2 slices_partialInsertionSortCmpFunc_api_Route.B)))))), .inBlock 0, .code (c2 (c2 (c2 slices_partialInsertionSortCmpFunc_api_Route.B)))] [(0, Sl.v a0), (1, .int .i64 a1), (2, .int .i64 a2), (3, a3v.v), (9, .int .i64 s137), (10, .int .i64 s2), (12, .int .i64 s205)] [] (slices_partialInsertionSortCmpFunc_api_Route.L2 a0 a2 a3 s2 s137 s205) (slices_partialInsertionSortCmpFunc_api_Route.F2 a0 a1 a2 a3v s2 s137) := by
  unfold slices_partialInsertionSortCmpFunc_api_Route.L2
  refine SJ.seq ?_
  refine SJ.sr 3 ?_
  refine OJ.go 3 [(109, .bool (decide (s205 < a2))), (108, .int .i64 a2), (107, .int .i64 s205)] ?_
  refine OJ.nil ?_
  refine SJ.cond (t := (.tmp 109)) (b := decide (s205 < a2)) decide_eq_true_iff (fun hc231 => ?_) (fun hc231 => ?_)
  · refine SJ.skip ?_
    refine SJ.seq ?_
    refine SJ.block (id := 7) ?_
    refine SJ.seq ?_
    refine SJ.seq ?_
    refine SJ.draw (id := 22) (kd := [0, 0, 0, 0, 1, 0, 0, 0, 0, 1, 2, 0, 0]) (bef := [0, 0, 0, 6, 14, 0, 0, 64, 224, 480, 1023, 2047, 4095]) (ord := [0, 1, 2, 3, 4, 5, 6, 7, 8, 9, 10, 11, 12]) mixed ?_
    refine OJ.go 3 [(114, .int .i64 s205), (113, Sl.v a0), (112, a3v.v)] ?_
    refine OJ.idxS (d := 115) (T := 39) (y := .tmp 113) (j := .tmp 114) (E := 32) (cap := a0.cap) (k := .i64) (fun p219 => ?_)
    refine OJ.ld (d := 116) (y := .tmp 115) (pend2 := fun x220 => [⟨4, 32, p219, c_api_Route.val x220⟩]) Ty32 (fun _ => rfl) (fun x220 => ?_)
    refine OJ.go 3 [(119, .int .i64 (IntKind.wrap .i64 (s205 - 1))), (118, .int .i64 s205), (117, Sl.v a0)] ?_
    refine OJ.idxS (d := 120) (T := 39) (y := .tmp 117) (j := .tmp 119) (E := 32) (cap := a0.cap) (k := .i64) (fun p221 => ?_)
    refine OJ.ld (d := 121) (y := .tmp 120) (pend2 := fun x222 => [⟨9, 32, p221, c_api_Route.val x222⟩, ⟨4, 32, p219, c_api_Route.val x220⟩]) Ty32 (fun _ => rfl) (fun x222 => ?_)
    refine OJ.callV1 (d := 122) (ats := #[32, 32]) (args := [.tmp 116, .tmp 121]) (fo := .tmp 112) (vals := [c_api_Route.val x220, c_api_Route.val x222]) (owed := []) (h_a3 x220 x222) (fun r223 => ?_)
    refine OW.nil ?_
    refine OJ.go 2 [(124, .bool (!(decide (r223 < 0)))), (123, .bool (decide (r223 < 0)))] ?_
    refine OJ.nil ?_
    refine SJ.cond (t := (.tmp 124)) (b := (!(decide (r223 < 0)))) (bnot_iff decide_eq_true_iff) (fun hc230 => ?_) (fun hc230 => ?_)
    · refine SJ.exit (id := 6) (by rfl) ?_
      refine SJ.less [0, 1, 2, 3, 9, 10] (m' := [(0, Sl.v a0), (1, .int .i64 a1), (2, .int .i64 a2), (3, a3v.v), (9, .int .i64 s137), (10, .int .i64 s2)]) ?_
      refine SJ.done ?_
      exact slices_partialInsertionSortCmpFunc_api_Route.K1_ok a0 a1 a2 a3v s2 s137
    · refine SJ.skip ?_
      refine SJ.draw (id := 23) (kd := [0, 0, 0, 0, 0, 0, 0, 0, 0, 1, 0, 0, 0, 1, 0, 2, 0, 2]) (bef := [0, 0, 0, 0, 8, 0, 0, 64, 224, 480, 0, 0, 3072, 7168, 16355, 32739, 65535, 131071]) (ord := [0, 1, 2, 3, 4, 5, 6, 7, 8, 9, 10, 11, 12, 13, 14, 15, 16, 17]) mixed ?_
      refine OJ.go 8 [(132, .int .i64 (IntKind.wrap .i64 (s205 - 1))), (131, .int .i64 s205), (130, Sl.v a0), (129, .int .i64 (IntKind.wrap .i64 (s205 - 1))), (128, .int .i64 s205), (127, Sl.v a0), (126, .int .i64 s205), (125, Sl.v a0)] ?_
      refine OJ.idxS (d := 133) (T := 39) (y := .tmp 130) (j := .tmp 132) (E := 32) (cap := a0.cap) (k := .i64) (fun p224 => ?_)
      refine OJ.ld (d := 134) (y := .tmp 133) (pend2 := fun x225 => [⟨9, 32, p224, c_api_Route.val x225⟩]) Ty32 (fun _ => rfl) (fun x225 => ?_)
      refine OJ.go 2 [(136, .int .i64 s205), (135, Sl.v a0)] ?_
      refine OJ.idxS (d := 137) (T := 39) (y := .tmp 135) (j := .tmp 136) (E := 32) (cap := a0.cap) (k := .i64) (fun p226 => ?_)
      refine OJ.ld (d := 138) (y := .tmp 137) (pend2 := fun x227 => [⟨13, 32, p226, c_api_Route.val x227⟩, ⟨9, 32, p224, c_api_Route.val x225⟩]) Ty32 (fun _ => rfl) (fun x227 => ?_)
      refine OJ.idxS (d := 139) (T := 39) (y := .tmp 125) (j := .tmp 126) (E := 32) (cap := a0.cap) (k := .i64) (fun p228 => ?_)
      refine OJ.st (y := .tmp 139) (z := .tmp 134) (owed := []) Ty32 ?_
      refine OW.nil ?_
      refine OJ.idxS (d := 140) (T := 39) (y := .tmp 127) (j := .tmp 129) (E := 32) (cap := a0.cap) (k := .i64) (fun p229 => ?_)
      refine OJ.st (y := .tmp 140) (z := .tmp 138) (owed := []) Ty32 ?_
      refine OW.nil ?_
      refine OJ.nil ?_
      refine SJ.inBlock ?_
      refine SJ.rg 3 ?_
      refine OJ.go 3 [(12, .int .i64 (IntKind.wrap .i64 (s205 + 1))), (111, .int .i64 (IntKind.wrap .i64 (s205 + 1))), (110, .int .i64 s205)] ?_
      refine OJ.nil ?_
      exact SJ.at_ [0, 1, 2, 3, 9, 10, 12] rfl
  · refine SJ.exit (id := 6) (by rfl) ?_
    refine SJ.less [0, 1, 2, 3, 9, 10] (m' := [(0, Sl.v a0), (1, .int .i64 a1), (2, .int .i64 a2), (3, a3v.v), (9, .int .i64 s137), (10, .int .i64 s2)]) ?_
    refine SJ.done ?_
    exact slices_partialInsertionSortCmpFunc_api_Route.K1_ok a0 a1 a2 a3v s2 s137
noncomputable def slices_partialInsertionSortCmpFunc_api_Route.K2 (a0 : Sl) (a2 : Int) (a3 : api_Route → api_Route → M Int) (s2 : Int) (s137 : Int) : M (LS (Int × Int) Bool) :=
  if (IntKind.wrap .i64 (a2 - s137)) ≥ 2 then
    loopM (fun s_ : Int => slices_partialInsertionSortCmpFunc_api_Route.L2 a0 a2 a3 s2 s137 s_) (IntKind.wrap .i64 (s137 + 1))
  else
    slices_partialInsertionSortCmpFunc_api_Route.K1 s2 s137
theorem slices_partialInsertionSortCmpFunc_api_Route.K2_ok (a0 : Sl) (a1 : Int) (a2 : Int) (a3v : Any) (a3 : api_Route → api_Route → M Int) (h_a3 : ∀ (x0_ : api_Route), ∀ (x1_ : api_Route), RefV Tryd.prog a3v.v [c_api_Route.val x0_, c_api_Route.val x1_] (a3 x0_ x1_) (fun r_ : Int => .int .i64 r_)) (s2 : Int) (s137 : Int) :
    SJ slices_partialInsertionSortCmpFunc_api_Route.cx [.code (c2 (c2 (c2 (c2 (c2 (c1 (c1 (c2 (c1 (c1 (c2 (c1 (c2 (c2 slices_partialInsertionSortCmpFunc_api_Route.B)))))))))))))), .inBlock 1, .code (c2 (c2 (c1 (c1 (c2 (c1 (c2 (c2 slices_partialInsertionSortCmpFunc_api_Route.B)))))))), .inLoop (c1 (c1 (c2 (c1 (c2 (c2 slices_partialInsertionSortCmpFunc_api_Route.B)))))), .inBlock 0, .code (c2 (c2 (c2 slices_partialInsertionSortCmpFunc_api_Route.B)))] [(0, Sl.v a0), (1, .int .i64 a1), (2, .int .i64 a2), (3, a3v.v), (9, .int .i64 s137), (10, .int .i64 s2)] [] (slices_partialInsertionSortCmpFunc_api_Route.K2 a0 a2 a3 s2 s137) (slices_partialInsertionSortCmpFunc_api_Route.F1 a0 a1 a2 a3v) := by
  unfold slices_partialInsertionSortCmpFunc_api_Route.K2
  refine SJ.sr 4 ?_
  refine OJ.go 4 [(104, .bool (decide ((IntKind.wrap .i64 (a2 - s137)) ≥ 2))), (103, .int .i64 (IntKind.wrap .i64 (a2 - s137))), (102, .int .i64 s137), (101, .int .i64 a2)] ?_
  refine OJ.nil ?_
  refine SJ.cond (t := (.tmp 104)) (b := decide ((IntKind.wrap .i64 (a2 - s137)) ≥ 2)) decide_eq_true_iff (fun hc232 => ?_) (fun hc232 => ?_)
  · refine SJ.sr 3 ?_
    refine OJ.go 3 [(12, .int .i64 (IntKind.wrap .i64 (s137 + 1))), (106, .int .i64 (IntKind.wrap .i64 (s137 + 1))), (105, .int .i64 s137)] ?_
    refine OJ.nil ?_
    refine SJ.block (id := 6) ?_
    exact SJ.loop (fun s_ : Int => [(0, Sl.v a0), (1, .int .i64 a1), (2, .int .i64 a2), (3, a3v.v), (9, .int .i64 s137), (10, .int .i64 s2), (12, .int .i64 s_)]) (fun s_ : Int => []) [0, 1, 2, 3, 9, 10, 12] rfl (fun _ _ => rfl) (fun s_ => slices_partialInsertionSortCmpFunc_api_Route.L2_ok a0 a1 a2 a3v a3 h_a3 s2 s137 s_)
  · refine SJ.skip ?_
    refine SJ.less [0, 1, 2, 3, 9, 10] (m' := [(0, Sl.v a0), (1, .int .i64 a1), (2, .int .i64 a2), (3, a3v.v), (9, .int .i64 s137), (10, .int .i64 s2)]) ?_
    exact slices_partialInsertionSortCmpFunc_api_Route.K1_ok a0 a1 a2 a3v s2 s137
noncomputable def slices_partialInsertionSortCmpFunc_api_Route.K3 (a0 : Sl) (a2 : Int) (a3 : api_Route → api_Route → M Int) (s2 : Int) (s137 : Int) : M (LS (Int × Int) Bool) :=
  slices_partialInsertionSortCmpFunc_api_Route.K2 a0 a2 a3 s2 s137
theorem slices_partialInsertionSortCmpFunc_api_Route.K3_ok (a0 : Sl) (a1 : Int) (a2 : Int) (a3v : Any) (a3 : api_Route → api_Route → M Int) (h_a3 : ∀ (x0_ : api_Route), ∀ (x1_ : api_Route), RefV Tryd.prog a3v.v [c_api_Route.val x0_, c_api_Route.val x1_] (a3 x0_ x1_) (fun r_ : Int => .int .i64 r_)) (s2 : Int) (s137 : Int) :
    SJ slices_partialInsertionSortCmpFunc_api_Route.cx [.code (c2 (c2 (c2 (c2 (c2 (c1 (c1 (c2 (c1 (c1 (c2 (c1 (c2 (c2 slices_partialInsertionSortCmpFunc_api_Route.B)))))))))))))), .inBlock 1, .code (c2 (c2 (c1 (c1 (c2 (c1 (c2 (c2 slices_partialInsertionSortCmpFunc_api_Route.B)))))))), .inLoop (c1 (c1 (c2 (c1 (c2 (c2 slices_partialInsertionSortCmpFunc_api_Route.B)))))), .inBlock 0, .code (c2 (c2 (c2 slices_partialInsertionSortCmpFunc_api_Route.B)))] [(0, Sl.v a0), (1, .int .i64 a1), (2, .int .i64 a2), (3, a3v.v), (9, .int .i64 s137), (10, .int .i64 s2)] [] (slices_partialInsertionSortCmpFunc_api_Route.K3 a0 a2 a3 s2 s137) (slices_partialInsertionSortCmpFunc_api_Route.F1 a0 a1 a2 a3v) := by
  unfold slices_partialInsertionSortCmpFunc_api_Route.K3
  refine SJ.less [0, 1, 2, 3, 9, 10] (m' := [(0, Sl.v a0), (1, .int .i64 a1), (2, .int .i64 a2), (3, a3v.v), (9, .int .i64 s137), (10, .int .i64 s2)]) ?_
  exact slices_partialInsertionSortCmpFunc_api_Route.K2_ok a0 a1 a2 a3v a3 h_a3 s2 s137
noncomputable def slices_partialInsertionSortCmpFunc_api_Route.F3 (a0 : Sl) (a1 : Int) (a2 : Int) (a3v : Any) (s2 : Int) (s137 : Int) : (LS Int (LS (Int × Int) Bool)) → Reach := loopF [.inLoop (c1 (c1 (c2 (c1 (c2 (c1 (c2 (c2 (c2 (c2 (c1 (c1 (c2 (c1 (c1 (c2 (c1 (c2 (c2 slices_partialInsertionSortCmpFunc_api_Route.B))))))))))))))))))), .inBlock 4, .code (c2 (c2 (c2 (c2 (c2 (c1 (c1 (c2 (c1 (c1 (c2 (c1 (c2 (c2 slices_partialInsertionSortCmpFunc_api_Route.B)))))))))))))), .inBlock 1, .code (c2 (c2 (c1 (c1 (c2 (c1 (c2 (c2 slices_partialInsertionSortCmpFunc_api_Route.B)))))))), .inLoop (c1 (c1 (c2 (c1 (c2 (c2 slices_partialInsertionSortCmpFunc_api_Route.B)))))), .inBlock 0, .code (c2 (c2 (c2 slices_partialInsertionSortCmpFunc_api_Route.B)))] (fun s_ : Int => [(0, Sl.v a0), (1, .int .i64 a1), (2, .int .i64 a2), (3, a3v.v), (9, .int .i64 s137), (10, .int .i64 s2), (11, .int .i64 s_)]) (fun s_ : Int => []) (slices_partialInsertionSortCmpFunc_api_Route.F1 a0 a1 a2 a3v)
noncomputable def slices_partialInsertionSortCmpFunc_api_Route.L3 (a0 : Sl) (a2 : Int) (a3 : api_Route → api_Route → M Int) (s2 : Int) (s137 : Int) (s233 : Int) : M (LS Int (LS (Int × Int) Bool)) :=
  if s233 ≥ 1 then
    draw >>= fun _ =>
    idx a0.a a0.len s233 36 >>= fun p247 =>
    ld c_api_Route p247 >>= fun x248 =>
    idx a0.a a0.len (IntKind.wrap .i64 (s233 - 1)) 36 >>= fun p249 =>
    ld c_api_Route p249 >>= fun x250 =>
    a3 x248 x250 >>= fun r251 =>
    if ¬ (r251 < 0) then
      (slices_partialInsertionSortCmpFunc_api_Route.K3 a0 a2 a3 s2 s137) >>= fun b => pure (LS.done b)
    else
      draw >>= fun _ =>
      idx a0.a a0.len (IntKind.wrap .i64 (s233 - 1)) 36 >>= fun p252 =>
      ld c_api_Route p252 >>= fun x253 =>
      idx a0.a a0.len s233 36 >>= fun p254 =>
      ld c_api_Route p254 >>= fun x255 =>
      idx a0.a a0.len s233 36 >>= fun p256 =>
      st c_api_Route p256 x253 >>= fun _ =>
      idx a0.a a0.len (IntKind.wrap .i64 (s233 - 1)) 36 >>= fun p257 =>
      st c_api_Route p257 x255 >>= fun _ =>
      pure (LS.next (IntKind.wrap .i64 (s233 - 1)))
  else
    (slices_partialInsertionSortCmpFunc_api_Route.K3 a0 a2 a3 s2 s137) >>= fun b => pure (LS.done b)
theorem slices_partialInsertionSortCmpFunc_api_Route.L3_ok (a0 : Sl) (a1 : Int) (a2 : Int) (a3v : Any) (a3 : api_Route → api_Route → M Int) (h_a3 : ∀ (x0_ : api_Route), ∀ (x1_ : api_Route), RefV Tryd.prog a3v.v [c_api_Route.val x0_, c_api_Route.val x1_] (a3 x0_ x1_) (fun r_ : Int => .int .i64 r_)) (s2 : Int) (s137 : Int) (s233 : Int) :
    SJ slices_partialInsertionSortCmpFunc_api_Route.cx [.code (c1 (c1 (c2 (c1 (c2 (c1 (c2 (c2 (c2 (c2 (c1 (c1 (c2 (c1 (c1 (c2 (c1 (c2 (c2 slices_partialInsertionSortCmpFunc_api_Route.B))))))))))))))))))), .inLoop (c1 (c1 (c2 (c1 (c2 (c1 (c2 (c2 (c2 (c2 (c1 (c1 (c2 (c1 (c1 (c2 (c1 (c2 (c2 slices_partialInsertionSortCmpFunc_api_Route.B))))))))))))))))))), .inBlock 4, .code (c2 (c2 (c2 (c2 (c2 (c1 (c1 (c2 (c1 (c1 (c2 (c1 (c2 (c2 slices_partialInsertionSortCmpFunc_api_Route.B)))))))))))))), .inBlock 1, .code (c2 (c2 (c1 (c1 (c2 (c1 (c2 (c2 slices_partialInsertionSortCmpFunc_api_Route.B)))))))), .inLoop (c1 (c1 (c2 (c1 (c2 (c2 slices_partialInsertionSortCmpFunc_api_Route.B)))))), .inBlock 0, .code (c2 (c2 (c2 slices_partialInsertionSortCmpFunc_api_Route.B)))] [(0, Sl.v a0), (1, .int .i64 a1), (2, .int .i64 a2), (3, a3v.v), (9, .int .i64 s137), (10, .int .i64 s2), (11, .int .i64 s233)] [] (slices_partialInsertionSortCmpFunc_api_Route.L3 a0 a2 a3 s2 s137 s233) (slices_partialInsertionSortCmpFunc_api_Route.F3 a0 a1 a2 a3v s2 s137) := by
  unfold slices_partialInsertionSortCmpFunc_api_Route.L3
  refine SJ.seq ?_
  refine SJ.sr 2 ?_
  refine OJ.go 2 [(69, .bool (decide (s233 ≥ 1))), (68, .int .i64 s233)] ?_
  refine OJ.nil ?_
  refine SJ.cond (t := (.tmp 69)) (b := decide (s233 ≥ 1)) decide_eq_true_iff (fun hc259 => ?_) (fun hc259 => ?_)
  · refine SJ.skip ?_
    refine SJ.seq ?_
    refine SJ.block (id := 5) ?_
    refine SJ.seq ?_
    refine SJ.seq ?_
    refine SJ.draw (id := 16) (kd := [0, 0, 0, 0, 1, 0, 0, 0, 0, 1, 2, 0, 0]) (bef := [0, 0, 0, 6, 14, 0, 0, 64, 224, 480, 1023, 2047, 4095]) (ord := [0, 1, 2, 3, 4, 5, 6, 7, 8, 9, 10, 11, 12]) mixed ?_
    refine OJ.go 3 [(74, .int .i64 s233), (73, Sl.v a0), (72, a3v.v)] ?_
    refine OJ.idxS (d := 75) (T := 39) (y := .tmp 73) (j := .tmp 74) (E := 32) (cap := a0.cap) (k := .i64) (fun p247 => ?_)
    refine OJ.ld (d := 76) (y := .tmp 75) (pend2 := fun x248 => [⟨4, 32, p247, c_api_Route.val x248⟩]) Ty32 (fun _ => rfl) (fun x248 => ?_)
    refine OJ.go 3 [(79, .int .i64 (IntKind.wrap .i64 (s233 - 1))), (78, .int .i64 s233), (77, Sl.v a0)] ?_
    refine OJ.idxS (d := 80) (T := 39) (y := .tmp 77) (j := .tmp 79) (E := 32) (cap := a0.cap) (k := .i64) (fun p249 => ?_)
    refine OJ.ld (d := 81) (y := .tmp 80) (pend2 := fun x250 => [⟨9, 32, p249, c_api_Route.val x250⟩, ⟨4, 32, p247, c_api_Route.val x248⟩]) Ty32 (fun _ => rfl) (fun x250 => ?_)
    refine OJ.callV1 (d := 82) (ats := #[32, 32]) (args := [.tmp 76, .tmp 81]) (fo := .tmp 72) (vals := [c_api_Route.val x248, c_api_Route.val x250]) (owed := []) (h_a3 x248 x250) (fun r251 => ?_)
    refine OW.nil ?_
    refine OJ.go 2 [(84, .bool (!(decide (r251 < 0)))), (83, .bool (decide (r251 < 0)))] ?_
    refine OJ.nil ?_
    refine SJ.cond (t := (.tmp 84)) (b := (!(decide (r251 < 0)))) (bnot_iff decide_eq_true_iff) (fun hc258 => ?_) (fun hc258 => ?_)
    · refine SJ.exit (id := 4) (by rfl) ?_
      refine SJ.less [0, 1, 2, 3, 9, 10] (m' := [(0, Sl.v a0), (1, .int .i64 a1), (2, .int .i64 a2), (3, a3v.v), (9, .int .i64 s137), (10, .int .i64 s2)]) ?_
      refine SJ.done ?_
      exact slices_partialInsertionSortCmpFunc_api_Route.K3_ok a0 a1 a2 a3v a3 h_a3 s2 s137
    · refine SJ.skip ?_
      refine SJ.draw (id := 17) (kd := [0, 0, 0, 0, 0, 0, 0, 0, 0, 1, 0, 0, 0, 1, 0, 2, 0, 2]) (bef := [0, 0, 0, 0, 8, 0, 0, 64, 224, 480, 0, 0, 3072, 7168, 16355, 32739, 65535, 131071]) (ord := [0, 1, 2, 3, 4, 5, 6, 7, 8, 9, 10, 11, 12, 13, 14, 15, 16, 17]) mixed ?_
      refine OJ.go 8 [(92, .int .i64 (IntKind.wrap .i64 (s233 - 1))), (91, .int .i64 s233), (90, Sl.v a0), (89, .int .i64 (IntKind.wrap .i64 (s233 - 1))), (88, .int .i64 s233), (87, Sl.v a0), (86, .int .i64 s233), (85, Sl.v a0)] ?_
      refine OJ.idxS (d := 93) (T := 39) (y := .tmp 90) (j := .tmp 92) (E := 32) (cap := a0.cap) (k := .i64) (fun p252 => ?_)
      refine OJ.ld (d := 94) (y := .tmp 93) (pend2 := fun x253 => [⟨9, 32, p252, c_api_Route.val x253⟩]) Ty32 (fun _ => rfl) (fun x253 => ?_)
      refine OJ.go 2 [(96, .int .i64 s233), (95, Sl.v a0)] ?_
      refine OJ.idxS (d := 97) (T := 39) (y := .tmp 95) (j := .tmp 96) (E := 32) (cap := a0.cap) (k := .i64) (fun p254 => ?_)
      refine OJ.ld (d := 98) (y := .tmp 97) (pend2 := fun x255 => [⟨13, 32, p254, c_api_Route.val x255⟩, ⟨9, 32, p252, c_api_Route.val x253⟩]) Ty32 (fun _ => rfl) (fun x255 => ?_)
      refine OJ.idxS (d := 99) (T := 39) (y := .tmp 85) (j := .tmp 86) (E := 32) (cap := a0.cap) (k := .i64) (fun p256 => ?_)
      refine OJ.st (y := .tmp 99) (z := .tmp 94) (owed := []) Ty32 ?_
      refine OW.nil ?_
      refine OJ.idxS (d := 100) (T := 39) (y := .tmp 87) (j := .tmp 89) (E := 32) (cap := a0.cap) (k := .i64) (fun p257 => ?_)
      refine OJ.st (y := .tmp 100) (z := .tmp 98) (owed := []) Ty32 ?_
      refine OW.nil ?_
      refine OJ.nil ?_
      refine SJ.inBlock ?_
      refine SJ.rg 3 ?_
      refine OJ.go 3 [(11, .int .i64 (IntKind.wrap .i64 (s233 - 1))), (71, .int .i64 (IntKind.wrap .i64 (s233 - 1))), (70, .int .i64 s233)] ?_
      refine OJ.nil ?_
      exact SJ.at_ [0, 1, 2, 3, 9, 10, 11] rfl
  · refine SJ.exit (id := 4) (by rfl) ?_
    refine SJ.less [0, 1, 2, 3, 9, 10] (m' := [(0, Sl.v a0), (1, .int .i64 a1), (2, .int .i64 a2), (3, a3v.v), (9, .int .i64 s137), (10, .int .i64 s2)]) ?_
    refine SJ.done ?_
    exact slices_partialInsertionSortCmpFunc_api_Route.K3_ok a0 a1 a2 a3v a3 h_a3 s2 s137
noncomputable def slices_partialInsertionSortCmpFunc_api_Route.K4 (a0 : Sl) (a1 : Int) (a2 : Int) (a3 : api_Route → api_Route → M Int) (s2 : Int) (s137 : Int) : M (LS (Int × Int) Bool) :=
  if s137 = a2 then
    pure (LS.done true)
  else
    if (IntKind.wrap .i64 (a2 - a1)) < 50 then
      pure (LS.done false)
    else
      draw >>= fun _ =>
      idx a0.a a0.len (IntKind.wrap .i64 (s137 - 1)) 36 >>= fun p145 =>
      ld c_api_Route p145 >>= fun x146 =>
      idx a0.a a0.len s137 36 >>= fun p147 =>
      ld c_api_Route p147 >>= fun x148 =>
      idx a0.a a0.len s137 36 >>= fun p149 =>
      st c_api_Route p149 x146 >>= fun _ =>
      idx a0.a a0.len (IntKind.wrap .i64 (s137 - 1)) 36 >>= fun p150 =>
      st c_api_Route p150 x148 >>= fun _ =>
      if (IntKind.wrap .i64 (s137 - a1)) ≥ 2 then
        loopM (fun s_ : Int => slices_partialInsertionSortCmpFunc_api_Route.L3 a0 a2 a3 s2 s137 s_) (IntKind.wrap .i64 (s137 - 1))
      else
        slices_partialInsertionSortCmpFunc_api_Route.K2 a0 a2 a3 s2 s137
theorem slices_partialInsertionSortCmpFunc_api_Route.K4_ok (a0 : Sl) (a1 : Int) (a2 : Int) (a3v : Any) (a3 : api_Route → api_Route → M Int) (h_a3 : ∀ (x0_ : api_Route), ∀ (x1_ : api_Route), RefV Tryd.prog a3v.v [c_api_Route.val x0_, c_api_Route.val x1_] (a3 x0_ x1_) (fun r_ : Int => .int .i64 r_)) (s2 : Int) (s137 : Int) :
    SJ slices_partialInsertionSortCmpFunc_api_Route.cx [.code (c2 (c1 (c1 (c2 (c1 (c1 (c2 (c1 (c2 (c2 slices_partialInsertionSortCmpFunc_api_Route.B)))))))))), .inBlock 1, .code (c2 (c2 (c1 (c1 (c2 (c1 (c2 (c2 slices_partialInsertionSortCmpFunc_api_Route.B)))))))), .inLoop (c1 (c1 (c2 (c1 (c2 (c2 slices_partialInsertionSortCmpFunc_api_Route.B)))))), .inBlock 0, .code (c2 (c2 (c2 slices_partialInsertionSortCmpFunc_api_Route.B)))] [(0, Sl.v a0), (1, .int .i64 a1), (2, .int .i64 a2), (3, a3v.v), (9, .int .i64 s137), (10, .int .i64 s2)] [] (slices_partialInsertionSortCmpFunc_api_Route.K4 a0 a1 a2 a3 s2 s137) (slices_partialInsertionSortCmpFunc_api_Route.F1 a0 a1 a2 a3v) := by
  unfold slices_partialInsertionSortCmpFunc_api_Route.K4
  refine SJ.seq ?_
  refine SJ.sr 3 ?_
  refine OJ.go 3 [(41, .bool (s137 == a2)), (40, .int .i64 a2), (39, .int .i64 s137)] ?_
  refine OJ.nil ?_
  refine SJ.cond (t := (.tmp 41)) (b := (s137 == a2)) beq_iff_eq (fun hc262 => ?_) (fun hc262 => ?_)
  · refine SJ.sr 1 ?_
    refine OJ.go 1 [(8, .bool true)] ?_
    refine OJ.nil ?_
    exact SJ.ret rfl (Res.run (ys := [.bool true]) (.tmp (by kernel_rfl) .nil) rfl)
  · refine SJ.skip ?_
    refine SJ.seq ?_
    refine SJ.sr 4 ?_
    refine OJ.go 4 [(45, .bool (decide ((IntKind.wrap .i64 (a2 - a1)) < 50))), (44, .int .i64 (IntKind.wrap .i64 (a2 - a1))), (43, .int .i64 a1), (42, .int .i64 a2)] ?_
    refine OJ.nil ?_
    refine SJ.cond (t := (.tmp 45)) (b := decide ((IntKind.wrap .i64 (a2 - a1)) < 50)) decide_eq_true_iff (fun hc261 => ?_) (fun hc261 => ?_)
    · refine SJ.sr 1 ?_
      refine OJ.go 1 [(8, .bool false)] ?_
      refine OJ.nil ?_
      exact SJ.ret rfl (Res.run (ys := [.bool false]) (.tmp (by kernel_rfl) .nil) rfl)
    · refine SJ.skip ?_
      refine SJ.seq ?_
      refine SJ.draw (id := 11) (kd := [0, 0, 0, 0, 0, 0, 0, 0, 0, 1, 0, 0, 0, 1, 0, 2, 0, 2]) (bef := [0, 0, 0, 0, 8, 0, 0, 64, 224, 480, 0, 0, 3072, 7168, 16355, 32739, 65535, 131071]) (ord := [0, 1, 2, 3, 4, 5, 6, 7, 8, 9, 10, 11, 12, 13, 14, 15, 16, 17]) mixed ?_
      refine OJ.go 8 [(53, .int .i64 (IntKind.wrap .i64 (s137 - 1))), (52, .int .i64 s137), (51, Sl.v a0), (50, .int .i64 (IntKind.wrap .i64 (s137 - 1))), (49, .int .i64 s137), (48, Sl.v a0), (47, .int .i64 s137), (46, Sl.v a0)] ?_
      refine OJ.idxS (d := 54) (T := 39) (y := .tmp 51) (j := .tmp 53) (E := 32) (cap := a0.cap) (k := .i64) (fun p145 => ?_)
      refine OJ.ld (d := 55) (y := .tmp 54) (pend2 := fun x146 => [⟨9, 32, p145, c_api_Route.val x146⟩]) Ty32 (fun _ => rfl) (fun x146 => ?_)
      refine OJ.go 2 [(57, .int .i64 s137), (56, Sl.v a0)] ?_
      refine OJ.idxS (d := 58) (T := 39) (y := .tmp 56) (j := .tmp 57) (E := 32) (cap := a0.cap) (k := .i64) (fun p147 => ?_)
      refine OJ.ld (d := 59) (y := .tmp 58) (pend2 := fun x148 => [⟨13, 32, p147, c_api_Route.val x148⟩, ⟨9, 32, p145, c_api_Route.val x146⟩]) Ty32 (fun _ => rfl) (fun x148 => ?_)
      refine OJ.idxS (d := 60) (T := 39) (y := .tmp 46) (j := .tmp 47) (E := 32) (cap := a0.cap) (k := .i64) (fun p149 => ?_)
      refine OJ.st (y := .tmp 60) (z := .tmp 55) (owed := []) Ty32 ?_
      refine OW.nil ?_
      refine OJ.idxS (d := 61) (T := 39) (y := .tmp 48) (j := .tmp 50) (E := 32) (cap := a0.cap) (k := .i64) (fun p150 => ?_)
      refine OJ.st (y := .tmp 61) (z := .tmp 59) (owed := []) Ty32 ?_
      refine OW.nil ?_
      refine OJ.nil ?_
      refine SJ.seq ?_
      refine SJ.sr 4 ?_
      refine OJ.go 4 [(65, .bool (decide ((IntKind.wrap .i64 (s137 - a1)) ≥ 2))), (64, .int .i64 (IntKind.wrap .i64 (s137 - a1))), (63, .int .i64 a1), (62, .int .i64 s137)] ?_
      refine OJ.nil ?_
      refine SJ.cond (t := (.tmp 65)) (b := decide ((IntKind.wrap .i64 (s137 - a1)) ≥ 2)) decide_eq_true_iff (fun hc260 => ?_) (fun hc260 => ?_)
      · refine SJ.sr 3 ?_
        refine OJ.go 3 [(11, .int .i64 (IntKind.wrap .i64 (s137 - 1))), (67, .int .i64 (IntKind.wrap .i64 (s137 - 1))), (66, .int .i64 s137)] ?_
        refine OJ.nil ?_
        refine SJ.block (id := 4) ?_
        exact SJ.loop (fun s_ : Int => [(0, Sl.v a0), (1, .int .i64 a1), (2, .int .i64 a2), (3, a3v.v), (9, .int .i64 s137), (10, .int .i64 s2), (11, .int .i64 s_)]) (fun s_ : Int => []) [0, 1, 2, 3, 9, 10, 11] rfl (fun _ _ => rfl) (fun s_ => slices_partialInsertionSortCmpFunc_api_Route.L3_ok a0 a1 a2 a3v a3 h_a3 s2 s137 s_)
      · refine SJ.skip ?_
        refine SJ.less [0, 1, 2, 3, 9, 10] (m' := [(0, Sl.v a0), (1, .int .i64 a1), (2, .int .i64 a2), (3, a3v.v), (9, .int .i64 s137), (10, .int .i64 s2)]) ?_
        exact slices_partialInsertionSortCmpFunc_api_Route.K2_ok a0 a1 a2 a3v a3 h_a3 s2 s137
noncomputable def slices_partialInsertionSortCmpFunc_api_Route.F4 (a0 : Sl) (a1 : Int) (a2 : Int) (a3v : Any) (s2 : Int) : (LS Int (LS (Int × Int) Bool)) → Reach := loopF [.inLoop (c1 (c1 (c1 (c1 (c1 (c2 (c1 (c1 (c2 (c1 (c2 (c2 slices_partialInsertionSortCmpFunc_api_Route.B)))))))))))), .inBlock 2, .code (c2 (c1 (c1 (c2 (c1 (c1 (c2 (c1 (c2 (c2 slices_partialInsertionSortCmpFunc_api_Route.B)))))))))), .inBlock 1, .code (c2 (c2 (c1 (c1 (c2 (c1 (c2 (c2 slices_partialInsertionSortCmpFunc_api_Route.B)))))))), .inLoop (c1 (c1 (c2 (c1 (c2 (c2 slices_partialInsertionSortCmpFunc_api_Route.B)))))), .inBlock 0, .code (c2 (c2 (c2 slices_partialInsertionSortCmpFunc_api_Route.B)))] (fun s_ : Int => [(0, Sl.v a0), (1, .int .i64 a1), (2, .int .i64 a2), (3, a3v.v), (9, .int .i64 s_), (10, .int .i64 s2)]) (fun s_ : Int => []) (slices_partialInsertionSortCmpFunc_api_Route.F1 a0 a1 a2 a3v)
noncomputable def slices_partialInsertionSortCmpFunc_api_Route.L4 (a0 : Sl) (a1 : Int) (a2 : Int) (a3 : api_Route → api_Route → M Int) (s2 : Int) (s137 : Int) : M (LS Int (LS (Int × Int) Bool)) :=
  draw >>= fun _ =>
  (if s137 < a2 then
      idx a0.a a0.len s137 36 >>= fun p263 =>
      ld c_api_Route p263 >>= fun x264 =>
      idx a0.a a0.len (IntKind.wrap .i64 (s137 - 1)) 36 >>= fun p265 =>
      ld c_api_Route p265 >>= fun x266 =>
      a3 x264 x266 >>= fun r267 =>
      pure (!(decide (r267 < 0)))
    else
      pure false) >>= fun y268 =>
  if y268 = true then
    pure (LS.next (IntKind.wrap .i64 (s137 + 1)))
  else
    (slices_partialInsertionSortCmpFunc_api_Route.K4 a0 a1 a2 a3 s2 s137) >>= fun b => pure (LS.done b)
theorem slices_partialInsertionSortCmpFunc_api_Route.L4_ok (a0 : Sl) (a1 : Int) (a2 : Int) (a3v : Any) (a3 : api_Route → api_Route → M Int) (h_a3 : ∀ (x0_ : api_Route), ∀ (x1_ : api_Route), RefV Tryd.prog a3v.v [c_api_Route.val x0_, c_api_Route.val x1_] (a3 x0_ x1_) (fun r_ : Int => .int .i64 r_)) (s2 : Int) (s137 : Int) :
    SJ slices_partialInsertionSortCmpFunc_api_Route.cx [.code (c1 (c1 (c1 (c1 (c1 (c2 (c1 (c1 (c2 (c1 (c2 (c2 slices_partialInsertionSortCmpFunc_api_Route.B)))))))))))), .inLoop (c1 (c1 (c1 (c1 (c1 (c2 (c1 (c1 (c2 (c1 (c2 (c2 slices_partialInsertionSortCmpFunc_api_Route.B)))))))))))), .inBlock 2, .code (c2 (c1 (c1 (c2 (c1 (c1 (c2 (c1 (c2 (c2 slices_partialInsertionSortCmpFunc_api_Route.B)))))))))), .inBlock 1, .code (c2 (c2 (c1 (c1 (c2 (c1 (c2 (c2 slices_partialInsertionSortCmpFunc_api_Route.B)))))))), .inLoop (c1 (c1 (c2 (c1 (c2 (c2 slices_partialInsertionSortCmpFunc_api_Route.B)))))), .inBlock 0, .code (c2 (c2 (c2 slices_partialInsertionSortCmpFunc_api_Route.B)))] [(0, Sl.v a0), (1, .int .i64 a1), (2, .int .i64 a2), (3, a3v.v), (9, .int .i64 s137), (10, .int .i64 s2)] [] (slices_partialInsertionSortCmpFunc_api_Route.L4 a0 a1 a2 a3 s2 s137) (slices_partialInsertionSortCmpFunc_api_Route.F4 a0 a1 a2 a3v s2) := by
  unfold slices_partialInsertionSortCmpFunc_api_Route.L4
  refine SJ.seq ?_
  refine SJ.seq ?_
  refine SJ.draw (id := 5) (kd := [0, 0, 0, 0, 0, 0, 0, 0, 1, 0, 0, 0, 0, 1, 2, 0, 0, 0]) (bef := [0, 0, 3, 7, 15, 15, 15, 111, 239, 15, 15, 1039, 3599, 7695, 16383, 32767, 65535, 131071]) (ord := [0, 1, 2, 3, 4, 5, 6, 7, 8, 9, 10, 11, 12, 13, 14, 15, 16, 17]) mixed ?_
  refine OJ.go 4 [(22, .bool (decide (s137 < a2))), (21, .bool (decide (s137 < a2))), (20, .int .i64 a2), (19, .int .i64 s137)] ?_
  refine OJ.join (b := decide (s137 < a2)) [4, 5, 6, 7, 8, 9, 10, 11, 12, 13, 14, 15, 16, 17] [] [0, 1, 2, 3, 9, 10, 36] (fun y268 => [(0, Sl.v a0), (1, .int .i64 a1), (2, .int .i64 a2), (3, a3v.v), (9, .int .i64 s137), (10, .int .i64 s2), (36, .bool y268)]) [] [8, 13] (t := 22) decide_eq_true_iff (fun hp_ => ?_) (fun hp_ => ?_) (fun _ _ _ _ _ _ h_ => h_) (fun y268 => ?_)
  · refine OJ.go 3 [(25, .int .i64 s137), (24, Sl.v a0), (23, a3v.v)] ?_
    refine OJ.idxS (d := 26) (T := 39) (y := .tmp 24) (j := .tmp 25) (E := 32) (cap := a0.cap) (k := .i64) (fun p263 => ?_)
    refine OJ.ld (d := 27) (y := .tmp 26) (pend2 := fun x264 => [⟨8, 32, p263, c_api_Route.val x264⟩]) Ty32 (fun _ => rfl) (fun x264 => ?_)
    refine OJ.go 3 [(30, .int .i64 (IntKind.wrap .i64 (s137 - 1))), (29, .int .i64 s137), (28, Sl.v a0)] ?_
    refine OJ.idxS (d := 31) (T := 39) (y := .tmp 28) (j := .tmp 30) (E := 32) (cap := a0.cap) (k := .i64) (fun p265 => ?_)
    refine OJ.ld (d := 32) (y := .tmp 31) (pend2 := fun x266 => [⟨13, 32, p265, c_api_Route.val x266⟩, ⟨8, 32, p263, c_api_Route.val x264⟩]) Ty32 (fun _ => rfl) (fun x266 => ?_)
    refine OJ.callV1 (d := 33) (ats := #[32, 32]) (args := [.tmp 27, .tmp 32]) (fo := .tmp 23) (vals := [c_api_Route.val x264, c_api_Route.val x266]) (owed := []) (h_a3 x264 x266) (fun r267 => ?_)
    refine OW.nil ?_
    refine OJ.go 3 [(36, .bool (!(decide (r267 < 0)))), (35, .bool (!(decide (r267 < 0)))), (34, .bool (decide (r267 < 0)))] ?_
    exact OJ.nil ⟨(Cov.mem (Cov.drop (List.mem_of_getElem? (i := 1) rfl) (Cov.drop (List.mem_of_getElem? (i := 0) rfl) Cov.nil))), rfl, _, rfl, by kernel_rfl⟩
  · refine OJ.go 14 [(36, .bool false), (35, undef), (34, undef), (33, undef), (32, undef), (31, undef), (30, undef), (29, undef), (28, undef), (27, undef), (26, undef), (25, undef), (24, undef), (23, undef)] ?_
    exact OJ.nil ⟨(Cov.mem Cov.nil), rfl, _, rfl, by kernel_rfl⟩
  · refine OJ.nil ?_
    refine SJ.cond (t := (.tmp 36)) (b := y268) Iff.rfl (fun hc269 => ?_) (fun hc269 => ?_)
    · refine SJ.skip ?_
      refine SJ.block (id := 3) ?_
      refine SJ.rg 3 ?_
      refine OJ.go 3 [(9, .int .i64 (IntKind.wrap .i64 (s137 + 1))), (38, .int .i64 (IntKind.wrap .i64 (s137 + 1))), (37, .int .i64 s137)] ?_
      refine OJ.nil ?_
      refine SJ.inBlock ?_
      exact SJ.at_ [0, 1, 2, 3, 9, 10] rfl
    · refine SJ.exit (id := 2) (by rfl) ?_
      refine SJ.less [0, 1, 2, 3, 9, 10] (m' := [(0, Sl.v a0), (1, .int .i64 a1), (2, .int .i64 a2), (3, a3v.v), (9, .int .i64 s137), (10, .int .i64 s2)]) ?_
      refine SJ.done ?_
      exact slices_partialInsertionSortCmpFunc_api_Route.K4_ok a0 a1 a2 a3v a3 h_a3 s2 s137
noncomputable def slices_partialInsertionSortCmpFunc_api_Route.L1 (a0 : Sl) (a1 : Int) (a2 : Int) (a3 : api_Route → api_Route → M Int) (s1 : Int) (s2 : Int) : M (LS (Int × Int) Bool) :=
  if s2 < 5 then
    loopM (fun s_ : Int => slices_partialInsertionSortCmpFunc_api_Route.L4 a0 a1 a2 a3 s2 s_) s1
  else
    pure (LS.done false)
theorem slices_partialInsertionSortCmpFunc_api_Route.L1_ok (a0 : Sl) (a1 : Int) (a2 : Int) (a3v : Any) (a3 : api_Route → api_Route → M Int) (h_a3 : ∀ (x0_ : api_Route), ∀ (x1_ : api_Route), RefV Tryd.prog a3v.v [c_api_Route.val x0_, c_api_Route.val x1_] (a3 x0_ x1_) (fun r_ : Int => .int .i64 r_)) (s1 : Int) (s2 : Int) :
    SJ slices_partialInsertionSortCmpFunc_api_Route.cx [.code (c1 (c1 (c2 (c1 (c2 (c2 slices_partialInsertionSortCmpFunc_api_Route.B)))))), .inLoop (c1 (c1 (c2 (c1 (c2 (c2 slices_partialInsertionSortCmpFunc_api_Route.B)))))), .inBlock 0, .code (c2 (c2 (c2 slices_partialInsertionSortCmpFunc_api_Route.B)))] [(0, Sl.v a0), (1, .int .i64 a1), (2, .int .i64 a2), (3, a3v.v), (9, .int .i64 s1), (10, .int .i64 s2)] [] (slices_partialInsertionSortCmpFunc_api_Route.L1 a0 a1 a2 a3 s1 s2) (slices_partialInsertionSortCmpFunc_api_Route.F1 a0 a1 a2 a3v) := by
  unfold slices_partialInsertionSortCmpFunc_api_Route.L1
  refine SJ.seq ?_
  refine SJ.sr 2 ?_
  refine OJ.go 2 [(16, .bool (decide (s2 < 5))), (15, .int .i64 s2)] ?_
  refine OJ.nil ?_
  refine SJ.cond (t := (.tmp 16)) (b := decide (s2 < 5)) decide_eq_true_iff (fun hc270 => ?_) (fun hc270 => ?_)
  · refine SJ.skip ?_
    refine SJ.seq ?_
    refine SJ.block (id := 1) ?_
    refine SJ.seq ?_
    refine SJ.block (id := 2) ?_
    exact SJ.loop (fun s_ : Int => [(0, Sl.v a0), (1, .int .i64 a1), (2, .int .i64 a2), (3, a3v.v), (9, .int .i64 s_), (10, .int .i64 s2)]) (fun s_ : Int => []) [0, 1, 2, 3, 9, 10] rfl (fun _ _ => rfl) (fun s_ => slices_partialInsertionSortCmpFunc_api_Route.L4_ok a0 a1 a2 a3v a3 h_a3 s2 s_)
  · refine SJ.exit (id := 0) (by rfl) ?_
    refine SJ.sr 1 ?_
    refine OJ.go 1 [(8, .bool false)] ?_
    refine OJ.nil ?_
    exact SJ.ret rfl (Res.run (ys := [.bool false]) (.tmp (by kernel_rfl) .nil) rfl)
noncomputable def slices_partialInsertionSortCmpFunc_api_Route (a0 : Sl) (a1 : Int) (a2 : Int) (a3 : api_Route → api_Route → M Int) : M Bool :=
  loopM (fun s_ : (Int × Int) => slices_partialInsertionSortCmpFunc_api_Route.L1 a0 a1 a2 a3 s_.1 s_.2) (IntKind.wrap .i64 (a1 + 1), 0)
theorem slices_partialInsertionSortCmpFunc_api_Route_ok (a0 : Sl) (a1 : Int) (a2 : Int) (a3v : Any) (a3 : api_Route → api_Route → M Int) (h_a3 : ∀ (x0_ : api_Route), ∀ (x1_ : api_Route), RefV Tryd.prog a3v.v [c_api_Route.val x0_, c_api_Route.val x1_] (a3 x0_ x1_) (fun r_ : Int => .int .i64 r_)) : Ref Tryd.prog 75 [Sl.v a0, .int .i64 a1, .int .i64 a2, a3v.v] (slices_partialInsertionSortCmpFunc_api_Route a0 a1 a2 a3) slices_partialInsertionSortCmpFunc_api_Route.out := by
  refine Ref.of (cd := slices_partialInsertionSortCmpFunc_api_Route.B) Tryd.func75 ?_
  show SJ slices_partialInsertionSortCmpFunc_api_Route.cx [.code slices_partialInsertionSortCmpFunc_api_Route.B] [(0, Sl.v a0), (1, .int .i64 a1), (2, .int .i64 a2), (3, a3v.v)] [] (slices_partialInsertionSortCmpFunc_api_Route a0 a1 a2 a3) slices_partialInsertionSortCmpFunc_api_Route.F0
  unfold slices_partialInsertionSortCmpFunc_api_Route
  refine SJ.sr 1 ?_
  refine OJ.go 1 [(8, .bool false)] ?_
  refine OJ.nil ?_
  refine SJ.sr 3 ?_
  refine OJ.go 3 [(9, .int .i64 (IntKind.wrap .i64 (a1 + 1))), (14, .int .i64 (IntKind.wrap .i64 (a1 + 1))), (13, .int .i64 a1)] ?_
  refine OJ.nil ?_
  refine SJ.seq ?_
  refine SJ.sr 1 ?_
  refine OJ.go 1 [(10, .int .i64 0)] ?_
  refine OJ.nil ?_
  refine SJ.block (id := 0) ?_
  exact SJ.loop (fun s_ : (Int × Int) => [(0, Sl.v a0), (1, .int .i64 a1), (2, .int .i64 a2), (3, a3v.v), (9, .int .i64 s_.1), (10, .int .i64 s_.2)]) (fun s_ : (Int × Int) => []) [0, 1, 2, 3, 9, 10] rfl (fun _ _ => rfl) (fun s_ => slices_partialInsertionSortCmpFunc_api_Route.L1_ok a0 a1 a2 a3v a3 h_a3 s_.1 s_.2)
end Go.Proofs.YtfgcobigollfjaaDoor.Lx
