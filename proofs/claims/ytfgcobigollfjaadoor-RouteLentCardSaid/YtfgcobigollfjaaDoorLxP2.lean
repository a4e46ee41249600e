/- Programs of the M-world for Go functions, each with the proof that the Go text does what it says. Printed by lxgen.py. -/
import Derived.Test.YtfgcobigollfjaaDoorLxT
import Derived.Test.YtfgcobigollfjaaDoorLxP0
import Derived.Test.YtfgcobigollfjaaDoorLxP1
set_option linter.unusedVariables false
set_option linter.unusedSimpArgs false
set_option linter.unusedSectionVars false
namespace Go.Proofs.YtfgcobigollfjaaDoor.Lx
open Go Go.Proofs
variable [Loops]
/-! ### weir/weirref4.Less: function 56 -/
noncomputable def weirref4_Less.B : Code := (Tryd.f56.body).getD .skip
noncomputable def weirref4_Less.cx : Fx := ⟨Tryd.prog, 56, Tryd.f56, none⟩
noncomputable def weirref4_Less.out (r_ : Bool) : Value := .bool r_
noncomputable def weirref4_Less.F0 (r_ : Bool) : Reach := .ret (weirref4_Less.out r_)
noncomputable def weirref4_Less.F1 (a0 : api_IP) (a1 : api_IP) (b1 : Nat) (b2 : Nat) : (LS Int Bool) → Reach := loopF [.inLoop (c1 (c1 (c2 (c1 (c2 (c2 weirref4_Less.B)))))), .inBlock 0, .code (c2 (c2 (c2 weirref4_Less.B)))] (fun s_ : Int => [(2, .pointer (some (pt b1 0))), (3, .pointer (some (pt b2 0))), (5, .int .i64 s_)]) (fun s_ : Int => [(b2, c_api_IP.enc a1), (b1, c_api_IP.enc a0)]) weirref4_Less.F0
noncomputable def weirref4_Less.L1 (a0 : api_IP) (a1 : api_IP) (s3 : Int) : M (LS Int Bool) :=
  if s3 < 16 then
    draw >>= fun _ =>
    chk ((0 : Int) ≤ s3 ∧ s3 < (16 : Nat)) >>= fun _ =>
    chk ((0 : Int) ≤ s3 ∧ s3 < (16 : Nat)) >>= fun _ =>
    if (Vec.g a0.A s3 0) ≠ (Vec.g a1.A s3 0) then
      draw >>= fun _ =>
      chk ((0 : Int) ≤ s3 ∧ s3 < (16 : Nat)) >>= fun _ =>
      chk ((0 : Int) ≤ s3 ∧ s3 < (16 : Nat)) >>= fun _ =>
      pure (LS.done (decide ((Vec.g a0.A s3 0) < (Vec.g a1.A s3 0))))
    else
      pure (LS.next (IntKind.wrap .i64 (s3 + 1)))
  else
    pure (LS.done false)
theorem weirref4_Less.L1_ok (a0 : api_IP) (a1 : api_IP) (b1 : Nat) (b2 : Nat) (s3 : Int) :
    SJ weirref4_Less.cx [.code (c1 (c1 (c2 (c1 (c2 (c2 weirref4_Less.B)))))), .inLoop (c1 (c1 (c2 (c1 (c2 (c2 weirref4_Less.B)))))), .inBlock 0, .code (c2 (c2 (c2 weirref4_Less.B)))] [(2, .pointer (some (pt b1 0))), (3, .pointer (some (pt b2 0))), (5, .int .i64 s3)] [(b2, c_api_IP.enc a1), (b1, c_api_IP.enc a0)] (weirref4_Less.L1 a0 a1 s3) (weirref4_Less.F1 a0 a1 b1 b2) := by
  unfold weirref4_Less.L1
  refine SJ.seq <| SJ.sr 2 <| OJ.go 2 [(17, .bool (decide (s3 < 16))), (16, .int .i64 s3)] <| OJ.nil <| SJ.cond (t := (.tmp 17)) (b := decide (s3 < 16)) decide_eq_true_iff (fun hc31 => ?_) (fun hc31 => ?_)
  · refine SJ.skip <| SJ.seq <| SJ.block (id := 1) <| SJ.seq <| SJ.draw (id := 6) (kd := [0, 0, 0, 1, 0, 0, 0, 1, 0]) (bef := [0, 0, 3, 7, 0, 0, 48, 112, 255]) (ord := [0, 1, 2, 3, 4, 5, 6, 7, 8]) mixed ?_
    refine OJ.go 2 [(21, .pointer (some (pt b1 1))), (20, .int .i64 s3)] <| OJ.idxK (d := 22) (T := 26) (y := .tmp 21) (j := .tmp 20) (E := 5) (sz := 1) (b := b1) (o := 1) (k := .i64) (fun hb18 hb19 => ?_)
    refine OJ.kld (d := 23) (y := .tmp 22) (cd := (cI .u8)) (j := 1) (b := b1) (o := (1 + s3.toNat * 1)) (Vec.g a0.A s3 0) (pend2 := [⟨3, 5, (pt b1 (1 + s3.toNat * 1)), (cI .u8).val (Vec.g a0.A s3 0)⟩]) Ty5 rfl (At.trans (At_api_IP_A a0) (At.arr (z := 0) hb18 hb19)) rfl ?_
    refine OJ.go 2 [(25, .pointer (some (pt b2 1))), (24, .int .i64 s3)] <| OJ.idxK (d := 26) (T := 26) (y := .tmp 25) (j := .tmp 24) (E := 5) (sz := 1) (b := b2) (o := 1) (k := .i64) (fun hb20 hb21 => ?_)
    refine OJ.kld (d := 27) (y := .tmp 26) (cd := (cI .u8)) (j := 0) (b := b2) (o := (1 + s3.toNat * 1)) (Vec.g a1.A s3 0) (pend2 := [⟨7, 5, (pt b2 (1 + s3.toNat * 1)), (cI .u8).val (Vec.g a1.A s3 0)⟩, ⟨3, 5, (pt b1 (1 + s3.toNat * 1)), (cI .u8).val (Vec.g a0.A s3 0)⟩]) Ty5 rfl (At.trans (At_api_IP_A a1) (At.arr (z := 0) hb20 hb21)) rfl ?_
    refine OJ.go 1 [(28, .bool ((Vec.g a0.A s3 0) != (Vec.g a1.A s3 0)))] <| OJ.nil <| SJ.cond (t := (.tmp 28)) (b := ((Vec.g a0.A s3 0) != (Vec.g a1.A s3 0))) bne_iff_ne (fun hc30 => ?_) (fun hc30 => ?_)
    · refine SJ.seq <| SJ.draw (id := 7) (kd := [0, 0, 0, 1, 0, 0, 0, 1, 0, 0]) (bef := [0, 0, 3, 7, 0, 0, 48, 112, 255, 511]) (ord := [0, 1, 2, 3, 4, 5, 6, 7, 8, 9]) mixed ?_
      refine OJ.go 2 [(30, .pointer (some (pt b1 1))), (29, .int .i64 s3)] <| OJ.idxK (d := 31) (T := 26) (y := .tmp 30) (j := .tmp 29) (E := 5) (sz := 1) (b := b1) (o := 1) (k := .i64) (fun hb26 hb27 => ?_)
      refine OJ.kld (d := 32) (y := .tmp 31) (cd := (cI .u8)) (j := 1) (b := b1) (o := (1 + s3.toNat * 1)) (Vec.g a0.A s3 0) (pend2 := [⟨3, 5, (pt b1 (1 + s3.toNat * 1)), (cI .u8).val (Vec.g a0.A s3 0)⟩]) Ty5 rfl (At.trans (At_api_IP_A a0) (At.arr (z := 0) hb26 hb27)) rfl ?_
      refine OJ.go 2 [(34, .pointer (some (pt b2 1))), (33, .int .i64 s3)] <| OJ.idxK (d := 35) (T := 26) (y := .tmp 34) (j := .tmp 33) (E := 5) (sz := 1) (b := b2) (o := 1) (k := .i64) (fun hb28 hb29 => ?_)
      refine OJ.kld (d := 36) (y := .tmp 35) (cd := (cI .u8)) (j := 0) (b := b2) (o := (1 + s3.toNat * 1)) (Vec.g a1.A s3 0) (pend2 := [⟨7, 5, (pt b2 (1 + s3.toNat * 1)), (cI .u8).val (Vec.g a1.A s3 0)⟩, ⟨3, 5, (pt b1 (1 + s3.toNat * 1)), (cI .u8).val (Vec.g a0.A s3 0)⟩]) Ty5 rfl (At.trans (At_api_IP_A a1) (At.arr (z := 0) hb28 hb29)) rfl ?_
      exact OJ.go 2 [(4, .bool (decide ((Vec.g a0.A s3 0) < (Vec.g a1.A s3 0)))), (37, .bool (decide ((Vec.g a0.A s3 0) < (Vec.g a1.A s3 0))))] <| OJ.nil <| SJ.r1 (.bool (decide ((Vec.g a0.A s3 0) < (Vec.g a1.A s3 0)))) rfl rfl
    · exact SJ.skip <| SJ.inBlock <| SJ.rg 3 <| OJ.go 3 [(5, .int .i64 (IntKind.wrap .i64 (s3 + 1))), (19, .int .i64 (IntKind.wrap .i64 (s3 + 1))), (18, .int .i64 s3)] <| OJ.nil <| SJ.at_ [2, 3, 5] rfl
  · exact SJ.exit (id := 0) (by rfl) <| SJ.sr 1 <| OJ.go 1 [(4, .bool false)] <| OJ.nil <| SJ.r1 (.bool false) rfl rfl
noncomputable def weirref4_Less (a0 : api_IP) (a1 : api_IP) : M Bool :=
  slot 28 >>= fun b1 =>
  slot 28 >>= fun b2 =>
  if a0.V ≠ a1.V then
    pure (decide (a0.V < a1.V))
  else
    loopM (fun s_ : Int => weirref4_Less.L1 a0 a1 s_) 0
theorem weirref4_Less_ok (a0 : api_IP) (a1 : api_IP) : Ref Tryd.prog 56 [c_api_IP.val a0, c_api_IP.val a1] (weirref4_Less a0 a1) weirref4_Less.out := by
  refine Ref.of (cd := weirref4_Less.B) Tryd.func56 ?_
  show SJ weirref4_Less.cx [.code weirref4_Less.B] [(0, c_api_IP.val a0), (1, c_api_IP.val a1)] [] (weirref4_Less a0 a1) weirref4_Less.F0
  unfold weirref4_Less
  refine SJ.sr 3 <| OJ.slotOf (d := 2) (op := (.box 28 (.tmp 0))) (cd := c_api_IP) (u := a0) (owed := []) (box_run (by kernel_rfl)) (fun b1 => ?_)
  refine OW.nil <| OJ.slotOf (d := 3) (op := (.box 28 (.tmp 1))) (cd := c_api_IP) (u := a1) (owed := []) (box_run (by kernel_rfl)) (fun b2 => ?_)
  refine OW.nil <| OJ.go 1 [(4, .bool false)] <| OJ.nil <| SJ.seq <| SJ.sr 5 <| OJ.go 1 [(6, .pointer (some (pt b1 0)))] <| OJ.kld (d := 7) (y := .tmp 6) (cd := (cI .i64)) (j := 1) (b := b1) (o := 0) a0.V (pend2 := []) Ty3 rfl (At_api_IP_V a0) rfl ?_
  refine OJ.go 1 [(8, .pointer (some (pt b2 0)))] <| OJ.kld (d := 9) (y := .tmp 8) (cd := (cI .i64)) (j := 0) (b := b2) (o := 0) a1.V (pend2 := []) Ty3 rfl (At_api_IP_V a1) rfl ?_
  refine OJ.go 1 [(10, .bool (a0.V != a1.V))] <| OJ.nil <| SJ.cond (t := (.tmp 10)) (b := (a0.V != a1.V)) bne_iff_ne (fun hc32 => ?_) (fun hc32 => ?_)
  · refine SJ.sr 6 <| OJ.go 1 [(11, .pointer (some (pt b1 0)))] <| OJ.kld (d := 12) (y := .tmp 11) (cd := (cI .i64)) (j := 1) (b := b1) (o := 0) a0.V (pend2 := []) Ty3 rfl (At_api_IP_V a0) rfl ?_
    refine OJ.go 1 [(13, .pointer (some (pt b2 0)))] <| OJ.kld (d := 14) (y := .tmp 13) (cd := (cI .i64)) (j := 0) (b := b2) (o := 0) a1.V (pend2 := []) Ty3 rfl (At_api_IP_V a1) rfl ?_
    exact OJ.go 2 [(4, .bool (decide (a0.V < a1.V))), (15, .bool (decide (a0.V < a1.V)))] <| OJ.nil <| SJ.r1 (.bool (decide (a0.V < a1.V))) rfl rfl
  · exact SJ.skip <| SJ.seq <| SJ.sr 1 <| OJ.go 1 [(5, .int .i64 0)] <| OJ.nil <| SJ.block (id := 0) <| SJ.loop (fun s_ : Int => [(2, .pointer (some (pt b1 0))), (3, .pointer (some (pt b2 0))), (5, .int .i64 s_)]) (fun s_ : Int => [(b2, c_api_IP.enc a1), (b1, c_api_IP.enc a0)]) [2, 3, 5] rfl (fun _ _ => rfl) (fun s_ => weirref4_Less.L1_ok a0 a1 b1 b2 s_)

/-! ### weir/weirref14.ahead: function 37 -/
noncomputable def weirref14_ahead.B : Code := (Tryd.f37.body).getD .skip
noncomputable def weirref14_ahead.cx : Fx := ⟨Tryd.prog, 37, Tryd.f37, none⟩
noncomputable def weirref14_ahead.out (r_ : Bool) : Value := .bool r_
noncomputable def weirref14_ahead.F0 (r_ : Bool) : Reach := .ret (weirref14_ahead.out r_)
noncomputable def weirref14_ahead (a0 : api_Prefix) (a1 : api_Prefix) : M Bool :=
  slot 30 >>= fun b1 =>
  slot 30 >>= fun b2 =>
  if ¬ (a0.IP = a1.IP) then
    weirref4_Less a0.IP a1.IP >>= fun r4 =>
    pure r4
  else
    pure (decide (a0.Len < a1.Len))
theorem weirref14_ahead_ok (a0 : api_Prefix) (a1 : api_Prefix) : Ref Tryd.prog 37 [c_api_Prefix.val a0, c_api_Prefix.val a1] (weirref14_ahead a0 a1) weirref14_ahead.out := by
  refine Ref.of (cd := weirref14_ahead.B) Tryd.func37 ?_
  show SJ weirref14_ahead.cx [.code weirref14_ahead.B] [(0, c_api_Prefix.val a0), (1, c_api_Prefix.val a1)] [] (weirref14_ahead a0 a1) weirref14_ahead.F0
  unfold weirref14_ahead
  refine SJ.sr 3 <| OJ.slotOf (d := 2) (op := (.box 30 (.tmp 0))) (cd := c_api_Prefix) (u := a0) (owed := []) (box_run (by kernel_rfl)) (fun b1 => ?_)
  refine OW.nil <| OJ.slotOf (d := 3) (op := (.box 30 (.tmp 1))) (cd := c_api_Prefix) (u := a1) (owed := []) (box_run (by kernel_rfl)) (fun b2 => ?_)
  refine OW.nil <| OJ.go 1 [(4, .bool false)] <| OJ.nil <| SJ.seq <| SJ.sr 5 <| OJ.go 1 [(5, .pointer (some (pt b1 0)))] <| OJ.kld (d := 6) (y := .tmp 5) (cd := c_api_IP) (j := 1) (b := b1) (o := 0) a0.IP (pend2 := []) Ty28 rfl (At_api_Prefix_IP a0) rfl ?_
  refine OJ.go 1 [(7, .pointer (some (pt b2 0)))] <| OJ.kld (d := 8) (y := .tmp 7) (cd := c_api_IP) (j := 0) (b := b2) (o := 0) a1.IP (pend2 := []) Ty28 rfl (At_api_Prefix_IP a1) rfl ?_
  refine OJ.neq (d := 9) (T := 28) (yT := 28) (y := .tmp 6) (z := .tmp 8) (cd := c_api_IP) (p := a0.IP) (q := a1.IP) rfl Eq28 ?_
  refine OJ.nil <| SJ.cond (t := (.tmp 9)) (b := (!eqv a0.IP a1.IP)) (bnot_iff eqv_iff) (fun hc5 => ?_) (fun hc5 => ?_)
  · refine SJ.sr 6 <| OJ.go 1 [(10, .pointer (some (pt b1 0)))] <| OJ.kld (d := 11) (y := .tmp 10) (cd := c_api_IP) (j := 1) (b := b1) (o := 0) a0.IP (pend2 := []) Ty28 rfl (At_api_Prefix_IP a0) rfl ?_
    refine OJ.go 1 [(12, .pointer (some (pt b2 0)))] <| OJ.kld (d := 13) (y := .tmp 12) (cd := c_api_IP) (j := 0) (b := b2) (o := 0) a1.IP (pend2 := []) Ty28 rfl (At_api_Prefix_IP a1) rfl ?_
    refine OJ.call (d := 14) (g := 56) (ats := #[28, 28]) (args := [.tmp 11, .tmp 13]) (owed := []) F56 (weirref4_Less_ok a0.IP a1.IP) (fun r4 => ?_)
    exact OW.nil <| OJ.go 1 [(4, .bool r4)] <| OJ.nil <| SJ.r1 (.bool r4) rfl rfl
  · refine SJ.skip <| SJ.sr 6 <| OJ.go 1 [(15, .pointer (some (pt b1 17)))] <| OJ.kld (d := 16) (y := .tmp 15) (cd := (cI .i64)) (j := 1) (b := b1) (o := 17) a0.Len (pend2 := []) Ty3 rfl (At_api_Prefix_Len a0) rfl ?_
    refine OJ.go 1 [(17, .pointer (some (pt b2 17)))] <| OJ.kld (d := 18) (y := .tmp 17) (cd := (cI .i64)) (j := 0) (b := b2) (o := 17) a1.Len (pend2 := []) Ty3 rfl (At_api_Prefix_Len a1) rfl ?_
    exact OJ.go 2 [(4, .bool (decide (a0.Len < a1.Len))), (19, .bool (decide (a0.Len < a1.Len)))] <| OJ.nil <| SJ.r1 (.bool (decide (a0.Len < a1.Len))) rfl rfl

/-! ### weir/weirref14.Add: function 17 -/
noncomputable def weirref14_Add.B : Code := (Tryd.f17.body).getD .skip
noncomputable def weirref14_Add.cx : Fx := ⟨Tryd.prog, 17, Tryd.f17, none⟩
noncomputable def weirref14_Add.out (r_ : (Sl × Int)) : Value := .tuple #[Sl.v r_.1, .int .i64 r_.2]
noncomputable def weirref14_Add.F0 (r_ : (Sl × Int)) : Reach := .ret (weirref14_Add.out r_)
noncomputable def weirref14_Add.K1 (a0 : Sl) (a1 : api_Route) (s43 : Int) : M (Sl × Int) :=
  cut 36 a0 none (some s43) none >>= fun r49 =>
  appS c_api_Route 32 64 z_api_Route Sl.nil r49 >>= fun r50 =>
  slot 32 >>= fun b51 =>
  appl c_api_Route 32 64 z_api_Route r50 [a1] >>= fun r52 =>
  cut 36 a0 (some s43) none none >>= fun r53 =>
  appS c_api_Route 32 64 z_api_Route r52 r53 >>= fun r54 =>
  pure (r54, 0)
theorem weirref14_Add.K1_ok (a0 : Sl) (a1 : api_Route) (b1 : Nat) (s43 : Int) :
    SJ weirref14_Add.cx [.code (c2 (c2 (c2 (c2 (c2 (c2 weirref14_Add.B))))))] [(0, Sl.v a0), (3, .pointer (some (pt b1 0))), (7, Sl.v Sl.nil), (8, .int .i64 s43)] [(b1, c_api_Route.enc a1)] (weirref14_Add.K1 a0 a1 s43) weirref14_Add.F0 := by
  unfold weirref14_Add.K1
  refine SJ.sr 6 <| OJ.go 3 [(61, .int .i64 s43), (60, Sl.v a0), (59, Sl.v Sl.nil)] <| OJ.cut (d := 62) (t := 39) (E := 32) (y := .tmp 60) (lo := none) (hi := (some (.tmp 61))) (mx := none) (lo' := none) (hi' := some (.i64, s43)) (mx' := none) (fun h => by cases h) (fun r49 => ?_)
  refine OJ.appS (d := 63) (t := 39) (u := 39) (so := .tmp 59) (xo := .tmp 62) (owed := []) Ty32 (fun r50 => ?_)
  refine OW.nil <| OJ.go 1 [(7, Sl.v r50)] <| OJ.nil <| SJ.sr 5 <| OJ.go 1 [(64, Sl.v r50)] <| OJ.kld (d := 65) (y := .tmp 3) (cd := c_api_Route) (j := 0) (b := b1) (o := 0) a1 (pend2 := []) Ty32 rfl (At.whole _) rfl ?_
  refine OJ.rowSlot (d := 66) (t := 39) (parts := [(0, .tmp 65)]) (ps := [(0, c_api_Route.val a1)]) (cd := c_api_Route) (⟨[a1], rfl⟩ : Vec api_Route 1) (owed := []) Ty32 (Filled.cons (cd := c_api_Route) (q := a1) (o := 0) rfl (Upd.arr (i := 0) (by decide) (by decide)) Filled.nil) (fun b51 => ?_)
  refine OW.nil <| OJ.appl (d := 67) (t := 39) (u := 39) (so := .tmp 64) (xo := .tmp 66) (j := 0) (b := b51) (l := (c_api_Route.arr 1).enc (⟨[a1], rfl⟩ : Vec api_Route 1)) (n := 1) (k := 1) [a1] (owed := []) Ty32 (by rfl) (Cod.arr_enc _ _ _) (by rfl) (fun r52 => ?_)
  refine OW.nil <| OJ.go 1 [(7, Sl.v r52)] <| OJ.nil <| SJ.sr 7 <| OJ.go 3 [(70, .int .i64 s43), (69, Sl.v a0), (68, Sl.v r52)] <| OJ.cut (d := 71) (t := 39) (E := 32) (y := .tmp 69) (lo := (some (.tmp 70))) (hi := none) (mx := none) (lo' := some (.i64, s43)) (hi' := none) (mx' := none) (fun h => by cases h) (fun r53 => ?_)
  refine OJ.appS (d := 72) (t := 39) (u := 39) (so := .tmp 68) (xo := .tmp 71) (owed := []) Ty32 (fun r54 => ?_)
  exact OW.nil <| OJ.go 2 [(5, .int .i64 0), (4, Sl.v r54)] <| OJ.nil <| SJ.r2 (Sl.v r54) (.int .i64 0) rfl rfl
noncomputable def weirref14_Add.F1 (a0 : Sl) (a1 : api_Route) (b1 : Nat) : (LS Int (Sl × Int)) → Reach := loopF [.inLoop (c1 (c1 (c1 (c2 (c2 (c2 (c2 (c2 weirref14_Add.B)))))))), .inBlock 1, .code (c2 (c2 (c2 (c2 (c2 (c2 weirref14_Add.B))))))] (fun s_ : Int => [(0, Sl.v a0), (3, .pointer (some (pt b1 0))), (7, Sl.v Sl.nil), (8, .int .i64 s_)]) (fun s_ : Int => [(b1, c_api_Route.enc a1)]) weirref14_Add.F0
noncomputable def weirref14_Add.L1 (a0 : Sl) (a1 : api_Route) (s43 : Int) : M (LS Int (Sl × Int)) :=
  draw >>= fun _ =>
  (if s43 < (a0.len : Int) then
      idx a0.a a0.len s43 36 >>= fun p55 =>
      ld c_api_Prefix p55 >>= fun x56 =>
      weirref14_ahead x56 a1.Prefix >>= fun r57 =>
      pure r57
    else
      pure false) >>= fun y58 =>
  if y58 = true then
    pure (LS.next (IntKind.wrap .i64 (s43 + 1)))
  else
    (weirref14_Add.K1 a0 a1 s43) >>= fun b => pure (LS.done b)
theorem weirref14_Add.L1_ok (a0 : Sl) (a1 : api_Route) (b1 : Nat) (s43 : Int) :
    SJ weirref14_Add.cx [.code (c1 (c1 (c1 (c2 (c2 (c2 (c2 (c2 weirref14_Add.B)))))))), .inLoop (c1 (c1 (c1 (c2 (c2 (c2 (c2 (c2 weirref14_Add.B)))))))), .inBlock 1, .code (c2 (c2 (c2 (c2 (c2 (c2 weirref14_Add.B))))))] [(0, Sl.v a0), (3, .pointer (some (pt b1 0))), (7, Sl.v Sl.nil), (8, .int .i64 s43)] [(b1, c_api_Route.enc a1)] (weirref14_Add.L1 a0 a1 s43) (weirref14_Add.F1 a0 a1 b1) := by
  unfold weirref14_Add.L1
  refine SJ.seq <| SJ.seq <| SJ.draw (id := 14) (kd := [0, 0, 0, 0, 0, 0, 0, 0, 0, 1, 0, 1, 2, 0]) (bef := [0, 0, 2, 7, 15, 31, 31, 127, 255, 511, 31, 1055, 4095, 8191]) (ord := [0, 1, 2, 3, 4, 5, 6, 7, 8, 9, 10, 11, 12, 13]) mixed ?_
  refine OJ.go 5 [(47, .bool (decide (s43 < (a0.len : Int)))), (46, .bool (decide (s43 < (a0.len : Int)))), (45, .int .i64 (a0.len : Int)), (44, Sl.v a0), (43, .int .i64 s43)] <| OJ.join (b := decide (s43 < (a0.len : Int))) [5, 6, 7, 8, 9, 10, 11, 12, 13] [] [0, 3, 7, 8, 56] (fun y58 => [(0, Sl.v a0), (3, .pointer (some (pt b1 0))), (7, Sl.v Sl.nil), (8, .int .i64 s43), (56, .bool y58)]) [⟨11, 30, (pt b1 0), c_api_Prefix.val a1.Prefix⟩] [9] (t := 47) decide_eq_true_iff (fun hp_ => ?_) (fun hp_ => ?_) (fun _ _ _ _ _ _ h_ => h_) (fun y58 => ?_)
  · refine OJ.go 2 [(49, .int .i64 s43), (48, Sl.v a0)] <| OJ.idxS (d := 50) (T := 39) (y := .tmp 48) (j := .tmp 49) (E := 32) (cap := a0.cap) (k := .i64) (fun p55 => ?_)
    refine OJ.go 1 [(51, .pointer (some p55))] <| OJ.ld (d := 52) (y := .tmp 51) (pend2 := fun x56 => [⟨9, 30, p55, c_api_Prefix.val x56⟩]) Ty30 (fun _ => rfl) (fun x56 => ?_)
    refine OJ.go 1 [(53, .pointer (some (pt b1 0)))] <| OJ.kld (d := 54) (y := .tmp 53) (cd := c_api_Prefix) (j := 0) (b := b1) (o := 0) a1.Prefix (pend2 := [⟨11, 30, (pt b1 0), c_api_Prefix.val a1.Prefix⟩, ⟨9, 30, p55, c_api_Prefix.val x56⟩]) Ty30 rfl (At_api_Route_Prefix a1) rfl ?_
    refine OJ.call (d := 55) (g := 37) (ats := #[30, 30]) (args := [.tmp 52, .tmp 54]) (owed := []) F37 (weirref14_ahead_ok x56 a1.Prefix) (fun r57 => ?_)
    exact OW.nil <| OJ.go 1 [(56, .bool r57)] <| OJ.nil ⟨(Cov.mem (Cov.keep (List.mem_of_getElem? (i := 0) rfl) (Cov.drop (List.mem_of_getElem? (i := 0) rfl) Cov.nil))), rfl, _, rfl, by kernel_rfl⟩
  · exact OJ.go 9 [(56, .bool false), (55, undef), (54, undef), (53, undef), (52, undef), (51, undef), (50, undef), (49, undef), (48, undef)] <| OJ.x0
  · refine OJ.nil <| SJ.cond (t := (.tmp 56)) (b := y58) Iff.rfl (fun hc59 => ?_) (fun hc59 => ?_)
    · exact SJ.skip <| SJ.block (id := 2) <| SJ.rg 3 <| OJ.go 3 [(8, .int .i64 (IntKind.wrap .i64 (s43 + 1))), (58, .int .i64 (IntKind.wrap .i64 (s43 + 1))), (57, .int .i64 s43)] <| OJ.nil <| SJ.inBlock <| SJ.at_ [0, 3, 7, 8] rfl
    · refine SJ.exit (id := 1) (by rfl) <| SJ.less [0, 3, 7, 8] (m' := [(0, Sl.v a0), (3, .pointer (some (pt b1 0))), (7, Sl.v Sl.nil), (8, .int .i64 s43)]) ?_
      refine SJ.done ?_
      exact weirref14_Add.K1_ok a0 a1 b1 s43
noncomputable def weirref14_Add (a0 : Sl) (a1 : api_Route) : M (Sl × Int) :=
  slot 32 >>= fun b1 =>
  weirref4_ValidPrefix a1.Prefix >>= fun r2 =>
  if r2 ≠ 0 then
    pure (a0, 140)
  else
    (if a1.Port < 0 then
        pure true
      else
        pure (decide (a1.Port ≥ 8))) >>= fun y25 =>
    if y25 = true then
      pure (a0, 141)
    else
      weirref14_via a1 >>= fun r36 =>
      if ¬ (r36 = true) then
        pure (a0, 142)
      else
        weirref14_at a0 a1.Prefix >>= fun r41 =>
        if r41 ≥ 0 then
          pure (a0, 143)
        else
          if (a0.len : Int) ≥ 256 then
            pure (a0, 144)
          else
            loopM (fun s_ : Int => weirref14_Add.L1 a0 a1 s_) 0
theorem weirref14_Add_ok (a0 : Sl) (a1 : api_Route) : Ref Tryd.prog 17 [Sl.v a0, c_api_Route.val a1] (weirref14_Add a0 a1) weirref14_Add.out := by
  refine Ref.of (cd := weirref14_Add.B) Tryd.func17 ?_
  show SJ weirref14_Add.cx [.code weirref14_Add.B] [(0, Sl.v a0), (1, c_api_Route.val a1)] [] (weirref14_Add a0 a1) weirref14_Add.F0
  unfold weirref14_Add
  refine SJ.sr 3 <| OJ.slotOf (d := 3) (op := (.box 32 (.tmp 1))) (cd := c_api_Route) (u := a1) (owed := []) (box_run (by kernel_rfl)) (fun b1 => ?_)
  refine OW.nil <| OJ.go 2 [(5, .int .i64 0), (4, Sl.v Sl.nil)] <| OJ.nil <| SJ.sr 4 <| OJ.go 1 [(9, .pointer (some (pt b1 0)))] <| OJ.kld (d := 10) (y := .tmp 9) (cd := c_api_Prefix) (j := 0) (b := b1) (o := 0) a1.Prefix (pend2 := []) Ty30 rfl (At_api_Route_Prefix a1) rfl ?_
  refine OJ.call (d := 11) (g := 34) (ats := #[30]) (args := [.tmp 10]) (owed := []) F34 (weirref4_ValidPrefix_ok a1.Prefix) (fun r2 => ?_)
  refine OW.nil <| OJ.go 1 [(6, .int .i64 r2)] <| OJ.nil <| SJ.seq <| SJ.block (id := 0) <| SJ.sr 3 <| OJ.go 3 [(12, .bool (r2 != 0)), (14, .bool (r2 != 0)), (13, .int .i64 r2)] <| OJ.nil <| SJ.cond (t := (.tmp 12)) (b := (r2 != 0)) bne_iff_ne (fun hc64 => ?_) (fun hc64 => ?_)
  · exact SJ.sr 3 <| OJ.go 3 [(5, .int .i64 140), (4, Sl.v a0), (15, Sl.v a0)] <| OJ.nil <| SJ.r2 (Sl.v a0) (.int .i64 140) rfl rfl
  · refine SJ.sr 9 <| OJ.go 1 [(17, .pointer (some (pt b1 18)))] <| OJ.kld (d := 18) (y := .tmp 17) (cd := (cI .i64)) (j := 0) (b := b1) (o := 18) a1.Port (pend2 := []) Ty3 rfl (At_api_Route_Port a1) rfl ?_
    refine OJ.go 2 [(20, .bool (decide (a1.Port < 0))), (19, .bool (decide (a1.Port < 0)))] <| OJ.join (b := decide (a1.Port < 0)) [4, 5, 6, 7] [8] [0, 3, 24] (fun y25 => [(0, Sl.v a0), (3, .pointer (some (pt b1 0))), (24, .bool y25)]) [] [] (t := 20) decide_eq_true_iff (fun hp_ => ?_) (fun hp_ => ?_) (fun _ _ _ _ _ _ h_ => h_) (fun y25 => ?_)
    · exact OJ.go 4 [(24, .bool true), (23, undef), (22, undef), (21, undef)] <| OJ.x0
    · refine OJ.go 1 [(21, .pointer (some (pt b1 18)))] <| OJ.kld (d := 22) (y := .tmp 21) (cd := (cI .i64)) (j := 0) (b := b1) (o := 18) a1.Port (pend2 := []) Ty3 rfl (At_api_Route_Port a1) rfl ?_
      exact OJ.go 2 [(24, .bool (decide (a1.Port ≥ 8))), (23, .bool (decide (a1.Port ≥ 8)))] <| OJ.x0
    · refine OJ.go 1 [(16, .bool y25)] <| OJ.nil <| SJ.cond (t := (.tmp 16)) (b := y25) Iff.rfl (fun hc63 => ?_) (fun hc63 => ?_)
      · exact SJ.sr 3 <| OJ.go 3 [(5, .int .i64 141), (4, Sl.v a0), (25, Sl.v a0)] <| OJ.nil <| SJ.r2 (Sl.v a0) (.int .i64 141) rfl rfl
      · refine SJ.sr 4 <| OJ.kld (d := 27) (y := .tmp 3) (cd := c_api_Route) (j := 0) (b := b1) (o := 0) a1 (pend2 := []) Ty32 rfl (At.whole _) rfl ?_
        refine OJ.call (d := 28) (g := 35) (ats := #[32]) (args := [.tmp 27]) (owed := []) F35 (weirref14_via_ok a1) (fun r36 => ?_)
        refine OW.nil <| OJ.go 2 [(26, .bool (!r36)), (29, .bool (!r36))] <| OJ.nil <| SJ.cond (t := (.tmp 26)) (b := (!r36)) (bnot_iff Iff.rfl) (fun hc62 => ?_) (fun hc62 => ?_)
        · exact SJ.sr 3 <| OJ.go 3 [(5, .int .i64 142), (4, Sl.v a0), (30, Sl.v a0)] <| OJ.nil <| SJ.r2 (Sl.v a0) (.int .i64 142) rfl rfl
        · refine SJ.sr 6 <| OJ.go 2 [(33, .pointer (some (pt b1 0))), (32, Sl.v a0)] <| OJ.kld (d := 34) (y := .tmp 33) (cd := c_api_Prefix) (j := 0) (b := b1) (o := 0) a1.Prefix (pend2 := []) Ty30 rfl (At_api_Route_Prefix a1) rfl ?_
          refine OJ.call (d := 35) (g := 36) (ats := #[39, 30]) (args := [.tmp 32, .tmp 34]) (owed := []) F36 (weirref14_at_ok a0 a1.Prefix) (fun r41 => ?_)
          refine OW.nil <| OJ.go 2 [(31, .bool (decide (r41 ≥ 0))), (36, .bool (decide (r41 ≥ 0)))] <| OJ.nil <| SJ.cond (t := (.tmp 31)) (b := decide (r41 ≥ 0)) decide_eq_true_iff (fun hc61 => ?_) (fun hc61 => ?_)
          · exact SJ.sr 3 <| OJ.go 3 [(5, .int .i64 143), (4, Sl.v a0), (37, Sl.v a0)] <| OJ.nil <| SJ.r2 (Sl.v a0) (.int .i64 143) rfl rfl
          · refine SJ.sr 4 <| OJ.go 4 [(38, .bool (decide ((a0.len : Int) ≥ 256))), (41, .bool (decide ((a0.len : Int) ≥ 256))), (40, .int .i64 (a0.len : Int)), (39, Sl.v a0)] <| OJ.nil <| SJ.cond (t := (.tmp 38)) (b := decide ((a0.len : Int) ≥ 256)) decide_eq_true_iff (fun hc60 => ?_) (fun hc60 => ?_)
            · exact SJ.sr 3 <| OJ.go 3 [(5, .int .i64 144), (4, Sl.v a0), (42, Sl.v a0)] <| OJ.nil <| SJ.r2 (Sl.v a0) (.int .i64 144) rfl rfl
            · exact SJ.skip <| SJ.inBlock <| SJ.sr 1 <| OJ.go 1 [(7, Sl.v Sl.nil)] <| OJ.nil <| SJ.sr 1 <| OJ.go 1 [(8, .int .i64 0)] <| OJ.nil <| SJ.seq <| SJ.block (id := 1) <| SJ.loop (fun s_ : Int => [(0, Sl.v a0), (3, .pointer (some (pt b1 0))), (7, Sl.v Sl.nil), (8, .int .i64 s_)]) (fun s_ : Int => [(b1, c_api_Route.enc a1)]) [0, 3, 7, 8] rfl (fun _ _ => rfl) (fun s_ => weirref14_Add.L1_ok a0 a1 b1 s_)

/-! ### weir/weirref14.Matches: function 18 -/
noncomputable def weirref14_Matches.B : Code := (Tryd.f18.body).getD .skip
noncomputable def weirref14_Matches.cx : Fx := ⟨Tryd.prog, 18, Tryd.f18, none⟩
noncomputable def weirref14_Matches.out (r_ : Sl) : Value := Sl.v r_
noncomputable def weirref14_Matches.F0 (r_ : Sl) : Reach := .ret (weirref14_Matches.out r_)
noncomputable def weirref14_Matches.F1 (a0 : Sl) (a1 : api_IP) (b1 : Nat) : (LS (Sl × Int) Sl) → Reach := loopF [.inLoop (c1 (c1 (c2 (c1 (c2 (c2 weirref14_Matches.B)))))), .inBlock 0, .code (c2 (c2 (c2 weirref14_Matches.B)))] (fun s_ : (Sl × Int) => [(0, Sl.v a0), (3, .pointer (some (pt b1 0))), (5, Sl.v s_.1), (6, .int .i64 s_.2)]) (fun s_ : (Sl × Int) => [(b1, c_api_IP.enc a1)]) weirref14_Matches.F0
noncomputable def weirref14_Matches.F2 (a0 : Sl) (a1 : api_IP) (b1 : Nat) (s3 : Int) : (LS (Sl × Int) (LS (Sl × Int) Sl)) → Reach := loopF [.inLoop (c1 (c1 (c2 (c1 (c1 (c2 (c1 (c1 (c2 (c1 (c2 (c2 weirref14_Matches.B)))))))))))), .inBlock 2, .inBlock 1, .code (c2 (c2 (c1 (c1 (c2 (c1 (c2 (c2 weirref14_Matches.B)))))))), .inLoop (c1 (c1 (c2 (c1 (c2 (c2 weirref14_Matches.B)))))), .inBlock 0, .code (c2 (c2 (c2 weirref14_Matches.B)))] (fun s_ : (Sl × Int) => [(0, Sl.v a0), (3, .pointer (some (pt b1 0))), (5, Sl.v s_.1), (6, .int .i64 s3), (7, .int .i64 s_.2)]) (fun s_ : (Sl × Int) => [(b1, c_api_IP.enc a1)]) (weirref14_Matches.F1 a0 a1 b1)
noncomputable def weirref14_Matches.L2 (a0 : Sl) (a1 : api_IP) (s3 : Int) (s39 : Sl) (s40 : Int) : M (LS (Sl × Int) (LS (Sl × Int) Sl)) :=
  if s40 < (a0.len : Int) then
    draw >>= fun _ =>
    idx a0.a a0.len s40 36 >>= fun p57 =>
    ld (cI .i64) (Addr.add p57 17) >>= fun x58 =>
    (if x58 = s3 then
        idx a0.a a0.len s40 36 >>= fun p59 =>
        ld c_api_Prefix p59 >>= fun x60 =>
        weirref4_Contains x60 a1 >>= fun r61 =>
        pure r61
      else
        pure false) >>= fun y62 =>
    if y62 = true then
      idx a0.a a0.len s40 36 >>= fun p67 =>
      ld c_api_Route p67 >>= fun x68 =>
      slot 32 >>= fun b69 =>
      appl c_api_Route 32 64 z_api_Route s39 [x68] >>= fun r70 =>
      pure (LS.next (r70, IntKind.wrap .i64 (s40 + 1)))
    else
      pure (LS.next (s39, IntKind.wrap .i64 (s40 + 1)))
  else
    pure (LS.done (LS.next (s39, IntKind.wrap .i64 (s3 - 1))))
theorem weirref14_Matches.L2_ok (a0 : Sl) (a1 : api_IP) (b1 : Nat) (s3 : Int) (s39 : Sl) (s40 : Int) :
    SJ weirref14_Matches.cx [.code (c1 (c1 (c2 (c1 (c1 (c2 (c1 (c1 (c2 (c1 (c2 (c2 weirref14_Matches.B)))))))))))), .inLoop (c1 (c1 (c2 (c1 (c1 (c2 (c1 (c1 (c2 (c1 (c2 (c2 weirref14_Matches.B)))))))))))), .inBlock 2, .inBlock 1, .code (c2 (c2 (c1 (c1 (c2 (c1 (c2 (c2 weirref14_Matches.B)))))))), .inLoop (c1 (c1 (c2 (c1 (c2 (c2 weirref14_Matches.B)))))), .inBlock 0, .code (c2 (c2 (c2 weirref14_Matches.B)))] [(0, Sl.v a0), (3, .pointer (some (pt b1 0))), (5, Sl.v s39), (6, .int .i64 s3), (7, .int .i64 s40)] [(b1, c_api_IP.enc a1)] (weirref14_Matches.L2 a0 a1 s3 s39 s40) (weirref14_Matches.F2 a0 a1 b1 s3) := by
  unfold weirref14_Matches.L2
  refine SJ.seq <| SJ.sr 4 <| OJ.go 4 [(15, .bool (decide (s40 < (a0.len : Int)))), (14, .int .i64 (a0.len : Int)), (13, Sl.v a0), (12, .int .i64 s40)] <| OJ.nil <| SJ.cond (t := (.tmp 15)) (b := decide (s40 < (a0.len : Int))) decide_eq_true_iff (fun hc72 => ?_) (fun hc72 => ?_)
  · refine SJ.skip <| SJ.seq <| SJ.block (id := 3) <| SJ.seq <| SJ.draw (id := 8) (kd := [0, 0, 0, 0, 0, 1, 0, 0, 0, 0, 0, 0, 0, 1, 1, 2, 0]) (bef := [0, 0, 3, 7, 15, 31, 0, 127, 255, 511, 511, 2047, 4095, 8191, 511, 32767, 65535]) (ord := [0, 1, 2, 3, 4, 5, 6, 7, 8, 9, 10, 11, 12, 13, 14, 15, 16]) mixed ?_
    refine OJ.go 2 [(19, .int .i64 s40), (18, Sl.v a0)] <| OJ.idxS (d := 20) (T := 39) (y := .tmp 18) (j := .tmp 19) (E := 32) (cap := a0.cap) (k := .i64) (fun p57 => ?_)
    refine OJ.go 2 [(22, .pointer (some (Addr.add p57 17))), (21, .pointer (some p57))] <| OJ.ld (d := 23) (y := .tmp 22) (pend2 := fun x58 => [⟨5, 3, (Addr.add p57 17), (cI .i64).val x58⟩]) Ty3 (fun _ => rfl) (fun x58 => ?_)
    refine OJ.go 3 [(26, .bool (x58 == s3)), (25, .bool (x58 == s3)), (24, .int .i64 s3)] <| OJ.join (b := (x58 == s3)) [9, 10, 11, 12, 13, 14, 15, 16] [] [0, 3, 5, 6, 7, 34] (fun y62 => [(0, Sl.v a0), (3, .pointer (some (pt b1 0))), (5, Sl.v s39), (6, .int .i64 s3), (7, .int .i64 s40), (34, .bool y62)]) [⟨14, 28, (pt b1 0), c_api_IP.val a1⟩, ⟨5, 3, (Addr.add p57 17), (cI .i64).val x58⟩] [13] (t := 26) beq_iff_eq (fun hp_ => ?_) (fun hp_ => ?_) (fun _ _ _ _ _ _ h_ => h_) (fun y62 => ?_)
    · refine OJ.go 2 [(28, .int .i64 s40), (27, Sl.v a0)] <| OJ.idxS (d := 29) (T := 39) (y := .tmp 27) (j := .tmp 28) (E := 32) (cap := a0.cap) (k := .i64) (fun p59 => ?_)
      refine OJ.go 1 [(30, .pointer (some p59))] <| OJ.ld (d := 31) (y := .tmp 30) (pend2 := fun x60 => [⟨13, 30, p59, c_api_Prefix.val x60⟩, ⟨5, 3, (Addr.add p57 17), (cI .i64).val x58⟩]) Ty30 (fun _ => rfl) (fun x60 => ?_)
      refine OJ.kld (d := 32) (y := .tmp 3) (cd := c_api_IP) (j := 0) (b := b1) (o := 0) a1 (pend2 := [⟨14, 28, (pt b1 0), c_api_IP.val a1⟩, ⟨13, 30, p59, c_api_Prefix.val x60⟩, ⟨5, 3, (Addr.add p57 17), (cI .i64).val x58⟩]) Ty28 rfl (At.whole _) rfl ?_
      refine OJ.call (d := 33) (g := 38) (ats := #[30, 28]) (args := [.tmp 31, .tmp 32]) (owed := []) F38 (weirref4_Contains_ok x60 a1) (fun r61 => ?_)
      exact OW.nil <| OJ.go 1 [(34, .bool r61)] <| OJ.nil ⟨(Cov.mem (Cov.keep (List.mem_of_getElem? (i := 0) rfl) (Cov.drop (List.mem_of_getElem? (i := 0) rfl) (Cov.keep (List.mem_of_getElem? (i := 1) rfl) Cov.nil)))), rfl, _, rfl, by kernel_rfl⟩
    · exact OJ.go 8 [(34, .bool false), (33, undef), (32, undef), (31, undef), (30, undef), (29, undef), (28, undef), (27, undef)] <| OJ.nil ⟨(Cov.mem (Cov.keep (List.mem_of_getElem? (i := 1) rfl) Cov.nil)), rfl, _, rfl, by kernel_rfl⟩
    · refine OJ.nil <| SJ.cond (t := (.tmp 34)) (b := y62) Iff.rfl (fun hc71 => ?_) (fun hc71 => ?_)
      · refine SJ.rg 8 <| OJ.go 3 [(37, .int .i64 s40), (36, Sl.v a0), (35, Sl.v s39)] <| OJ.idxS (d := 38) (T := 39) (y := .tmp 36) (j := .tmp 37) (E := 32) (cap := a0.cap) (k := .i64) (fun p67 => ?_)
        refine OJ.ld (d := 39) (y := .tmp 38) (pend2 := fun x68 => []) Ty32 (fun _ => rfl) (fun x68 => ?_)
        refine OJ.rowSlot (d := 40) (t := 39) (parts := [(0, .tmp 39)]) (ps := [(0, c_api_Route.val x68)]) (cd := c_api_Route) (⟨[x68], rfl⟩ : Vec api_Route 1) (owed := []) Ty32 (Filled.cons (cd := c_api_Route) (q := x68) (o := 0) rfl (Upd.arr (i := 0) (by decide) (by decide)) Filled.nil) (fun b69 => ?_)
        refine OW.nil <| OJ.appl (d := 41) (t := 39) (u := 39) (so := .tmp 35) (xo := .tmp 40) (j := 0) (b := b69) (l := (c_api_Route.arr 1).enc (⟨[x68], rfl⟩ : Vec api_Route 1)) (n := 1) (k := 1) [x68] (owed := []) Ty32 (by rfl) (Cod.arr_enc _ _ _) (by rfl) (fun r70 => ?_)
        refine OW.nil <| OJ.go 1 [(5, Sl.v r70)] <| OJ.nil <| SJ.inBlock <| SJ.rg 3 <| OJ.go 3 [(7, .int .i64 (IntKind.wrap .i64 (s40 + 1))), (17, .int .i64 (IntKind.wrap .i64 (s40 + 1))), (16, .int .i64 s40)] <| OJ.nil <| SJ.forget (List.Sublist.cons _ (List.Sublist.cons_cons _ List.Sublist.slnil)) ?_
        exact SJ.at_ [0, 3, 5, 6, 7] rfl
      · exact SJ.skip <| SJ.inBlock <| SJ.rg 3 <| OJ.go 3 [(7, .int .i64 (IntKind.wrap .i64 (s40 + 1))), (17, .int .i64 (IntKind.wrap .i64 (s40 + 1))), (16, .int .i64 s40)] <| OJ.nil <| SJ.at_ [0, 3, 5, 6, 7] rfl
  · exact SJ.exit (id := 2) (by rfl) <| SJ.inBlock <| SJ.rg 3 <| OJ.go 3 [(6, .int .i64 (IntKind.wrap .i64 (s3 - 1))), (11, .int .i64 (IntKind.wrap .i64 (s3 - 1))), (10, .int .i64 s3)] <| OJ.nil <| SJ.at_ [0, 3, 5, 6] rfl
noncomputable def weirref14_Matches.L1 (a0 : Sl) (a1 : api_IP) (s2 : Sl) (s3 : Int) : M (LS (Sl × Int) Sl) :=
  if s3 ≥ 0 then
    loopM (fun s_ : (Sl × Int) => weirref14_Matches.L2 a0 a1 s3 s_.1 s_.2) (s2, 0)
  else
    pure (LS.done s2)
theorem weirref14_Matches.L1_ok (a0 : Sl) (a1 : api_IP) (b1 : Nat) (s2 : Sl) (s3 : Int) :
    SJ weirref14_Matches.cx [.code (c1 (c1 (c2 (c1 (c2 (c2 weirref14_Matches.B)))))), .inLoop (c1 (c1 (c2 (c1 (c2 (c2 weirref14_Matches.B)))))), .inBlock 0, .code (c2 (c2 (c2 weirref14_Matches.B)))] [(0, Sl.v a0), (3, .pointer (some (pt b1 0))), (5, Sl.v s2), (6, .int .i64 s3)] [(b1, c_api_IP.enc a1)] (weirref14_Matches.L1 a0 a1 s2 s3) (weirref14_Matches.F1 a0 a1 b1) := by
  unfold weirref14_Matches.L1
  refine SJ.seq <| SJ.sr 2 <| OJ.go 2 [(9, .bool (decide (s3 ≥ 0))), (8, .int .i64 s3)] <| OJ.nil <| SJ.cond (t := (.tmp 9)) (b := decide (s3 ≥ 0)) decide_eq_true_iff (fun hc73 => ?_) (fun hc73 => ?_)
  · exact SJ.skip <| SJ.seq <| SJ.block (id := 1) <| SJ.sr 1 <| OJ.go 1 [(7, .int .i64 0)] <| OJ.nil <| SJ.block (id := 2) <| SJ.loop (fun s_ : (Sl × Int) => [(0, Sl.v a0), (3, .pointer (some (pt b1 0))), (5, Sl.v s_.1), (6, .int .i64 s3), (7, .int .i64 s_.2)]) (fun s_ : (Sl × Int) => [(b1, c_api_IP.enc a1)]) [0, 3, 5, 6, 7] rfl (fun _ _ => rfl) (fun s_ => weirref14_Matches.L2_ok a0 a1 b1 s3 s_.1 s_.2)
  · exact SJ.exit (id := 0) (by rfl) <| SJ.sr 2 <| OJ.go 2 [(4, Sl.v s2), (42, Sl.v s2)] <| OJ.nil <| SJ.r1 (Sl.v s2) rfl rfl
noncomputable def weirref14_Matches (a0 : Sl) (a1 : api_IP) : M Sl :=
  slot 28 >>= fun b1 =>
  loopM (fun s_ : (Sl × Int) => weirref14_Matches.L1 a0 a1 s_.1 s_.2) (Sl.nil, 128)
theorem weirref14_Matches_ok (a0 : Sl) (a1 : api_IP) : Ref Tryd.prog 18 [Sl.v a0, c_api_IP.val a1] (weirref14_Matches a0 a1) weirref14_Matches.out := by
  refine Ref.of (cd := weirref14_Matches.B) Tryd.func18 ?_
  show SJ weirref14_Matches.cx [.code weirref14_Matches.B] [(0, Sl.v a0), (1, c_api_IP.val a1)] [] (weirref14_Matches a0 a1) weirref14_Matches.F0
  unfold weirref14_Matches
  refine SJ.sr 2 <| OJ.slotOf (d := 3) (op := (.box 28 (.tmp 1))) (cd := c_api_IP) (u := a1) (owed := []) (box_run (by kernel_rfl)) (fun b1 => ?_)
  exact OW.nil <| OJ.go 1 [(4, Sl.v Sl.nil)] <| OJ.nil <| SJ.sr 1 <| OJ.go 1 [(5, Sl.v Sl.nil)] <| OJ.nil <| SJ.seq <| SJ.sr 1 <| OJ.go 1 [(6, .int .i64 128)] <| OJ.nil <| SJ.block (id := 0) <| SJ.loop (fun s_ : (Sl × Int) => [(0, Sl.v a0), (3, .pointer (some (pt b1 0))), (5, Sl.v s_.1), (6, .int .i64 s_.2)]) (fun s_ : (Sl × Int) => [(b1, c_api_IP.enc a1)]) [0, 3, 5, 6] rfl (fun _ _ => rfl) (fun s_ => weirref14_Matches.L1_ok a0 a1 b1 s_.1 s_.2)

/-! ### weir/route.prefixes$1: function 51 -/
noncomputable def route_prefixes_1.B : Code := (Tryd.f51.body).getD .skip
noncomputable def route_prefixes_1.cx : Fx := ⟨Tryd.prog, 51, Tryd.f51, none⟩
noncomputable def route_prefixes_1.out (r_ : Unit) : Value := .tuple #[]
noncomputable def route_prefixes_1.F0 (r_ : Unit) : Reach := .ret (route_prefixes_1.out r_)
noncomputable def route_prefixes_1.F1 (a0v : Any) (a1 : Addr) : (LS Int Unit) → Reach := loopF [.inLoop (c1 (c1 (c2 (c2 route_prefixes_1.B)))), .inBlock 0] (fun s_ : Int => [(0, a0v.v), (1, .pointer (some a1)), (3, .int .i64 s_)]) (fun s_ : Int => []) route_prefixes_1.F0
noncomputable def route_prefixes_1.L1 (a0 : api_Prefix → M Bool) (a1 : Addr) (s5 : Int) : M (LS Int Unit) :=
  if s5 ≥ 0 then
    ld c_api_IP a1 >>= fun x6 =>
    addr_Mask x6 s5 >>= fun r7 =>
    slot 28 >>= fun b8 =>
    (if r7.2 ≠ 0 then
        pure true
      else
        a0 (⟨r7.1, s5⟩ : api_Prefix) >>= fun r9 =>
        pure (!r9)) >>= fun y10 =>
    if y10 = true then
      pure (LS.done ())
    else
      pure (LS.next (IntKind.wrap .i64 (s5 - 1)))
  else
    pure (LS.done ())
theorem route_prefixes_1.L1_ok (a0v : Any) (a0 : api_Prefix → M Bool) (h_a0 : ∀ (x0_ : api_Prefix), RefV Tryd.prog a0v.v [c_api_Prefix.val x0_] (a0 x0_) (fun r_ : Bool => .bool r_)) (a1 : Addr) (s5 : Int) :
    SJ route_prefixes_1.cx [.code (c1 (c1 (c2 (c2 route_prefixes_1.B)))), .inLoop (c1 (c1 (c2 (c2 route_prefixes_1.B)))), .inBlock 0] [(0, a0v.v), (1, .pointer (some a1)), (3, .int .i64 s5)] [] (route_prefixes_1.L1 a0 a1 s5) (route_prefixes_1.F1 a0v a1) := by
  unfold route_prefixes_1.L1
  refine SJ.seq <| SJ.sr 2 <| OJ.go 2 [(13, .bool (decide (s5 ≥ 0))), (12, .int .i64 s5)] <| OJ.nil <| SJ.cond (t := (.tmp 13)) (b := decide (s5 ≥ 0)) decide_eq_true_iff (fun hc12 => ?_) (fun hc12 => ?_)
  · refine SJ.skip <| SJ.seq <| SJ.block (id := 1) <| SJ.sr 9 <| OJ.ld (d := 17) (y := .tmp 1) (pend2 := fun x6 => []) Ty28 (fun _ => rfl) (fun x6 => ?_)
    refine OJ.go 1 [(18, .int .i64 s5)] <| OJ.call (d := 19) (g := 49) (ats := #[28, 3]) (args := [.tmp 17, .tmp 18]) (owed := []) F49 (addr_Mask_ok x6 s5) (fun r7 => ?_)
    refine OW.nil <| OJ.go 3 [(21, .int .i64 r7.2), (20, c_api_IP.val r7.1), (16, .tuple #[c_api_IP.val r7.1, .int .i64 r7.2])] <| OJ.slotOf (d := 4) (op := (.alloc 28)) (cd := c_api_IP) (u := z_api_IP) (owed := []) (alloc_run Ty28) (fun b8 => ?_)
    refine OW.nil <| OJ.kst (y := .tmp 4) (z := .tmp 20) (cd := c_api_IP) (u := r7.1) (j := 0) (b := b8) (o := 0) (c_api_IP.enc r7.1) (owed := []) Ty28 rfl (Upd.whole ((Cod.len _ _).trans (Cod.len _ _).symm)) rfl ?_
    refine OW.nil <| OJ.go 1 [(5, .int .i64 r7.2)] <| OJ.nil <| SJ.sr 10 <| OJ.go 3 [(24, .bool (r7.2 != 0)), (23, .bool (r7.2 != 0)), (22, .int .i64 r7.2)] <| OJ.join (b := (r7.2 != 0)) [3, 4, 5, 6, 7, 8, 9] [] [0, 1, 3, 31] (fun y10 => [(0, a0v.v), (1, .pointer (some a1)), (3, .int .i64 s5), (31, .bool y10)]) [] [] (t := 24) bne_iff_ne (fun hp_ => ?_) (fun hp_ => ?_) (fun _ _ _ _ _ _ h_ => h_) (fun y10 => ?_)
    · exact OJ.go 7 [(31, .bool true), (30, undef), (29, undef), (28, undef), (27, undef), (26, undef), (25, undef)] <| OJ.x0
    · refine OJ.go 1 [(25, a0v.v)] <| OJ.kld (d := 26) (y := .tmp 4) (cd := c_api_IP) (j := 0) (b := b8) (o := 0) r7.1 (pend2 := []) Ty28 rfl (At.whole _) rfl ?_
      refine OJ.go 1 [(27, .int .i64 s5)] <| OJ.build (d := 28) (T := 30) (parts := [(0, .tmp 26), (1, .tmp 27)]) (ps := [(0, c_api_IP.val r7.1), (1, (cI .i64).val s5)]) (cd := c_api_Prefix) (z0 := z_api_Prefix) (⟨r7.1, s5⟩ : api_Prefix) Ty30 rfl (Filled.cons (cd := c_api_IP) (q := r7.1) (o := 0) (by kernel_rfl) (Up_api_Prefix_IP z_api_Prefix r7.1) (Filled.cons (cd := (cI .i64)) (q := s5) (o := 17) (by kernel_rfl) (Up_api_Prefix_Len (⟨r7.1, z_api_Prefix.Len⟩ : api_Prefix) s5) Filled.nil)) ?_
      refine OJ.callV1 (d := 29) (ats := #[30]) (args := [.tmp 28]) (fo := .tmp 25) (vals := [c_api_Prefix.val (⟨r7.1, s5⟩ : api_Prefix)]) (owed := []) (h_a0 (⟨r7.1, s5⟩ : api_Prefix)) (fun r9 => ?_)
      exact OW.nil <| OJ.go 2 [(31, .bool (!r9)), (30, .bool (!r9))] <| OJ.x0
    · refine OJ.nil <| SJ.cond (t := (.tmp 31)) (b := y10) Iff.rfl (fun hc11 => ?_) (fun hc11 => ?_)
      · exact SJ.ret rfl (Res.run (ys := []) .nil rfl)
      · refine SJ.skip <| SJ.inBlock <| SJ.rg 3 <| OJ.go 3 [(3, .int .i64 (IntKind.wrap .i64 (s5 - 1))), (15, .int .i64 (IntKind.wrap .i64 (s5 - 1))), (14, .int .i64 s5)] <| OJ.nil <| SJ.forget (List.Sublist.cons _ List.Sublist.slnil) ?_
        exact SJ.at_ [0, 1, 3] rfl
  · exact SJ.exit (id := 0) (by rfl) <| SJ.end_ rfl (Res.run (ys := []) .nil rfl)
noncomputable def route_prefixes_1 (a0 : api_Prefix → M Bool) (a1 : Addr) : M Unit :=
  ld c_api_IP a1 >>= fun x1 =>
  addr_Valid x1 >>= fun r2 =>
  if ¬ (r2 = true) then
    pure ()
  else
    ld (cI .i64) a1 >>= fun x3 =>
    route_bits x3 >>= fun r4 =>
    loopM (fun s_ : Int => route_prefixes_1.L1 a0 a1 s_) r4
theorem route_prefixes_1_ok (a0v : Any) (a0 : api_Prefix → M Bool) (h_a0 : ∀ (x0_ : api_Prefix), RefV Tryd.prog a0v.v [c_api_Prefix.val x0_] (a0 x0_) (fun r_ : Bool => .bool r_)) (a1 : Addr) : Ref Tryd.prog 51 [a0v.v, .pointer (some a1)] (route_prefixes_1 a0 a1) route_prefixes_1.out := by
  refine Ref.of (cd := route_prefixes_1.B) Tryd.func51 ?_
  show SJ route_prefixes_1.cx [.code route_prefixes_1.B] [(0, a0v.v), (1, .pointer (some a1))] [] (route_prefixes_1 a0 a1) route_prefixes_1.F0
  unfold route_prefixes_1
  refine SJ.seq <| SJ.sr 3 <| OJ.ld (d := 6) (y := .tmp 1) (pend2 := fun x1 => []) Ty28 (fun _ => rfl) (fun x1 => ?_)
  refine OJ.call (d := 7) (g := 32) (ats := #[28]) (args := [.tmp 6]) (owed := []) F32 (addr_Valid_ok x1) (fun r2 => ?_)
  refine OW.nil <| OJ.go 1 [(8, .bool (!r2))] <| OJ.nil <| SJ.cond (t := (.tmp 8)) (b := (!r2)) (bnot_iff Iff.rfl) (fun hc13 => ?_) (fun hc13 => ?_)
  · exact SJ.ret rfl (Res.run (ys := []) .nil rfl)
  · refine SJ.skip <| SJ.sr 4 <| OJ.go 1 [(9, .pointer (some a1))] <| OJ.ld (d := 10) (y := .tmp 9) (pend2 := fun x3 => []) Ty3 (fun _ => rfl) (fun x3 => ?_)
    refine OJ.call (d := 11) (g := 48) (ats := #[3]) (args := [.tmp 10]) (owed := []) F48 (route_bits_ok x3) (fun r4 => ?_)
    exact OW.nil <| OJ.go 1 [(3, .int .i64 r4)] <| OJ.nil <| SJ.block (id := 0) <| SJ.loop (fun s_ : Int => [(0, a0v.v), (1, .pointer (some a1)), (3, .int .i64 s_)]) (fun s_ : Int => []) [0, 1, 3] rfl (fun _ _ => rfl) (fun s_ => route_prefixes_1.L1_ok a0v a0 h_a0 a1 s_)

/-! ### weir/route.prefixes: function 33 -/
noncomputable def route_prefixes.B : Code := (Tryd.f33.body).getD .skip
noncomputable def route_prefixes.cx : Fx := ⟨Tryd.prog, 33, Tryd.f33, none⟩
noncomputable def route_prefixes.out (r_ : Any) : Value := r_.v
noncomputable def route_prefixes.F0 (r_ : Any) : Reach := .ret (route_prefixes.out r_)
noncomputable def route_prefixes (a0 : api_IP) : M Any :=
  newv 28 c_api_IP a0 >>= fun b1 =>
  pure ⟨.func (.func 51) #[] #[.pointer (some (pt b1 0))], rfl⟩
theorem route_prefixes_ok (a0 : api_IP) : Ref Tryd.prog 33 [c_api_IP.val a0] (route_prefixes a0) route_prefixes.out := by
  refine Ref.of (cd := route_prefixes.B) Tryd.func33 ?_
  show SJ route_prefixes.cx [.code route_prefixes.B] [(0, c_api_IP.val a0)] [] (route_prefixes a0) route_prefixes.F0
  unfold route_prefixes
  refine SJ.sr 2 <| OJ.newOf (d := 1) (op := (.box 28 (.tmp 0))) (cd := c_api_IP) (u := a0) (owed := []) (box_run (by kernel_rfl)) (fun b1 => ?_)
  exact OW.nil <| OJ.go 1 [(2, (⟨.nilFunc, rfl⟩ : Any).v)] <| OJ.nil <| SJ.sr 2 <| OJ.go 2 [(2, .func (.func 51) #[] #[.pointer (some (pt b1 0))]), (3, .func (.func 51) #[] #[.pointer (some (pt b1 0))])] <| OJ.nil <| SJ.r1 (.func (.func 51) #[] #[.pointer (some (pt b1 0))]) rfl rfl

/-! ### (*weir/route.Table).Matches: function 19 -/
noncomputable def route_Table_Matches.B : Code := (Tryd.f19.body).getD .skip
noncomputable def route_Table_Matches.cx : Fx := ⟨Tryd.prog, 19, Tryd.f19, none⟩
noncomputable def route_Table_Matches.out (r_ : Sl) : Value := Sl.v r_
noncomputable def route_Table_Matches.F0 (r_ : Sl) : Reach := .ret (route_Table_Matches.out r_)
noncomputable def route_Table_Matches.rx (l_ : Nat) : Fx := ⟨Tryd.prog, 19, Tryd.f19, some l_⟩
noncomputable def route_Table_Matches.it (f_ : Any) (y_ : api_Prefix → M Bool) : M Unit :=
  (caught f_.v).elim fail (fun q_ => if q_.1 = 51 then route_prefixes_1 y_ q_.2 else fail)
theorem route_Table_Matches.it_ok (f_ yv_ : Any) (y_ : api_Prefix → M Bool) (hy_ : ∀ x_, RefV Tryd.prog yv_.v [c_api_Prefix.val x_] (y_ x_) Value.bool) : RefI Tryd.prog f_.v [yv_.v] (route_Table_Matches.it f_ y_) (fun _ => .tuple #[]) := by
  intro v r v' e
  unfold route_Table_Matches.it at e
  cases hf_ : caught f_.v with
  | none => rw [hf_] at e; cases e
  | some q_ =>
    obtain ⟨g_, p0⟩ := q_
    rw [hf_] at e
    simp only [Option.elim] at e
    by_cases hg_ : g_ = 51
    · subst hg_
      rw [if_pos rfl] at e
      have h_ := RefI.of (first := []) (vals := [yv_.v]) (cap := [.pointer (some p0)]) F51 (route_prefixes_1_ok yv_ y_ hy_ p0) v r v' e
      rw [caught_eq hf_]
      exact h_
    rw [if_neg hg_] at e
    cases e
noncomputable def route_Table_Matches.K1 (b3 : Nat) (b54 : Nat) (j55 : Bool) (j56 : api_Route) : M (Option Code) :=
  if j55 = true then
    ld cL (pt b3 0) >>= fun x60 =>
    slot 32 >>= fun b61 =>
    appl c_api_Route 32 64 z_api_Route x60 [j56] >>= fun r62 =>
    st cL (pt b3 0) r62 >>= fun _ =>
    pure none
  else
    pure none
theorem route_Table_Matches.K1_ok (b3 : Nat) (l5 : Nat) (b54 : Nat) (j55 : Bool) (j56 : api_Route) :
    SJ (route_Table_Matches.rx l5) [.code (c2 (c1 ((rfOf (c1 (c2 (c1 (c2 (c2 route_Table_Matches.B)))))).2.2.2))), .inBlock 1] [(4, Sl.v Sl.nil), (5, .pointer (some (pt b3 0))), (7, .pointer (some (pt b54 0))), (8, .bool j55)] [(b54, c_api_Route.enc j56)] (route_Table_Matches.K1 b3 b54 j55 j56) rdJ := by
  unfold route_Table_Matches.K1
  refine SJ.sr 1 <| OJ.go 1 [(21, .bool j55)] <| OJ.nil <| SJ.cond (t := (.tmp 21)) (b := j55) Iff.rfl (fun hc63 => ?_) (fun hc63 => ?_)
  · refine SJ.rg 5 <| OJ.ld (d := 22) (y := .tmp 5) (pend2 := fun x60 => []) Ty39 (fun _ => rfl) (fun x60 => ?_)
    refine OJ.kld (d := 23) (y := .tmp 7) (cd := c_api_Route) (j := 0) (b := b54) (o := 0) j56 (pend2 := []) Ty32 rfl (At.whole _) rfl ?_
    refine OJ.rowSlot (d := 24) (t := 39) (parts := [(0, .tmp 23)]) (ps := [(0, c_api_Route.val j56)]) (cd := c_api_Route) (⟨[j56], rfl⟩ : Vec api_Route 1) (owed := []) Ty32 (Filled.cons (cd := c_api_Route) (q := j56) (o := 0) rfl (Upd.arr (i := 0) (by decide) (by decide)) Filled.nil) (fun b61 => ?_)
    refine OW.nil <| OJ.appl (d := 25) (t := 39) (u := 39) (so := .tmp 22) (xo := .tmp 24) (j := 0) (b := b61) (l := (c_api_Route.arr 1).enc (⟨[j56], rfl⟩ : Vec api_Route 1)) (n := 1) (k := 1) [j56] (owed := []) Ty32 (by rfl) (Cod.arr_enc _ _ _) (by rfl) (fun r62 => ?_)
    refine OW.nil <| OJ.st (y := .tmp 5) (z := .tmp 25) (owed := []) Ty39 ?_
    refine OW.nil <| OJ.nil <| SJ.inBlock <| SJ.forget (List.Sublist.cons _ (List.Sublist.cons _ List.Sublist.slnil)) ?_
    exact SJ.at_ [] rfl
  · refine SJ.skip <| SJ.inBlock <| SJ.forget (List.Sublist.cons _ List.Sublist.slnil) ?_
    exact SJ.at_ [] rfl
noncomputable def route_Table_Matches.R1 (b1 : Nat) (b3 : Nat) (l5 : Nat) (x6 : api_Prefix) : M (Option Code) :=
  slot 30 >>= fun b41 =>
  begM l5 >>= fun _ =>
  draws 19 4 (opsOf (c1 (c1 ((rfOf (c1 (c2 (c1 (c2 (c2 route_Table_Matches.B)))))).2.2.2)))) >>= fun o42 =>
  if bfr o42 5 9 = true then
    ld cP (pt b1 0) >>= fun x65 =>
    nilck x65 >>= fun p66 =>
    ld cM p66 >>= fun x67 =>
    mget c_api_Prefix c_api_Route z_api_Route x67 x6 >>= fun r68 =>
    slot 32 >>= fun b69 =>
    same cM p66 x67 >>= fun _ =>
    same cP (pt b1 0) x65 >>= fun _ =>
    route_Table_Matches.K1 b3 b69 r68.2 r68.1
  else
    ld cP (pt b1 0) >>= fun x70 =>
    nilck x70 >>= fun p71 =>
    ld cM p71 >>= fun x72 =>
    slot 32 >>= fun b73 =>
    same cM p71 x72 >>= fun _ =>
    same cP (pt b1 0) x70 >>= fun _ =>
    mget c_api_Prefix c_api_Route z_api_Route x72 x6 >>= fun r74 =>
    route_Table_Matches.K1 b3 b73 r74.2 r74.1
theorem route_Table_Matches.R1_ok (b1 : Nat) (b3 : Nat) (r4 : Any) (l5 : Nat) (rc_ : Loop) (ht_ : Loops.tab l5 = some rc_) (x6 : api_Prefix) :
    SJ (route_Table_Matches.rx l5) [.code ((rfOf (c1 (c2 (c1 (c2 (c2 route_Table_Matches.B)))))).2.2.1), .beginRound, .code ((rfOf (c1 (c2 (c1 (c2 (c2 route_Table_Matches.B)))))).2.2.2)] [(11, c_api_Prefix.val x6), (2, .pointer (some (pt b1 0))), (4, Sl.v Sl.nil), (5, .pointer (some (pt b3 0))), (10, r4.v)] [] (route_Table_Matches.R1 b1 b3 l5 x6) rdJ := by
  unfold route_Table_Matches.R1
  refine SJ.rg 2 <| OJ.slotOf (d := 6) (op := (.alloc 30)) (cd := c_api_Prefix) (u := z_api_Prefix) (owed := []) (alloc_run Ty30) (fun b41 => ?_)
  refine OW.nil <| OJ.kst (y := .tmp 6) (z := .tmp 11) (cd := c_api_Prefix) (u := x6) (j := 0) (b := b41) (o := 0) (c_api_Prefix.enc x6) (owed := []) Ty30 rfl (Upd.whole ((Cod.len _ _).trans (Cod.len _ _).symm)) rfl ?_
  refine OW.nil <| OJ.nil <| SJ.begin rfl ht_ ?_
  refine SJ.block (id := 1) <| SJ.seq <| SJ.draws (id := 4) (kd := [1, 0, 0, 1, 1, 2, 0, 0, 0, 2, 2, 0]) (bef := [0, 1, 3, 7, 0, 31, 63, 127, 127, 0, 767, 2047]) (ord := [0, 1, 2, 3, 4, 5, 6, 7, 8, 9, 10, 11]) (E := [(5, 9)]) mixed (fun o42 hg_ => ?_)
  refine SJ.bfr hg_ (by decide) (fun ho64 => ?_) (fun ho64 => ?_)
  · refine SJ.leaf hg_ (kd := [1, 0, 0, 1, 1, 2, 0, 0, 0, 2, 2, 0]) (bef := [0, 1, 3, 7, 0, 31, 63, 127, 127, 0, 767, 2047]) (ord := [0, 1, 2, 3, 4, 5, 6, 7, 8, 9, 10, 11]) (E := [(5, 9)]) (allB.cons ho64 allB.nil) ?_
    refine OJ.ld (d := 13) (y := .tmp 2) (pend2 := fun x65 => [⟨0, 22, (pt b1 0), cP.val x65⟩]) Ty22 (fun _ => rfl) (fun x65 => ?_)
    refine OJ.nilck (d := 14) (y := .tmp 13) (fun p66 => ?_)
    refine OJ.go 1 [(15, .pointer (some p66))] <| OJ.ld (d := 16) (y := .tmp 15) (pend2 := fun x67 => [⟨3, 79, p66, cM.val x67⟩, ⟨0, 22, (pt b1 0), cP.val x65⟩]) Ty79 (fun _ => rfl) (fun x67 => ?_)
    refine OJ.kld (d := 17) (y := .tmp 6) (cd := c_api_Prefix) (j := 0) (b := b41) (o := 0) x6 (pend2 := [⟨4, 30, (pt b41 0), c_api_Prefix.val x6⟩, ⟨3, 79, p66, cM.val x67⟩, ⟨0, 22, (pt b1 0), cP.val x65⟩]) Ty30 rfl (At.whole _) rfl ?_
    refine OJ.get1 (d := 18) (x := .tmp 16) (y := .tmp 17) (owed := []) Kt79 (fun r68 => ?_)
    refine OW.nil <| OJ.go 3 [(20, .bool r68.2), (19, c_api_Route.val r68.1), (12, .tuple #[c_api_Route.val r68.1, .bool r68.2])] <| OJ.slotOf (d := 7) (op := (.alloc 32)) (cd := c_api_Route) (u := z_api_Route) (owed := [⟨4, 30, (pt b41 0), c_api_Prefix.val x6⟩, ⟨3, 79, p66, cM.val x67⟩, ⟨0, 22, (pt b1 0), cP.val x65⟩]) (alloc_run Ty32) (fun b69 => ?_)
    refine OW.known (j := 1) (q := x6) Ty30 rfl (At.whole _) ?_
    refine OW.same Ty79 ?_
    refine OW.same Ty22 ?_
    refine OW.nil <| OJ.kst (y := .tmp 7) (z := .tmp 19) (cd := c_api_Route) (u := r68.1) (j := 0) (b := b69) (o := 0) (c_api_Route.enc r68.1) (owed := []) Ty32 rfl (Upd.whole ((Cod.len _ _).trans (Cod.len _ _).symm)) rfl ?_
    refine OW.nil <| OJ.go 1 [(8, .bool r68.2)] <| OJ.nil <| SJ.forget (List.Sublist.cons_cons _ (List.Sublist.cons _ List.Sublist.slnil)) ?_
    refine SJ.less [4, 5, 7, 8] (m' := [(4, Sl.v Sl.nil), (5, .pointer (some (pt b3 0))), (7, .pointer (some (pt b69 0))), (8, .bool r68.2)]) ?_
    exact route_Table_Matches.K1_ok b3 l5 b69 r68.2 r68.1
  · refine SJ.leaf hg_ (kd := [1, 0, 0, 1, 1, 2, 0, 0, 0, 2, 2, 0]) (bef := [0, 1, 3, 7, 0, 31, 63, 127, 127, 0, 767, 2047]) (ord := [0, 1, 2, 3, 4, 9, 5, 6, 7, 8, 10, 11]) (E := [(9, 5)]) (allB.cons ho64 allB.nil) ?_
    refine OJ.ld (d := 13) (y := .tmp 2) (pend2 := fun x70 => [⟨0, 22, (pt b1 0), cP.val x70⟩]) Ty22 (fun _ => rfl) (fun x70 => ?_)
    refine OJ.nilck (d := 14) (y := .tmp 13) (fun p71 => ?_)
    refine OJ.go 1 [(15, .pointer (some p71))] <| OJ.ld (d := 16) (y := .tmp 15) (pend2 := fun x72 => [⟨3, 79, p71, cM.val x72⟩, ⟨0, 22, (pt b1 0), cP.val x70⟩]) Ty79 (fun _ => rfl) (fun x72 => ?_)
    refine OJ.kld (d := 17) (y := .tmp 6) (cd := c_api_Prefix) (j := 0) (b := b41) (o := 0) x6 (pend2 := [⟨4, 30, (pt b41 0), c_api_Prefix.val x6⟩, ⟨3, 79, p71, cM.val x72⟩, ⟨0, 22, (pt b1 0), cP.val x70⟩]) Ty30 rfl (At.whole _) rfl ?_
    refine OJ.slotOf (d := 7) (op := (.alloc 32)) (cd := c_api_Route) (u := z_api_Route) (owed := [⟨4, 30, (pt b41 0), c_api_Prefix.val x6⟩, ⟨3, 79, p71, cM.val x72⟩, ⟨0, 22, (pt b1 0), cP.val x70⟩]) (alloc_run Ty32) (fun b73 => ?_)
    refine OW.known (j := 1) (q := x6) Ty30 rfl (At.whole _) ?_
    refine OW.same Ty79 ?_
    refine OW.same Ty22 ?_
    refine OW.nil <| OJ.get1 (d := 18) (x := .tmp 16) (y := .tmp 17) (owed := []) Kt79 (fun r74 => ?_)
    refine OW.nil <| OJ.go 3 [(20, .bool r74.2), (19, c_api_Route.val r74.1), (12, .tuple #[c_api_Route.val r74.1, .bool r74.2])] <| OJ.kst (y := .tmp 7) (z := .tmp 19) (cd := c_api_Route) (u := r74.1) (j := 0) (b := b73) (o := 0) (c_api_Route.enc r74.1) (owed := []) Ty32 rfl (Upd.whole ((Cod.len _ _).trans (Cod.len _ _).symm)) rfl ?_
    refine OW.nil <| OJ.go 1 [(8, .bool r74.2)] <| OJ.nil <| SJ.forget (List.Sublist.cons_cons _ (List.Sublist.cons _ List.Sublist.slnil)) ?_
    refine SJ.less [4, 5, 7, 8] (m' := [(4, Sl.v Sl.nil), (5, .pointer (some (pt b3 0))), (7, .pointer (some (pt b73 0))), (8, .bool r74.2)]) ?_
    exact route_Table_Matches.K1_ok b3 l5 b73 r74.2 r74.1
noncomputable def route_Table_Matches (a0 : (Option Addr)) (a1 : api_IP) : M Sl :=
  newv 22 cP a0 >>= fun b1 =>
  slot 28 >>= fun b2 =>
  newv 39 cL Sl.nil >>= fun b3 =>
  route_prefixes a1 >>= fun r4 =>
  rangeM (route_Table_Matches.it r4) (fun l_ x_ => route_Table_Matches.R1 b1 b3 l_ x_) (onJ
    (ld cL (pt b3 0) >>= fun x75 =>
     pure x75)
    (fail)
    [])
theorem route_Table_Matches_ok (a0 : (Option Addr)) (a1 : api_IP) : Ref Tryd.prog 19 [.pointer a0, c_api_IP.val a1] (route_Table_Matches a0 a1) route_Table_Matches.out := by
  refine Ref.of (cd := route_Table_Matches.B) Tryd.func19 ?_
  show SJ route_Table_Matches.cx [.code route_Table_Matches.B] [(0, .pointer a0), (1, c_api_IP.val a1)] [] (route_Table_Matches a0 a1) route_Table_Matches.F0
  unfold route_Table_Matches
  refine SJ.sr 3 <| OJ.newOf (d := 2) (op := (.box 22 (.tmp 0))) (cd := cP) (u := a0) (owed := []) (box_run (by kernel_rfl)) (fun b1 => ?_)
  refine OW.nil <| OJ.slotOf (d := 3) (op := (.box 28 (.tmp 1))) (cd := c_api_IP) (u := a1) (owed := []) (box_run (by kernel_rfl)) (fun b2 => ?_)
  refine OW.nil <| OJ.go 1 [(4, Sl.v Sl.nil)] <| OJ.nil <| SJ.sr 1 <| OJ.newOf (d := 5) (op := (.alloc 39)) (cd := cL) (u := Sl.nil) (owed := []) (alloc_run Ty39) (fun b3 => ?_)
  refine OW.nil <| OJ.nil <| SJ.seq <| SJ.sr 2 <| OJ.kld (d := 9) (y := .tmp 3) (cd := c_api_IP) (j := 0) (b := b2) (o := 0) a1 (pend2 := []) Ty28 rfl (At.whole _) rfl ?_
  refine OJ.call (d := 10) (g := 33) (ats := #[28]) (args := [.tmp 9]) (owed := []) F33 (route_prefixes_ok a1) (fun r4 => ?_)
  refine OW.nil <| OJ.nil <| SJ.block (id := 0) <| SJ.less [2, 4, 5, 10] (m' := [(2, .pointer (some (pt b1 0))), (4, Sl.v Sl.nil), (5, .pointer (some (pt b3 0))), (10, r4.v)]) ?_
  refine SJ.rangeF (fo := .tmp 10) (fv := r4.v) (ps := [11]) (fun x_ => [c_api_Prefix.val x_]) (fun _ => .tuple #[]) (fun L_ yv_ y_ hy_ => @route_Table_Matches.it_ok L_ r4 yv_ y_ hy_) (fun L_ l_ rc_ ht_ x_ => @route_Table_Matches.R1_ok L_ b1 b3 r4 l_ rc_ ht_ x_) (SJ.onJ ?_ ?_ ?_)
  · refine SJ.inBlock <| SJ.sr 2 <| OJ.ld (d := 26) (y := .tmp 5) (pend2 := fun x75 => []) Ty39 (fun _ => rfl) (fun x75 => ?_)
    exact OJ.go 1 [(4, Sl.v x75)] <| OJ.nil <| SJ.r1 (Sl.v x75) rfl rfl
  · exact SJ.fail
  · exact SJ.exits0

/-! ### weir/weirlaw14.same: function 20 -/
noncomputable def weirlaw14_same.B : Code := (Tryd.f20.body).getD .skip
noncomputable def weirlaw14_same.cx : Fx := ⟨Tryd.prog, 20, Tryd.f20, none⟩
noncomputable def weirlaw14_same.out (r_ : Bool) : Value := .bool r_
noncomputable def weirlaw14_same.F0 (r_ : Bool) : Reach := .ret (weirlaw14_same.out r_)
noncomputable def weirlaw14_same.F1 (a0 : Sl) (a1 : Sl) : (LS Int Bool) → Reach := loopF [.inLoop (c1 (c1 (c2 (c1 (c2 (c2 weirlaw14_same.B)))))), .inBlock 0, .code (c2 (c2 (c2 weirlaw14_same.B)))] (fun s_ : Int => [(0, Sl.v a0), (1, Sl.v a1), (5, .int .i64 s_)]) (fun s_ : Int => []) weirlaw14_same.F0
noncomputable def weirlaw14_same.L1 (a0 : Sl) (a1 : Sl) (s1 : Int) : M (LS Int Bool) :=
  if s1 < (a0.len : Int) then
    draw >>= fun _ =>
    idx a0.a a0.len s1 36 >>= fun p8 =>
    ld c_api_Route p8 >>= fun x9 =>
    idx a1.a a1.len s1 36 >>= fun p10 =>
    ld c_api_Route p10 >>= fun x11 =>
    if ¬ (x9 = x11) then
      pure (LS.done false)
    else
      pure (LS.next (IntKind.wrap .i64 (s1 + 1)))
  else
    pure (LS.done true)
theorem weirlaw14_same.L1_ok (a0 : Sl) (a1 : Sl) (s1 : Int) :
    SJ weirlaw14_same.cx [.code (c1 (c1 (c2 (c1 (c2 (c2 weirlaw14_same.B)))))), .inLoop (c1 (c1 (c2 (c1 (c2 (c2 weirlaw14_same.B)))))), .inBlock 0, .code (c2 (c2 (c2 weirlaw14_same.B)))] [(0, Sl.v a0), (1, Sl.v a1), (5, .int .i64 s1)] [] (weirlaw14_same.L1 a0 a1 s1) (weirlaw14_same.F1 a0 a1) := by
  unfold weirlaw14_same.L1
  refine SJ.seq <| SJ.sr 4 <| OJ.go 4 [(14, .bool (decide (s1 < (a0.len : Int)))), (13, .int .i64 (a0.len : Int)), (12, Sl.v a0), (11, .int .i64 s1)] <| OJ.nil <| SJ.cond (t := (.tmp 14)) (b := decide (s1 < (a0.len : Int))) decide_eq_true_iff (fun hc13 => ?_) (fun hc13 => ?_)
  · refine SJ.skip <| SJ.seq <| SJ.block (id := 1) <| SJ.seq <| SJ.draw (id := 6) (kd := [0, 0, 0, 1, 0, 0, 0, 1, 0]) (bef := [0, 0, 3, 7, 0, 0, 48, 112, 255]) (ord := [0, 1, 2, 3, 4, 5, 6, 7, 8]) mixed ?_
    refine OJ.go 2 [(18, .int .i64 s1), (17, Sl.v a0)] <| OJ.idxS (d := 19) (T := 39) (y := .tmp 17) (j := .tmp 18) (E := 32) (cap := a0.cap) (k := .i64) (fun p8 => ?_)
    refine OJ.ld (d := 20) (y := .tmp 19) (pend2 := fun x9 => [⟨3, 32, p8, c_api_Route.val x9⟩]) Ty32 (fun _ => rfl) (fun x9 => ?_)
    refine OJ.go 2 [(22, .int .i64 s1), (21, Sl.v a1)] <| OJ.idxS (d := 23) (T := 39) (y := .tmp 21) (j := .tmp 22) (E := 32) (cap := a1.cap) (k := .i64) (fun p10 => ?_)
    refine OJ.ld (d := 24) (y := .tmp 23) (pend2 := fun x11 => [⟨7, 32, p10, c_api_Route.val x11⟩, ⟨3, 32, p8, c_api_Route.val x9⟩]) Ty32 (fun _ => rfl) (fun x11 => ?_)
    refine OJ.neq (d := 25) (T := 32) (yT := 32) (y := .tmp 20) (z := .tmp 24) (cd := c_api_Route) (p := x9) (q := x11) rfl Eq32 ?_
    refine OJ.nil <| SJ.cond (t := (.tmp 25)) (b := (!eqv x9 x11)) (bnot_iff eqv_iff) (fun hc12 => ?_) (fun hc12 => ?_)
    · exact SJ.sr 1 <| OJ.go 1 [(4, .bool false)] <| OJ.nil <| SJ.r1 (.bool false) rfl rfl
    · exact SJ.skip <| SJ.inBlock <| SJ.rg 3 <| OJ.go 3 [(5, .int .i64 (IntKind.wrap .i64 (s1 + 1))), (16, .int .i64 (IntKind.wrap .i64 (s1 + 1))), (15, .int .i64 s1)] <| OJ.nil <| SJ.at_ [0, 1, 5] rfl
  · exact SJ.exit (id := 0) (by rfl) <| SJ.sr 1 <| OJ.go 1 [(4, .bool true)] <| OJ.nil <| SJ.r1 (.bool true) rfl rfl
noncomputable def weirlaw14_same (a0 : Sl) (a1 : Sl) : M Bool :=
  if (a0.len : Int) ≠ (a1.len : Int) then
    pure false
  else
    loopM (fun s_ : Int => weirlaw14_same.L1 a0 a1 s_) 0
theorem weirlaw14_same_ok (a0 : Sl) (a1 : Sl) : Ref Tryd.prog 20 [Sl.v a0, Sl.v a1] (weirlaw14_same a0 a1) weirlaw14_same.out := by
  refine Ref.of (cd := weirlaw14_same.B) Tryd.func20 ?_
  show SJ weirlaw14_same.cx [.code weirlaw14_same.B] [(0, Sl.v a0), (1, Sl.v a1)] [] (weirlaw14_same a0 a1) weirlaw14_same.F0
  unfold weirlaw14_same
  refine SJ.sr 1 <| OJ.go 1 [(4, .bool false)] <| OJ.nil <| SJ.seq <| SJ.sr 5 <| OJ.go 5 [(10, .bool ((a0.len : Int) != (a1.len : Int))), (9, .int .i64 (a1.len : Int)), (8, Sl.v a1), (7, .int .i64 (a0.len : Int)), (6, Sl.v a0)] <| OJ.nil <| SJ.cond (t := (.tmp 10)) (b := ((a0.len : Int) != (a1.len : Int))) bne_iff_ne (fun hc14 => ?_) (fun hc14 => ?_)
  · exact SJ.sr 1 <| OJ.go 1 [(4, .bool false)] <| OJ.nil <| SJ.r1 (.bool false) rfl rfl
  · exact SJ.skip <| SJ.seq <| SJ.sr 1 <| OJ.go 1 [(5, .int .i64 0)] <| OJ.nil <| SJ.block (id := 0) <| SJ.loop (fun s_ : Int => [(0, Sl.v a0), (1, Sl.v a1), (5, .int .i64 s_)]) (fun s_ : Int => []) [0, 1, 5] rfl (fun _ _ => rfl) (fun s_ => weirlaw14_same.L1_ok a0 a1 s_)

/-! ### (*weir/route.Table).Find: function 14 -/
noncomputable def route_Table_Find.B : Code := (Tryd.f14.body).getD .skip
noncomputable def route_Table_Find.cx : Fx := ⟨Tryd.prog, 14, Tryd.f14, none⟩
noncomputable def route_Table_Find.out (r_ : (api_Route × Bool)) : Value := .tuple #[c_api_Route.val r_.1, .bool r_.2]
noncomputable def route_Table_Find.F0 (r_ : (api_Route × Bool)) : Reach := .ret (route_Table_Find.out r_)
noncomputable def route_Table_Find.rx (l_ : Nat) : Fx := ⟨Tryd.prog, 14, Tryd.f14, some l_⟩
noncomputable def route_Table_Find.it (f_ : Any) (y_ : api_Prefix → M Bool) : M Unit :=
  (caught f_.v).elim fail (fun q_ => if q_.1 = 51 then route_prefixes_1 y_ q_.2 else fail)
theorem route_Table_Find.it_ok (f_ yv_ : Any) (y_ : api_Prefix → M Bool) (hy_ : ∀ x_, RefV Tryd.prog yv_.v [c_api_Prefix.val x_] (y_ x_) Value.bool) : RefI Tryd.prog f_.v [yv_.v] (route_Table_Find.it f_ y_) (fun _ => .tuple #[]) := by
  intro v r v' e
  unfold route_Table_Find.it at e
  cases hf_ : caught f_.v with
  | none => rw [hf_] at e; cases e
  | some q_ =>
    obtain ⟨g_, p0⟩ := q_
    rw [hf_] at e
    simp only [Option.elim] at e
    by_cases hg_ : g_ = 51
    · subst hg_
      rw [if_pos rfl] at e
      have h_ := RefI.of (first := []) (vals := [yv_.v]) (cap := [.pointer (some p0)]) F51 (route_prefixes_1_ok yv_ y_ hy_ p0) v r v' e
      rw [caught_eq hf_]
      exact h_
    rw [if_neg hg_] at e
    cases e
noncomputable def route_Table_Find.R1 (b1 : Nat) (b3 : Nat) (b4 : Nat) (l6 : Nat) (x7 : api_Prefix) : M (Option Code) :=
  slot 30 >>= fun b36 =>
  begM l6 >>= fun _ =>
  draws 14 3 (opsOf (c1 (c1 ((rfOf (c1 (c2 (c1 (c2 route_Table_Find.B))))).2.2.2)))) >>= fun o37 =>
  if bfr o37 5 9 = true then
    ld cP (pt b1 0) >>= fun x50 =>
    nilck x50 >>= fun p51 =>
    ld cM p51 >>= fun x52 =>
    mget c_api_Prefix c_api_Route z_api_Route x52 x7 >>= fun r53 =>
    slot 32 >>= fun b54 =>
    same cM p51 x52 >>= fun _ =>
    same cP (pt b1 0) x50 >>= fun _ =>
    if r53.2 = true then
      st c_api_Route (pt b3 0) r53.1 >>= fun _ =>
      st cB (pt b4 0) true >>= fun _ =>
      pure (some Code.ret)
    else
      pure none
  else
    ld cP (pt b1 0) >>= fun x56 =>
    nilck x56 >>= fun p57 =>
    ld cM p57 >>= fun x58 =>
    slot 32 >>= fun b59 =>
    same cM p57 x58 >>= fun _ =>
    same cP (pt b1 0) x56 >>= fun _ =>
    mget c_api_Prefix c_api_Route z_api_Route x58 x7 >>= fun r60 =>
    if r60.2 = true then
      st c_api_Route (pt b3 0) r60.1 >>= fun _ =>
      st cB (pt b4 0) true >>= fun _ =>
      pure (some Code.ret)
    else
      pure none
theorem route_Table_Find.R1_ok (b1 : Nat) (b3 : Nat) (b4 : Nat) (r5 : Any) (l6 : Nat) (rc_ : Loop) (ht_ : Loops.tab l6 = some rc_) (x7 : api_Prefix) :
    SJ (route_Table_Find.rx l6) [.code ((rfOf (c1 (c2 (c1 (c2 route_Table_Find.B))))).2.2.1), .beginRound, .code ((rfOf (c1 (c2 (c1 (c2 route_Table_Find.B))))).2.2.2)] [(11, c_api_Prefix.val x7), (2, .pointer (some (pt b1 0))), (4, .pointer (some (pt b3 0))), (5, .pointer (some (pt b4 0))), (10, r5.v)] [] (route_Table_Find.R1 b1 b3 b4 l6 x7) rdJ := by
  unfold route_Table_Find.R1
  refine SJ.rg 2 <| OJ.slotOf (d := 6) (op := (.alloc 30)) (cd := c_api_Prefix) (u := z_api_Prefix) (owed := []) (alloc_run Ty30) (fun b36 => ?_)
  refine OW.nil <| OJ.kst (y := .tmp 6) (z := .tmp 11) (cd := c_api_Prefix) (u := x7) (j := 0) (b := b36) (o := 0) (c_api_Prefix.enc x7) (owed := []) Ty30 rfl (Upd.whole ((Cod.len _ _).trans (Cod.len _ _).symm)) rfl ?_
  refine OW.nil <| OJ.nil <| SJ.begin rfl ht_ ?_
  refine SJ.block (id := 1) <| SJ.seq <| SJ.draws (id := 3) (kd := [1, 0, 0, 1, 1, 2, 0, 0, 0, 2, 2, 0]) (bef := [0, 1, 3, 7, 0, 31, 63, 127, 127, 0, 767, 2047]) (ord := [0, 1, 2, 3, 4, 5, 6, 7, 8, 9, 10, 11]) (E := [(5, 9)]) mixed (fun o37 hg_ => ?_)
  refine SJ.bfr hg_ (by decide) (fun ho49 => ?_) (fun ho49 => ?_)
  · refine SJ.leaf hg_ (kd := [1, 0, 0, 1, 1, 2, 0, 0, 0, 2, 2, 0]) (bef := [0, 1, 3, 7, 0, 31, 63, 127, 127, 0, 767, 2047]) (ord := [0, 1, 2, 3, 4, 5, 6, 7, 8, 9, 10, 11]) (E := [(5, 9)]) (allB.cons ho49 allB.nil) ?_
    refine OJ.ld (d := 13) (y := .tmp 2) (pend2 := fun x50 => [⟨0, 22, (pt b1 0), cP.val x50⟩]) Ty22 (fun _ => rfl) (fun x50 => ?_)
    refine OJ.nilck (d := 14) (y := .tmp 13) (fun p51 => ?_)
    refine OJ.go 1 [(15, .pointer (some p51))] <| OJ.ld (d := 16) (y := .tmp 15) (pend2 := fun x52 => [⟨3, 79, p51, cM.val x52⟩, ⟨0, 22, (pt b1 0), cP.val x50⟩]) Ty79 (fun _ => rfl) (fun x52 => ?_)
    refine OJ.kld (d := 17) (y := .tmp 6) (cd := c_api_Prefix) (j := 0) (b := b36) (o := 0) x7 (pend2 := [⟨4, 30, (pt b36 0), c_api_Prefix.val x7⟩, ⟨3, 79, p51, cM.val x52⟩, ⟨0, 22, (pt b1 0), cP.val x50⟩]) Ty30 rfl (At.whole _) rfl ?_
    refine OJ.get1 (d := 18) (x := .tmp 16) (y := .tmp 17) (owed := []) Kt79 (fun r53 => ?_)
    refine OW.nil <| OJ.go 3 [(20, .bool r53.2), (19, c_api_Route.val r53.1), (12, .tuple #[c_api_Route.val r53.1, .bool r53.2])] <| OJ.slotOf (d := 7) (op := (.alloc 32)) (cd := c_api_Route) (u := z_api_Route) (owed := [⟨4, 30, (pt b36 0), c_api_Prefix.val x7⟩, ⟨3, 79, p51, cM.val x52⟩, ⟨0, 22, (pt b1 0), cP.val x50⟩]) (alloc_run Ty32) (fun b54 => ?_)
    refine OW.known (j := 1) (q := x7) Ty30 rfl (At.whole _) ?_
    refine OW.same Ty79 ?_
    refine OW.same Ty22 ?_
    refine OW.nil <| OJ.kst (y := .tmp 7) (z := .tmp 19) (cd := c_api_Route) (u := r53.1) (j := 0) (b := b54) (o := 0) (c_api_Route.enc r53.1) (owed := []) Ty32 rfl (Upd.whole ((Cod.len _ _).trans (Cod.len _ _).symm)) rfl ?_
    refine OW.nil <| OJ.go 1 [(8, .bool r53.2)] <| OJ.nil <| SJ.sr 1 <| OJ.go 1 [(21, .bool r53.2)] <| OJ.nil <| SJ.cond (t := (.tmp 21)) (b := r53.2) Iff.rfl (fun hc55 => ?_) (fun hc55 => ?_)
    · refine SJ.sr 3 <| OJ.kld (d := 22) (y := .tmp 7) (cd := c_api_Route) (j := 0) (b := b54) (o := 0) r53.1 (pend2 := []) Ty32 rfl (At.whole _) rfl ?_
      refine OJ.st (y := .tmp 4) (z := .tmp 22) (owed := []) Ty32 ?_
      refine OW.nil <| OJ.st (y := .tmp 5) (z := .const (.bool true)) (owed := []) Ty4 ?_
      exact OW.nil <| OJ.nil <| SJ.retJ rfl
    · refine SJ.skip <| SJ.inBlock <| SJ.forget (List.Sublist.cons _ (List.Sublist.cons _ List.Sublist.slnil)) ?_
      exact SJ.at_ [] rfl
  · refine SJ.leaf hg_ (kd := [1, 0, 0, 1, 1, 2, 0, 0, 0, 2, 2, 0]) (bef := [0, 1, 3, 7, 0, 31, 63, 127, 127, 0, 767, 2047]) (ord := [0, 1, 2, 3, 4, 9, 5, 6, 7, 8, 10, 11]) (E := [(9, 5)]) (allB.cons ho49 allB.nil) ?_
    refine OJ.ld (d := 13) (y := .tmp 2) (pend2 := fun x56 => [⟨0, 22, (pt b1 0), cP.val x56⟩]) Ty22 (fun _ => rfl) (fun x56 => ?_)
    refine OJ.nilck (d := 14) (y := .tmp 13) (fun p57 => ?_)
    refine OJ.go 1 [(15, .pointer (some p57))] <| OJ.ld (d := 16) (y := .tmp 15) (pend2 := fun x58 => [⟨3, 79, p57, cM.val x58⟩, ⟨0, 22, (pt b1 0), cP.val x56⟩]) Ty79 (fun _ => rfl) (fun x58 => ?_)
    refine OJ.kld (d := 17) (y := .tmp 6) (cd := c_api_Prefix) (j := 0) (b := b36) (o := 0) x7 (pend2 := [⟨4, 30, (pt b36 0), c_api_Prefix.val x7⟩, ⟨3, 79, p57, cM.val x58⟩, ⟨0, 22, (pt b1 0), cP.val x56⟩]) Ty30 rfl (At.whole _) rfl ?_
    refine OJ.slotOf (d := 7) (op := (.alloc 32)) (cd := c_api_Route) (u := z_api_Route) (owed := [⟨4, 30, (pt b36 0), c_api_Prefix.val x7⟩, ⟨3, 79, p57, cM.val x58⟩, ⟨0, 22, (pt b1 0), cP.val x56⟩]) (alloc_run Ty32) (fun b59 => ?_)
    refine OW.known (j := 1) (q := x7) Ty30 rfl (At.whole _) ?_
    refine OW.same Ty79 ?_
    refine OW.same Ty22 ?_
    refine OW.nil <| OJ.get1 (d := 18) (x := .tmp 16) (y := .tmp 17) (owed := []) Kt79 (fun r60 => ?_)
    refine OW.nil <| OJ.go 3 [(20, .bool r60.2), (19, c_api_Route.val r60.1), (12, .tuple #[c_api_Route.val r60.1, .bool r60.2])] <| OJ.kst (y := .tmp 7) (z := .tmp 19) (cd := c_api_Route) (u := r60.1) (j := 0) (b := b59) (o := 0) (c_api_Route.enc r60.1) (owed := []) Ty32 rfl (Upd.whole ((Cod.len _ _).trans (Cod.len _ _).symm)) rfl ?_
    refine OW.nil <| OJ.go 1 [(8, .bool r60.2)] <| OJ.nil <| SJ.sr 1 <| OJ.go 1 [(21, .bool r60.2)] <| OJ.nil <| SJ.cond (t := (.tmp 21)) (b := r60.2) Iff.rfl (fun hc61 => ?_) (fun hc61 => ?_)
    · refine SJ.sr 3 <| OJ.kld (d := 22) (y := .tmp 7) (cd := c_api_Route) (j := 0) (b := b59) (o := 0) r60.1 (pend2 := []) Ty32 rfl (At.whole _) rfl ?_
      refine OJ.st (y := .tmp 4) (z := .tmp 22) (owed := []) Ty32 ?_
      refine OW.nil <| OJ.st (y := .tmp 5) (z := .const (.bool true)) (owed := []) Ty4 ?_
      exact OW.nil <| OJ.nil <| SJ.retJ rfl
    · refine SJ.skip <| SJ.inBlock <| SJ.forget (List.Sublist.cons _ (List.Sublist.cons _ List.Sublist.slnil)) ?_
      exact SJ.at_ [] rfl
noncomputable def route_Table_Find (a0 : (Option Addr)) (a1 : api_IP) : M (api_Route × Bool) :=
  newv 22 cP a0 >>= fun b1 =>
  slot 28 >>= fun b2 =>
  newv 32 c_api_Route z_api_Route >>= fun b3 =>
  newv 4 cB false >>= fun b4 =>
  route_prefixes a1 >>= fun r5 =>
  rangeM (route_Table_Find.it r5) (fun l_ x_ => route_Table_Find.R1 b1 b3 b4 l_ x_) (onJ
    (st c_api_Route (pt b3 0) z_api_Route >>= fun _ =>
     st cB (pt b4 0) false >>= fun _ =>
     ld c_api_Route (pt b3 0) >>= fun q62 =>
     ld cB (pt b4 0) >>= fun q63 =>
     pure (q62, q63))
    (ld c_api_Route (pt b3 0) >>= fun q64 =>
     ld cB (pt b4 0) >>= fun q65 =>
     pure (q64, q65))
    [])
theorem route_Table_Find_ok (a0 : (Option Addr)) (a1 : api_IP) : Ref Tryd.prog 14 [.pointer a0, c_api_IP.val a1] (route_Table_Find a0 a1) route_Table_Find.out := by
  refine Ref.of (cd := route_Table_Find.B) Tryd.func14 ?_
  show SJ route_Table_Find.cx [.code route_Table_Find.B] [(0, .pointer a0), (1, c_api_IP.val a1)] [] (route_Table_Find a0 a1) route_Table_Find.F0
  unfold route_Table_Find
  refine SJ.sr 4 <| OJ.newOf (d := 2) (op := (.box 22 (.tmp 0))) (cd := cP) (u := a0) (owed := []) (box_run (by kernel_rfl)) (fun b1 => ?_)
  refine OW.nil <| OJ.slotOf (d := 3) (op := (.box 28 (.tmp 1))) (cd := c_api_IP) (u := a1) (owed := []) (box_run (by kernel_rfl)) (fun b2 => ?_)
  refine OW.nil <| OJ.newOf (d := 4) (op := (.alloc 32)) (cd := c_api_Route) (u := z_api_Route) (owed := []) (alloc_run Ty32) (fun b3 => ?_)
  refine OW.nil <| OJ.newOf (d := 5) (op := (.alloc 4)) (cd := cB) (u := false) (owed := []) (alloc_run Ty4) (fun b4 => ?_)
  refine OW.nil <| OJ.nil <| SJ.seq <| SJ.sr 2 <| OJ.kld (d := 9) (y := .tmp 3) (cd := c_api_IP) (j := 0) (b := b2) (o := 0) a1 (pend2 := []) Ty28 rfl (At.whole _) rfl ?_
  refine OJ.call (d := 10) (g := 33) (ats := #[28]) (args := [.tmp 9]) (owed := []) F33 (route_prefixes_ok a1) (fun r5 => ?_)
  refine OW.nil <| OJ.nil <| SJ.block (id := 0) <| SJ.less [2, 4, 5, 10] (m' := [(2, .pointer (some (pt b1 0))), (4, .pointer (some (pt b3 0))), (5, .pointer (some (pt b4 0))), (10, r5.v)]) ?_
  refine SJ.rangeF (fo := .tmp 10) (fv := r5.v) (ps := [11]) (fun x_ => [c_api_Prefix.val x_]) (fun _ => .tuple #[]) (fun L_ yv_ y_ hy_ => @route_Table_Find.it_ok L_ r5 yv_ y_ hy_) (fun L_ l_ rc_ ht_ x_ => @route_Table_Find.R1_ok L_ b1 b3 b4 r5 l_ rc_ ht_ x_) (SJ.onJ ?_ ?_ ?_)
  · refine SJ.inBlock <| SJ.sr 3 <| OJ.build (d := 23) (T := 32) (parts := []) (ps := []) (cd := c_api_Route) (z0 := z_api_Route) z_api_Route Ty32 rfl Filled.nil ?_
    refine OJ.st (y := .tmp 4) (z := .tmp 23) (owed := []) Ty32 ?_
    refine OW.nil <| OJ.st (y := .tmp 5) (z := .const (.bool false)) (owed := []) Ty4 ?_
    exact OW.nil <| OJ.nil <| SJ.retM (rs := [.cell 4 32, .cell 5 4]) (SR.ld (cd := c_api_Route) (ad := (pt b3 0)) Ty32 (fun q62 => (SR.ld (cd := cB) (ad := (pt b4 0)) Ty4 (fun q63 => (SR.nil rfl)))))
  · exact SJ.retM (rs := [.cell 4 32, .cell 5 4]) (SR.ld (cd := c_api_Route) (ad := (pt b3 0)) Ty32 (fun q64 => (SR.ld (cd := cB) (ad := (pt b4 0)) Ty4 (fun q65 => (SR.nil rfl)))))
  · exact SJ.exits0

/-! ### weir/weirref14.Find: function 21 -/
noncomputable def weirref14_Find.B : Code := (Tryd.f21.body).getD .skip
noncomputable def weirref14_Find.cx : Fx := ⟨Tryd.prog, 21, Tryd.f21, none⟩
noncomputable def weirref14_Find.out (r_ : (api_Route × Bool)) : Value := .tuple #[c_api_Route.val r_.1, .bool r_.2]
noncomputable def weirref14_Find.F0 (r_ : (api_Route × Bool)) : Reach := .ret (weirref14_Find.out r_)
noncomputable def weirref14_Find (a0 : Sl) (a1 : api_IP) : M (api_Route × Bool) :=
  slot 28 >>= fun b1 =>
  slot 32 >>= fun b2 =>
  weirref14_Matches a0 a1 >>= fun r3 =>
  if (r3.len : Int) = 0 then
    pure (z_api_Route, false)
  else
    idx r3.a r3.len 0 36 >>= fun p4 =>
    ld c_api_Route p4 >>= fun x5 =>
    pure (x5, true)
theorem weirref14_Find_ok (a0 : Sl) (a1 : api_IP) : Ref Tryd.prog 21 [Sl.v a0, c_api_IP.val a1] (weirref14_Find a0 a1) weirref14_Find.out := by
  refine Ref.of (cd := weirref14_Find.B) Tryd.func21 ?_
  show SJ weirref14_Find.cx [.code weirref14_Find.B] [(0, Sl.v a0), (1, c_api_IP.val a1)] [] (weirref14_Find a0 a1) weirref14_Find.F0
  unfold weirref14_Find
  refine SJ.sr 3 <| OJ.slotOf (d := 3) (op := (.box 28 (.tmp 1))) (cd := c_api_IP) (u := a1) (owed := []) (box_run (by kernel_rfl)) (fun b1 => ?_)
  refine OW.nil <| OJ.slotOf (d := 4) (op := (.alloc 32)) (cd := c_api_Route) (u := z_api_Route) (owed := []) (alloc_run Ty32) (fun b2 => ?_)
  refine OW.nil <| OJ.go 1 [(5, .bool false)] <| OJ.nil <| SJ.sr 4 <| OJ.go 1 [(7, Sl.v a0)] <| OJ.kld (d := 8) (y := .tmp 3) (cd := c_api_IP) (j := 1) (b := b1) (o := 0) a1 (pend2 := []) Ty28 rfl (At.whole _) rfl ?_
  refine OJ.call (d := 9) (g := 18) (ats := #[39, 28]) (args := [.tmp 7, .tmp 8]) (owed := []) F18 (weirref14_Matches_ok a0 a1) (fun r3 => ?_)
  refine OW.nil <| OJ.go 1 [(6, Sl.v r3)] <| OJ.nil <| SJ.seq <| SJ.sr 3 <| OJ.go 3 [(12, .bool ((r3.len : Int) == 0)), (11, .int .i64 (r3.len : Int)), (10, Sl.v r3)] <| OJ.nil <| SJ.cond (t := (.tmp 12)) (b := ((r3.len : Int) == 0)) beq_iff_eq (fun hc6 => ?_) (fun hc6 => ?_)
  · refine SJ.sr 3 <| OJ.build (d := 13) (T := 32) (parts := []) (ps := []) (cd := c_api_Route) (z0 := z_api_Route) z_api_Route Ty32 rfl Filled.nil ?_
    refine OJ.kst (y := .tmp 4) (z := .tmp 13) (cd := c_api_Route) (u := z_api_Route) (j := 0) (b := b2) (o := 0) (c_api_Route.enc z_api_Route) (owed := []) Ty32 rfl (Upd.whole ((Cod.len _ _).trans (Cod.len _ _).symm)) rfl ?_
    exact OW.nil <| OJ.go 1 [(5, .bool false)] <| OJ.nil <| SJ.ret rfl (Res.run (ys := [c_api_Route.val z_api_Route, .bool false]) (.cell (j := 0) (b := b2) (cd := c_api_Route) (q := z_api_Route) (by kernel_rfl) rfl Ty32 (At.whole _) (.tmp (by kernel_rfl) .nil)) rfl)
  · refine SJ.skip <| SJ.sr 5 <| OJ.go 1 [(14, Sl.v r3)] <| OJ.idxS (d := 15) (T := 39) (y := .tmp 14) (j := .const (.int .i64 0)) (E := 32) (cap := r3.cap) (k := .i64) (fun p4 => ?_)
    refine OJ.ld (d := 16) (y := .tmp 15) (pend2 := fun x5 => []) Ty32 (fun _ => rfl) (fun x5 => ?_)
    refine OJ.kst (y := .tmp 4) (z := .tmp 16) (cd := c_api_Route) (u := x5) (j := 0) (b := b2) (o := 0) (c_api_Route.enc x5) (owed := []) Ty32 rfl (Upd.whole ((Cod.len _ _).trans (Cod.len _ _).symm)) rfl ?_
    exact OW.nil <| OJ.go 1 [(5, .bool true)] <| OJ.nil <| SJ.ret rfl (Res.run (ys := [c_api_Route.val x5, .bool true]) (.cell (j := 0) (b := b2) (cd := c_api_Route) (q := x5) (by kernel_rfl) rfl Ty32 (At.whole _) (.tmp (by kernel_rfl) .nil)) rfl)

/-! ### (*weir/route.Table).Len: function 12 -/
noncomputable def route_Table_Len.B : Code := (Tryd.f12.body).getD .skip
noncomputable def route_Table_Len.cx : Fx := ⟨Tryd.prog, 12, Tryd.f12, none⟩
noncomputable def route_Table_Len.out (r_ : Int) : Value := .int .i64 r_
noncomputable def route_Table_Len.F0 (r_ : Int) : Reach := .ret (route_Table_Len.out r_)
noncomputable def route_Table_Len (a0 : (Option Addr)) : M Int :=
  nilck a0 >>= fun p1 =>
  ld cM p1 >>= fun x2 =>
  mlen x2 >>= fun r3 =>
  pure r3
theorem route_Table_Len_ok (a0 : (Option Addr)) : Ref Tryd.prog 12 [.pointer a0] (route_Table_Len a0) route_Table_Len.out := by
  refine Ref.of (cd := route_Table_Len.B) Tryd.func12 ?_
  show SJ route_Table_Len.cx [.code route_Table_Len.B] [(0, .pointer a0)] [] (route_Table_Len a0) route_Table_Len.F0
  unfold route_Table_Len
  refine SJ.sr 1 <| OJ.go 1 [(2, .int .i64 0)] <| OJ.nil <| SJ.sr 6 <| OJ.go 1 [(3, .pointer a0)] <| OJ.nilck (d := 4) (y := .tmp 3) (fun p1 => ?_)
  refine OJ.go 1 [(5, .pointer (some p1))] <| OJ.ld (d := 6) (y := .tmp 5) (pend2 := fun x2 => []) Ty79 (fun _ => rfl) (fun x2 => ?_)
  refine OJ.mlen (d := 7) (T := 79) (kT := 30) (vT := 32) (x := .tmp 6) (owed := []) (fun r3 => ?_)
  exact OW.nil <| OJ.go 1 [(2, .int .i64 r3)] <| OJ.nil <| SJ.r1 (.int .i64 r3) rfl rfl
end Go.Proofs.YtfgcobigollfjaaDoor.Lx
