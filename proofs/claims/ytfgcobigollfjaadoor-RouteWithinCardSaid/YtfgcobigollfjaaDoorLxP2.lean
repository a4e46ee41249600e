/- Programs of the M-world for Go functions, each with the proof that the Go text does what it says. Printed by lxgen.py. -/
import Derived.Test.YtfgcobigollfjaaDoorLxT
import Derived.Test.YtfgcobigollfjaaDoorLxP0
import Derived.Test.YtfgcobigollfjaaDoorLxP1
set_option linter.unusedVariables false
set_option linter.unusedSimpArgs false
set_option linter.unusedSectionVars false
namespace Go.Proofs.YtfgcobigollfjaaDoor.Lx
open Go Go.Proofs
variable [Loops]
/-! ### weir/weirref4.Less: function 56 -/
noncomputable def weirref4_Less.B : Code := (Tryd.f56.body).getD .skip
noncomputable def weirref4_Less.cx : Fx := ⟨Tryd.prog, 56, Tryd.f56, none⟩
noncomputable def weirref4_Less.out (r_ : Bool) : Value := .bool r_
noncomputable def weirref4_Less.F0 (r_ : Bool) : Reach := .ret (weirref4_Less.out r_)
noncomputable def weirref4_Less.F1 (a0 : api_IP) (a1 : api_IP) (b1 : Nat) (b2 : Nat) : (LS Int Bool) → Reach := loopF [.inLoop (c1 (c1 (c2 (c1 (c2 (c2 weirref4_Less.B)))))), .inBlock 0, .code (c2 (c2 (c2 weirref4_Less.B)))] (fun s_ : Int => [(2, .pointer (some (pt b1 0))), (3, .pointer (some (pt b2 0))), (5, .int .i64 s_)]) (fun s_ : Int => [(b2, c_api_IP.enc a1), (b1, c_api_IP.enc a0)]) weirref4_Less.F0
noncomputable def weirref4_Less.L1 (a0 : api_IP) (a1 : api_IP) (s3 : Int) : M (LS Int Bool) :=
  if s3 < 16 then
    draw >>= fun _ =>
    chk ((0 : Int) ≤ s3 ∧ s3 < (16 : Nat)) >>= fun _ =>
    chk ((0 : Int) ≤ s3 ∧ s3 < (16 : Nat)) >>= fun _ =>
    if (Vec.g a0.A s3 0) ≠ (Vec.g a1.A s3 0) then
      draw >>= fun _ =>
      chk ((0 : Int) ≤ s3 ∧ s3 < (16 : Nat)) >>= fun _ =>
      chk ((0 : Int) ≤ s3 ∧ s3 < (16 : Nat)) >>= fun _ =>
      pure (LS.done (decide ((Vec.g a0.A s3 0) < (Vec.g a1.A s3 0))))
    else
      pure (LS.next (IntKind.wrap .i64 (s3 + 1)))
  else
    pure (LS.done false)
theorem weirref4_Less.L1_ok (a0 : api_IP) (a1 : api_IP) (b1 : Nat) (b2 : Nat) (s3 : Int) :
    SJ weirref4_Less.cx [.code (c1 (c1 (c2 (c1 (c2 (c2 weirref4_Less.B)))))), .inLoop (c1 (c1 (c2 (c1 (c2 (c2 weirref4_Less.B)))))), .inBlock 0, .code (c2 (c2 (c2 weirref4_Less.B)))] [(2, .pointer (some (pt b1 0))), (3, .pointer (some (pt b2 0))), (5, .int .i64 s3)] [(b2, c_api_IP.enc a1), (b1, c_api_IP.enc a0)] (weirref4_Less.L1 a0 a1 s3) (weirref4_Less.F1 a0 a1 b1 b2) := by
  unfold weirref4_Less.L1
  refine SJ.seq <| SJ.sr 2 <| OJ.go 2 [(17, .bool (decide (s3 < 16))), (16, .int .i64 s3)] <| OJ.nil <| SJ.cond (t := (.tmp 17)) (b := decide (s3 < 16)) decide_eq_true_iff (fun hc31 => ?_) (fun hc31 => ?_)
  · refine SJ.skip <| SJ.seq <| SJ.block (id := 1) <| SJ.seq <| SJ.draw (id := 6) (kd := [0, 0, 0, 1, 0, 0, 0, 1, 0]) (bef := [0, 0, 3, 7, 0, 0, 48, 112, 255]) (ord := [0, 1, 2, 3, 4, 5, 6, 7, 8]) mixed ?_
    refine OJ.go 2 [(21, .pointer (some (pt b1 1))), (20, .int .i64 s3)] <| OJ.idxK (d := 22) (T := 26) (y := .tmp 21) (j := .tmp 20) (E := 5) (sz := 1) (b := b1) (o := 1) (k := .i64) (fun hb18 hb19 => ?_)
    refine OJ.kld (d := 23) (y := .tmp 22) (cd := (cI .u8)) (j := 1) (b := b1) (o := (1 + s3.toNat * 1)) (Vec.g a0.A s3 0) (pend2 := [⟨3, 5, (pt b1 (1 + s3.toNat * 1)), (cI .u8).val (Vec.g a0.A s3 0)⟩]) Ty5 rfl (At.trans (At_api_IP_A a0) (At.arr (z := 0) hb18 hb19)) rfl ?_
    refine OJ.go 2 [(25, .pointer (some (pt b2 1))), (24, .int .i64 s3)] <| OJ.idxK (d := 26) (T := 26) (y := .tmp 25) (j := .tmp 24) (E := 5) (sz := 1) (b := b2) (o := 1) (k := .i64) (fun hb20 hb21 => ?_)
    refine OJ.kld (d := 27) (y := .tmp 26) (cd := (cI .u8)) (j := 0) (b := b2) (o := (1 + s3.toNat * 1)) (Vec.g a1.A s3 0) (pend2 := [⟨7, 5, (pt b2 (1 + s3.toNat * 1)), (cI .u8).val (Vec.g a1.A s3 0)⟩, ⟨3, 5, (pt b1 (1 + s3.toNat * 1)), (cI .u8).val (Vec.g a0.A s3 0)⟩]) Ty5 rfl (At.trans (At_api_IP_A a1) (At.arr (z := 0) hb20 hb21)) rfl ?_
    refine OJ.go 1 [(28, .bool ((Vec.g a0.A s3 0) != (Vec.g a1.A s3 0)))] <| OJ.nil <| SJ.cond (t := (.tmp 28)) (b := ((Vec.g a0.A s3 0) != (Vec.g a1.A s3 0))) bne_iff_ne (fun hc30 => ?_) (fun hc30 => ?_)
    · refine SJ.seq <| SJ.draw (id := 7) (kd := [0, 0, 0, 1, 0, 0, 0, 1, 0, 0]) (bef := [0, 0, 3, 7, 0, 0, 48, 112, 255, 511]) (ord := [0, 1, 2, 3, 4, 5, 6, 7, 8, 9]) mixed ?_
      refine OJ.go 2 [(30, .pointer (some (pt b1 1))), (29, .int .i64 s3)] <| OJ.idxK (d := 31) (T := 26) (y := .tmp 30) (j := .tmp 29) (E := 5) (sz := 1) (b := b1) (o := 1) (k := .i64) (fun hb26 hb27 => ?_)
      refine OJ.kld (d := 32) (y := .tmp 31) (cd := (cI .u8)) (j := 1) (b := b1) (o := (1 + s3.toNat * 1)) (Vec.g a0.A s3 0) (pend2 := [⟨3, 5, (pt b1 (1 + s3.toNat * 1)), (cI .u8).val (Vec.g a0.A s3 0)⟩]) Ty5 rfl (At.trans (At_api_IP_A a0) (At.arr (z := 0) hb26 hb27)) rfl ?_
      refine OJ.go 2 [(34, .pointer (some (pt b2 1))), (33, .int .i64 s3)] <| OJ.idxK (d := 35) (T := 26) (y := .tmp 34) (j := .tmp 33) (E := 5) (sz := 1) (b := b2) (o := 1) (k := .i64) (fun hb28 hb29 => ?_)
      refine OJ.kld (d := 36) (y := .tmp 35) (cd := (cI .u8)) (j := 0) (b := b2) (o := (1 + s3.toNat * 1)) (Vec.g a1.A s3 0) (pend2 := [⟨7, 5, (pt b2 (1 + s3.toNat * 1)), (cI .u8).val (Vec.g a1.A s3 0)⟩, ⟨3, 5, (pt b1 (1 + s3.toNat * 1)), (cI .u8).val (Vec.g a0.A s3 0)⟩]) Ty5 rfl (At.trans (At_api_IP_A a1) (At.arr (z := 0) hb28 hb29)) rfl ?_
      exact OJ.go 2 [(4, .bool (decide ((Vec.g a0.A s3 0) < (Vec.g a1.A s3 0)))), (37, .bool (decide ((Vec.g a0.A s3 0) < (Vec.g a1.A s3 0))))] <| OJ.nil <| SJ.r1 (.bool (decide ((Vec.g a0.A s3 0) < (Vec.g a1.A s3 0)))) rfl rfl
    · exact SJ.skip <| SJ.inBlock <| SJ.rg 3 <| OJ.go 3 [(5, .int .i64 (IntKind.wrap .i64 (s3 + 1))), (19, .int .i64 (IntKind.wrap .i64 (s3 + 1))), (18, .int .i64 s3)] <| OJ.nil <| SJ.at_ [2, 3, 5] rfl
  · exact SJ.exit (id := 0) (by rfl) <| SJ.sr 1 <| OJ.go 1 [(4, .bool false)] <| OJ.nil <| SJ.r1 (.bool false) rfl rfl
noncomputable def weirref4_Less (a0 : api_IP) (a1 : api_IP) : M Bool :=
  slot 28 >>= fun b1 =>
  slot 28 >>= fun b2 =>
  if a0.V ≠ a1.V then
    pure (decide (a0.V < a1.V))
  else
    loopM (fun s_ : Int => weirref4_Less.L1 a0 a1 s_) 0
theorem weirref4_Less_ok (a0 : api_IP) (a1 : api_IP) : Ref Tryd.prog 56 [c_api_IP.val a0, c_api_IP.val a1] (weirref4_Less a0 a1) weirref4_Less.out := by
  refine Ref.of (cd := weirref4_Less.B) Tryd.func56 ?_
  show SJ weirref4_Less.cx [.code weirref4_Less.B] [(0, c_api_IP.val a0), (1, c_api_IP.val a1)] [] (weirref4_Less a0 a1) weirref4_Less.F0
  unfold weirref4_Less
  refine SJ.sr 3 <| OJ.slotOf (d := 2) (op := (.box 28 (.tmp 0))) (cd := c_api_IP) (u := a0) (owed := []) (box_run (by kernel_rfl)) (fun b1 => ?_)
  refine OW.nil <| OJ.slotOf (d := 3) (op := (.box 28 (.tmp 1))) (cd := c_api_IP) (u := a1) (owed := []) (box_run (by kernel_rfl)) (fun b2 => ?_)
  refine OW.nil <| OJ.go 1 [(4, .bool false)] <| OJ.nil <| SJ.seq <| SJ.sr 5 <| OJ.go 1 [(6, .pointer (some (pt b1 0)))] <| OJ.kld (d := 7) (y := .tmp 6) (cd := (cI .i64)) (j := 1) (b := b1) (o := 0) a0.V (pend2 := []) Ty3 rfl (At_api_IP_V a0) rfl ?_
  refine OJ.go 1 [(8, .pointer (some (pt b2 0)))] <| OJ.kld (d := 9) (y := .tmp 8) (cd := (cI .i64)) (j := 0) (b := b2) (o := 0) a1.V (pend2 := []) Ty3 rfl (At_api_IP_V a1) rfl ?_
  refine OJ.go 1 [(10, .bool (a0.V != a1.V))] <| OJ.nil <| SJ.cond (t := (.tmp 10)) (b := (a0.V != a1.V)) bne_iff_ne (fun hc32 => ?_) (fun hc32 => ?_)
  · refine SJ.sr 6 <| OJ.go 1 [(11, .pointer (some (pt b1 0)))] <| OJ.kld (d := 12) (y := .tmp 11) (cd := (cI .i64)) (j := 1) (b := b1) (o := 0) a0.V (pend2 := []) Ty3 rfl (At_api_IP_V a0) rfl ?_
    refine OJ.go 1 [(13, .pointer (some (pt b2 0)))] <| OJ.kld (d := 14) (y := .tmp 13) (cd := (cI .i64)) (j := 0) (b := b2) (o := 0) a1.V (pend2 := []) Ty3 rfl (At_api_IP_V a1) rfl ?_
    exact OJ.go 2 [(4, .bool (decide (a0.V < a1.V))), (15, .bool (decide (a0.V < a1.V)))] <| OJ.nil <| SJ.r1 (.bool (decide (a0.V < a1.V))) rfl rfl
  · exact SJ.skip <| SJ.seq <| SJ.sr 1 <| OJ.go 1 [(5, .int .i64 0)] <| OJ.nil <| SJ.block (id := 0) <| SJ.loop (fun s_ : Int => [(2, .pointer (some (pt b1 0))), (3, .pointer (some (pt b2 0))), (5, .int .i64 s_)]) (fun s_ : Int => [(b2, c_api_IP.enc a1), (b1, c_api_IP.enc a0)]) [2, 3, 5] rfl (fun _ _ => rfl) (fun s_ => weirref4_Less.L1_ok a0 a1 b1 b2 s_)

/-! ### weir/weirref14.ahead: function 37 -/
noncomputable def weirref14_ahead.B : Code := (Tryd.f37.body).getD .skip
noncomputable def weirref14_ahead.cx : Fx := ⟨Tryd.prog, 37, Tryd.f37, none⟩
noncomputable def weirref14_ahead.out (r_ : Bool) : Value := .bool r_
noncomputable def weirref14_ahead.F0 (r_ : Bool) : Reach := .ret (weirref14_ahead.out r_)
noncomputable def weirref14_ahead (a0 : api_Prefix) (a1 : api_Prefix) : M Bool :=
  slot 30 >>= fun b1 =>
  slot 30 >>= fun b2 =>
  if ¬ (a0.IP = a1.IP) then
    weirref4_Less a0.IP a1.IP >>= fun r4 =>
    pure r4
  else
    pure (decide (a0.Len < a1.Len))
theorem weirref14_ahead_ok (a0 : api_Prefix) (a1 : api_Prefix) : Ref Tryd.prog 37 [c_api_Prefix.val a0, c_api_Prefix.val a1] (weirref14_ahead a0 a1) weirref14_ahead.out := by
  refine Ref.of (cd := weirref14_ahead.B) Tryd.func37 ?_
  show SJ weirref14_ahead.cx [.code weirref14_ahead.B] [(0, c_api_Prefix.val a0), (1, c_api_Prefix.val a1)] [] (weirref14_ahead a0 a1) weirref14_ahead.F0
  unfold weirref14_ahead
  refine SJ.sr 3 <| OJ.slotOf (d := 2) (op := (.box 30 (.tmp 0))) (cd := c_api_Prefix) (u := a0) (owed := []) (box_run (by kernel_rfl)) (fun b1 => ?_)
  refine OW.nil <| OJ.slotOf (d := 3) (op := (.box 30 (.tmp 1))) (cd := c_api_Prefix) (u := a1) (owed := []) (box_run (by kernel_rfl)) (fun b2 => ?_)
  refine OW.nil <| OJ.go 1 [(4, .bool false)] <| OJ.nil <| SJ.seq <| SJ.sr 5 <| OJ.go 1 [(5, .pointer (some (pt b1 0)))] <| OJ.kld (d := 6) (y := .tmp 5) (cd := c_api_IP) (j := 1) (b := b1) (o := 0) a0.IP (pend2 := []) Ty28 rfl (At_api_Prefix_IP a0) rfl ?_
  refine OJ.go 1 [(7, .pointer (some (pt b2 0)))] <| OJ.kld (d := 8) (y := .tmp 7) (cd := c_api_IP) (j := 0) (b := b2) (o := 0) a1.IP (pend2 := []) Ty28 rfl (At_api_Prefix_IP a1) rfl ?_
  refine OJ.neq (d := 9) (T := 28) (yT := 28) (y := .tmp 6) (z := .tmp 8) (cd := c_api_IP) (p := a0.IP) (q := a1.IP) rfl Eq28 ?_
  refine OJ.nil <| SJ.cond (t := (.tmp 9)) (b := (!eqv a0.IP a1.IP)) (bnot_iff eqv_iff) (fun hc5 => ?_) (fun hc5 => ?_)
  · refine SJ.sr 6 <| OJ.go 1 [(10, .pointer (some (pt b1 0)))] <| OJ.kld (d := 11) (y := .tmp 10) (cd := c_api_IP) (j := 1) (b := b1) (o := 0) a0.IP (pend2 := []) Ty28 rfl (At_api_Prefix_IP a0) rfl ?_
    refine OJ.go 1 [(12, .pointer (some (pt b2 0)))] <| OJ.kld (d := 13) (y := .tmp 12) (cd := c_api_IP) (j := 0) (b := b2) (o := 0) a1.IP (pend2 := []) Ty28 rfl (At_api_Prefix_IP a1) rfl ?_
    refine OJ.call (d := 14) (g := 56) (ats := #[28, 28]) (args := [.tmp 11, .tmp 13]) (owed := []) F56 (weirref4_Less_ok a0.IP a1.IP) (fun r4 => ?_)
    exact OW.nil <| OJ.go 1 [(4, .bool r4)] <| OJ.nil <| SJ.r1 (.bool r4) rfl rfl
  · refine SJ.skip <| SJ.sr 6 <| OJ.go 1 [(15, .pointer (some (pt b1 17)))] <| OJ.kld (d := 16) (y := .tmp 15) (cd := (cI .i64)) (j := 1) (b := b1) (o := 17) a0.Len (pend2 := []) Ty3 rfl (At_api_Prefix_Len a0) rfl ?_
    refine OJ.go 1 [(17, .pointer (some (pt b2 17)))] <| OJ.kld (d := 18) (y := .tmp 17) (cd := (cI .i64)) (j := 0) (b := b2) (o := 17) a1.Len (pend2 := []) Ty3 rfl (At_api_Prefix_Len a1) rfl ?_
    exact OJ.go 2 [(4, .bool (decide (a0.Len < a1.Len))), (19, .bool (decide (a0.Len < a1.Len)))] <| OJ.nil <| SJ.r1 (.bool (decide (a0.Len < a1.Len))) rfl rfl

/-! ### weir/weirref14.Add: function 17 -/
noncomputable def weirref14_Add.B : Code := (Tryd.f17.body).getD .skip
noncomputable def weirref14_Add.cx : Fx := ⟨Tryd.prog, 17, Tryd.f17, none⟩
noncomputable def weirref14_Add.out (r_ : (Sl × Int)) : Value := .tuple #[Sl.v r_.1, .int .i64 r_.2]
noncomputable def weirref14_Add.F0 (r_ : (Sl × Int)) : Reach := .ret (weirref14_Add.out r_)
noncomputable def weirref14_Add.K1 (a0 : Sl) (a1 : api_Route) (s43 : Int) : M (Sl × Int) :=
  cut 36 a0 none (some s43) none >>= fun r49 =>
  appS c_api_Route 32 64 z_api_Route Sl.nil r49 >>= fun r50 =>
  slot 32 >>= fun b51 =>
  appl c_api_Route 32 64 z_api_Route r50 [a1] >>= fun r52 =>
  cut 36 a0 (some s43) none none >>= fun r53 =>
  appS c_api_Route 32 64 z_api_Route r52 r53 >>= fun r54 =>
  pure (r54, 0)
theorem weirref14_Add.K1_ok (a0 : Sl) (a1 : api_Route) (b1 : Nat) (s43 : Int) :
    SJ weirref14_Add.cx [.code (c2 (c2 (c2 (c2 (c2 (c2 weirref14_Add.B))))))] [(0, Sl.v a0), (3, .pointer (some (pt b1 0))), (7, Sl.v Sl.nil), (8, .int .i64 s43)] [(b1, c_api_Route.enc a1)] (weirref14_Add.K1 a0 a1 s43) weirref14_Add.F0 := by
  unfold weirref14_Add.K1
  refine SJ.sr 6 <| OJ.go 3 [(61, .int .i64 s43), (60, Sl.v a0), (59, Sl.v Sl.nil)] <| OJ.cut (d := 62) (t := 39) (E := 32) (y := .tmp 60) (lo := none) (hi := (some (.tmp 61))) (mx := none) (lo' := none) (hi' := some (.i64, s43)) (mx' := none) (fun h => by cases h) (fun r49 => ?_)
  refine OJ.appS (d := 63) (t := 39) (u := 39) (so := .tmp 59) (xo := .tmp 62) (owed := []) Ty32 (fun r50 => ?_)
  refine OW.nil <| OJ.go 1 [(7, Sl.v r50)] <| OJ.nil <| SJ.sr 5 <| OJ.go 1 [(64, Sl.v r50)] <| OJ.kld (d := 65) (y := .tmp 3) (cd := c_api_Route) (j := 0) (b := b1) (o := 0) a1 (pend2 := []) Ty32 rfl (At.whole _) rfl ?_
  refine OJ.rowSlot (d := 66) (t := 39) (parts := [(0, .tmp 65)]) (ps := [(0, c_api_Route.val a1)]) (cd := c_api_Route) (⟨[a1], rfl⟩ : Vec api_Route 1) (owed := []) Ty32 (Filled.cons (cd := c_api_Route) (q := a1) (o := 0) rfl (Upd.arr (i := 0) (by decide) (by decide)) Filled.nil) (fun b51 => ?_)
  refine OW.nil <| OJ.appl (d := 67) (t := 39) (u := 39) (so := .tmp 64) (xo := .tmp 66) (j := 0) (b := b51) (l := (c_api_Route.arr 1).enc (⟨[a1], rfl⟩ : Vec api_Route 1)) (n := 1) (k := 1) [a1] (owed := []) Ty32 (by rfl) (Cod.arr_enc _ _ _) (by rfl) (fun r52 => ?_)
  refine OW.nil <| OJ.go 1 [(7, Sl.v r52)] <| OJ.nil <| SJ.sr 7 <| OJ.go 3 [(70, .int .i64 s43), (69, Sl.v a0), (68, Sl.v r52)] <| OJ.cut (d := 71) (t := 39) (E := 32) (y := .tmp 69) (lo := (some (.tmp 70))) (hi := none) (mx := none) (lo' := some (.i64, s43)) (hi' := none) (mx' := none) (fun h => by cases h) (fun r53 => ?_)
  refine OJ.appS (d := 72) (t := 39) (u := 39) (so := .tmp 68) (xo := .tmp 71) (owed := []) Ty32 (fun r54 => ?_)
  exact OW.nil <| OJ.go 2 [(5, .int .i64 0), (4, Sl.v r54)] <| OJ.nil <| SJ.r2 (Sl.v r54) (.int .i64 0) rfl rfl
noncomputable def weirref14_Add.F1 (a0 : Sl) (a1 : api_Route) (b1 : Nat) : (LS Int (Sl × Int)) → Reach := loopF [.inLoop (c1 (c1 (c1 (c2 (c2 (c2 (c2 (c2 weirref14_Add.B)))))))), .inBlock 1, .code (c2 (c2 (c2 (c2 (c2 (c2 weirref14_Add.B))))))] (fun s_ : Int => [(0, Sl.v a0), (3, .pointer (some (pt b1 0))), (7, Sl.v Sl.nil), (8, .int .i64 s_)]) (fun s_ : Int => [(b1, c_api_Route.enc a1)]) weirref14_Add.F0
noncomputable def weirref14_Add.L1 (a0 : Sl) (a1 : api_Route) (s43 : Int) : M (LS Int (Sl × Int)) :=
  draw >>= fun _ =>
  (if s43 < (a0.len : Int) then
      idx a0.a a0.len s43 36 >>= fun p55 =>
      ld c_api_Prefix p55 >>= fun x56 =>
      weirref14_ahead x56 a1.Prefix >>= fun r57 =>
      pure r57
    else
      pure false) >>= fun y58 =>
  if y58 = true then
    pure (LS.next (IntKind.wrap .i64 (s43 + 1)))
  else
    (weirref14_Add.K1 a0 a1 s43) >>= fun b => pure (LS.done b)
theorem weirref14_Add.L1_ok (a0 : Sl) (a1 : api_Route) (b1 : Nat) (s43 : Int) :
    SJ weirref14_Add.cx [.code (c1 (c1 (c1 (c2 (c2 (c2 (c2 (c2 weirref14_Add.B)))))))), .inLoop (c1 (c1 (c1 (c2 (c2 (c2 (c2 (c2 weirref14_Add.B)))))))), .inBlock 1, .code (c2 (c2 (c2 (c2 (c2 (c2 weirref14_Add.B))))))] [(0, Sl.v a0), (3, .pointer (some (pt b1 0))), (7, Sl.v Sl.nil), (8, .int .i64 s43)] [(b1, c_api_Route.enc a1)] (weirref14_Add.L1 a0 a1 s43) (weirref14_Add.F1 a0 a1 b1) := by
  unfold weirref14_Add.L1
  refine SJ.seq <| SJ.seq <| SJ.draw (id := 14) (kd := [0, 0, 0, 0, 0, 0, 0, 0, 0, 1, 0, 1, 2, 0]) (bef := [0, 0, 2, 7, 15, 31, 31, 127, 255, 511, 31, 1055, 4095, 8191]) (ord := [0, 1, 2, 3, 4, 5, 6, 7, 8, 9, 10, 11, 12, 13]) mixed ?_
  refine OJ.go 5 [(47, .bool (decide (s43 < (a0.len : Int)))), (46, .bool (decide (s43 < (a0.len : Int)))), (45, .int .i64 (a0.len : Int)), (44, Sl.v a0), (43, .int .i64 s43)] <| OJ.join (b := decide (s43 < (a0.len : Int))) [5, 6, 7, 8, 9, 10, 11, 12, 13] [] [0, 3, 7, 8, 56] (fun y58 => [(0, Sl.v a0), (3, .pointer (some (pt b1 0))), (7, Sl.v Sl.nil), (8, .int .i64 s43), (56, .bool y58)]) [⟨11, 30, (pt b1 0), c_api_Prefix.val a1.Prefix⟩] [9] (t := 47) decide_eq_true_iff (fun hp_ => ?_) (fun hp_ => ?_) (fun _ _ _ _ _ _ h_ => h_) (fun y58 => ?_)
  · refine OJ.go 2 [(49, .int .i64 s43), (48, Sl.v a0)] <| OJ.idxS (d := 50) (T := 39) (y := .tmp 48) (j := .tmp 49) (E := 32) (cap := a0.cap) (k := .i64) (fun p55 => ?_)
    refine OJ.go 1 [(51, .pointer (some p55))] <| OJ.ld (d := 52) (y := .tmp 51) (pend2 := fun x56 => [⟨9, 30, p55, c_api_Prefix.val x56⟩]) Ty30 (fun _ => rfl) (fun x56 => ?_)
    refine OJ.go 1 [(53, .pointer (some (pt b1 0)))] <| OJ.kld (d := 54) (y := .tmp 53) (cd := c_api_Prefix) (j := 0) (b := b1) (o := 0) a1.Prefix (pend2 := [⟨11, 30, (pt b1 0), c_api_Prefix.val a1.Prefix⟩, ⟨9, 30, p55, c_api_Prefix.val x56⟩]) Ty30 rfl (At_api_Route_Prefix a1) rfl ?_
    refine OJ.call (d := 55) (g := 37) (ats := #[30, 30]) (args := [.tmp 52, .tmp 54]) (owed := []) F37 (weirref14_ahead_ok x56 a1.Prefix) (fun r57 => ?_)
    exact OW.nil <| OJ.go 1 [(56, .bool r57)] <| OJ.nil ⟨(Cov.mem (Cov.keep (List.mem_of_getElem? (i := 0) rfl) (Cov.drop (List.mem_of_getElem? (i := 0) rfl) Cov.nil))), rfl, _, rfl, by kernel_rfl⟩
  · exact OJ.go 9 [(56, .bool false), (55, undef), (54, undef), (53, undef), (52, undef), (51, undef), (50, undef), (49, undef), (48, undef)] <| OJ.x0
  · refine OJ.nil <| SJ.cond (t := (.tmp 56)) (b := y58) Iff.rfl (fun hc59 => ?_) (fun hc59 => ?_)
    · exact SJ.skip <| SJ.block (id := 2) <| SJ.rg 3 <| OJ.go 3 [(8, .int .i64 (IntKind.wrap .i64 (s43 + 1))), (58, .int .i64 (IntKind.wrap .i64 (s43 + 1))), (57, .int .i64 s43)] <| OJ.nil <| SJ.inBlock <| SJ.at_ [0, 3, 7, 8] rfl
    · refine SJ.exit (id := 1) (by rfl) <| SJ.less [0, 3, 7, 8] (m' := [(0, Sl.v a0), (3, .pointer (some (pt b1 0))), (7, Sl.v Sl.nil), (8, .int .i64 s43)]) ?_
      refine SJ.done ?_
      exact weirref14_Add.K1_ok a0 a1 b1 s43
noncomputable def weirref14_Add (a0 : Sl) (a1 : api_Route) : M (Sl × Int) :=
  slot 32 >>= fun b1 =>
  weirref4_ValidPrefix a1.Prefix >>= fun r2 =>
  if r2 ≠ 0 then
    pure (a0, 140)
  else
    (if a1.Port < 0 then
        pure true
      else
        pure (decide (a1.Port ≥ 8))) >>= fun y25 =>
    if y25 = true then
      pure (a0, 141)
    else
      weirref14_via a1 >>= fun r36 =>
      if ¬ (r36 = true) then
        pure (a0, 142)
      else
        weirref14_at a0 a1.Prefix >>= fun r41 =>
        if r41 ≥ 0 then
          pure (a0, 143)
        else
          if (a0.len : Int) ≥ 256 then
            pure (a0, 144)
          else
            loopM (fun s_ : Int => weirref14_Add.L1 a0 a1 s_) 0
theorem weirref14_Add_ok (a0 : Sl) (a1 : api_Route) : Ref Tryd.prog 17 [Sl.v a0, c_api_Route.val a1] (weirref14_Add a0 a1) weirref14_Add.out := by
  refine Ref.of (cd := weirref14_Add.B) Tryd.func17 ?_
  show SJ weirref14_Add.cx [.code weirref14_Add.B] [(0, Sl.v a0), (1, c_api_Route.val a1)] [] (weirref14_Add a0 a1) weirref14_Add.F0
  unfold weirref14_Add
  refine SJ.sr 3 <| OJ.slotOf (d := 3) (op := (.box 32 (.tmp 1))) (cd := c_api_Route) (u := a1) (owed := []) (box_run (by kernel_rfl)) (fun b1 => ?_)
  refine OW.nil <| OJ.go 2 [(5, .int .i64 0), (4, Sl.v Sl.nil)] <| OJ.nil <| SJ.sr 4 <| OJ.go 1 [(9, .pointer (some (pt b1 0)))] <| OJ.kld (d := 10) (y := .tmp 9) (cd := c_api_Prefix) (j := 0) (b := b1) (o := 0) a1.Prefix (pend2 := []) Ty30 rfl (At_api_Route_Prefix a1) rfl ?_
  refine OJ.call (d := 11) (g := 34) (ats := #[30]) (args := [.tmp 10]) (owed := []) F34 (weirref4_ValidPrefix_ok a1.Prefix) (fun r2 => ?_)
  refine OW.nil <| OJ.go 1 [(6, .int .i64 r2)] <| OJ.nil <| SJ.seq <| SJ.block (id := 0) <| SJ.sr 3 <| OJ.go 3 [(12, .bool (r2 != 0)), (14, .bool (r2 != 0)), (13, .int .i64 r2)] <| OJ.nil <| SJ.cond (t := (.tmp 12)) (b := (r2 != 0)) bne_iff_ne (fun hc64 => ?_) (fun hc64 => ?_)
  · exact SJ.sr 3 <| OJ.go 3 [(5, .int .i64 140), (4, Sl.v a0), (15, Sl.v a0)] <| OJ.nil <| SJ.r2 (Sl.v a0) (.int .i64 140) rfl rfl
  · refine SJ.sr 9 <| OJ.go 1 [(17, .pointer (some (pt b1 18)))] <| OJ.kld (d := 18) (y := .tmp 17) (cd := (cI .i64)) (j := 0) (b := b1) (o := 18) a1.Port (pend2 := []) Ty3 rfl (At_api_Route_Port a1) rfl ?_
    refine OJ.go 2 [(20, .bool (decide (a1.Port < 0))), (19, .bool (decide (a1.Port < 0)))] <| OJ.join (b := decide (a1.Port < 0)) [4, 5, 6, 7] [8] [0, 3, 24] (fun y25 => [(0, Sl.v a0), (3, .pointer (some (pt b1 0))), (24, .bool y25)]) [] [] (t := 20) decide_eq_true_iff (fun hp_ => ?_) (fun hp_ => ?_) (fun _ _ _ _ _ _ h_ => h_) (fun y25 => ?_)
    · exact OJ.go 4 [(24, .bool true), (23, undef), (22, undef), (21, undef)] <| OJ.x0
    · refine OJ.go 1 [(21, .pointer (some (pt b1 18)))] <| OJ.kld (d := 22) (y := .tmp 21) (cd := (cI .i64)) (j := 0) (b := b1) (o := 18) a1.Port (pend2 := []) Ty3 rfl (At_api_Route_Port a1) rfl ?_
      exact OJ.go 2 [(24, .bool (decide (a1.Port ≥ 8))), (23, .bool (decide (a1.Port ≥ 8)))] <| OJ.x0
    · refine OJ.go 1 [(16, .bool y25)] <| OJ.nil <| SJ.cond (t := (.tmp 16)) (b := y25) Iff.rfl (fun hc63 => ?_) (fun hc63 => ?_)
      · exact SJ.sr 3 <| OJ.go 3 [(5, .int .i64 141), (4, Sl.v a0), (25, Sl.v a0)] <| OJ.nil <| SJ.r2 (Sl.v a0) (.int .i64 141) rfl rfl
      · refine SJ.sr 4 <| OJ.kld (d := 27) (y := .tmp 3) (cd := c_api_Route) (j := 0) (b := b1) (o := 0) a1 (pend2 := []) Ty32 rfl (At.whole _) rfl ?_
        refine OJ.call (d := 28) (g := 35) (ats := #[32]) (args := [.tmp 27]) (owed := []) F35 (weirref14_via_ok a1) (fun r36 => ?_)
        refine OW.nil <| OJ.go 2 [(26, .bool (!r36)), (29, .bool (!r36))] <| OJ.nil <| SJ.cond (t := (.tmp 26)) (b := (!r36)) (bnot_iff Iff.rfl) (fun hc62 => ?_) (fun hc62 => ?_)
        · exact SJ.sr 3 <| OJ.go 3 [(5, .int .i64 142), (4, Sl.v a0), (30, Sl.v a0)] <| OJ.nil <| SJ.r2 (Sl.v a0) (.int .i64 142) rfl rfl
        · refine SJ.sr 6 <| OJ.go 2 [(33, .pointer (some (pt b1 0))), (32, Sl.v a0)] <| OJ.kld (d := 34) (y := .tmp 33) (cd := c_api_Prefix) (j := 0) (b := b1) (o := 0) a1.Prefix (pend2 := []) Ty30 rfl (At_api_Route_Prefix a1) rfl ?_
          refine OJ.call (d := 35) (g := 36) (ats := #[39, 30]) (args := [.tmp 32, .tmp 34]) (owed := []) F36 (weirref14_at_ok a0 a1.Prefix) (fun r41 => ?_)
          refine OW.nil <| OJ.go 2 [(31, .bool (decide (r41 ≥ 0))), (36, .bool (decide (r41 ≥ 0)))] <| OJ.nil <| SJ.cond (t := (.tmp 31)) (b := decide (r41 ≥ 0)) decide_eq_true_iff (fun hc61 => ?_) (fun hc61 => ?_)
          · exact SJ.sr 3 <| OJ.go 3 [(5, .int .i64 143), (4, Sl.v a0), (37, Sl.v a0)] <| OJ.nil <| SJ.r2 (Sl.v a0) (.int .i64 143) rfl rfl
          · refine SJ.sr 4 <| OJ.go 4 [(38, .bool (decide ((a0.len : Int) ≥ 256))), (41, .bool (decide ((a0.len : Int) ≥ 256))), (40, .int .i64 (a0.len : Int)), (39, Sl.v a0)] <| OJ.nil <| SJ.cond (t := (.tmp 38)) (b := decide ((a0.len : Int) ≥ 256)) decide_eq_true_iff (fun hc60 => ?_) (fun hc60 => ?_)
            · exact SJ.sr 3 <| OJ.go 3 [(5, .int .i64 144), (4, Sl.v a0), (42, Sl.v a0)] <| OJ.nil <| SJ.r2 (Sl.v a0) (.int .i64 144) rfl rfl
            · exact SJ.skip <| SJ.inBlock <| SJ.sr 1 <| OJ.go 1 [(7, Sl.v Sl.nil)] <| OJ.nil <| SJ.sr 1 <| OJ.go 1 [(8, .int .i64 0)] <| OJ.nil <| SJ.seq <| SJ.block (id := 1) <| SJ.loop (fun s_ : Int => [(0, Sl.v a0), (3, .pointer (some (pt b1 0))), (7, Sl.v Sl.nil), (8, .int .i64 s_)]) (fun s_ : Int => [(b1, c_api_Route.enc a1)]) [0, 3, 7, 8] rfl (fun _ _ => rfl) (fun s_ => weirref14_Add.L1_ok a0 a1 b1 s_)

/-! ### (*weir/route.Table).Drop: function 13 -/
noncomputable def route_Table_Drop.B : Code := (Tryd.f13.body).getD .skip
noncomputable def route_Table_Drop.cx : Fx := ⟨Tryd.prog, 13, Tryd.f13, none⟩
noncomputable def route_Table_Drop.out (r_ : Bool) : Value := .bool r_
noncomputable def route_Table_Drop.F0 (r_ : Bool) : Reach := .ret (route_Table_Drop.out r_)
noncomputable def route_Table_Drop.K1 (a0 : (Option Addr)) (a1 : api_Prefix) (j12 : Bool) : M Bool :=
  draw >>= fun _ =>
  nilck a0 >>= fun p13 =>
  ld cM p13 >>= fun x14 =>
  mdel c_api_Prefix c_api_Route x14 a1 >>= fun _ =>
  pure j12
theorem route_Table_Drop.K1_ok (a0 : (Option Addr)) (a1 : api_Prefix) (b1 : Nat) (j12 : Bool) :
    SJ route_Table_Drop.cx [.code (c2 (c2 route_Table_Drop.B))] [(0, .pointer a0), (3, .pointer (some (pt b1 0))), (6, .bool j12)] [(b1, c_api_Prefix.enc a1)] (route_Table_Drop.K1 a0 a1 j12) route_Table_Drop.F0 := by
  unfold route_Table_Drop.K1
  refine SJ.seq <| SJ.draw (id := 2) (kd := [0, 0, 0, 1, 1, 2]) (bef := [0, 1, 3, 7, 0, 31]) (ord := [0, 1, 2, 3, 4, 5]) mixed ?_
  refine OJ.go 1 [(16, .pointer a0)] <| OJ.nilck (d := 17) (y := .tmp 16) (fun p13 => ?_)
  refine OJ.go 1 [(18, .pointer (some p13))] <| OJ.ld (d := 19) (y := .tmp 18) (pend2 := fun x14 => [⟨3, 79, p13, cM.val x14⟩]) Ty79 (fun _ => rfl) (fun x14 => ?_)
  refine OJ.kld (d := 20) (y := .tmp 3) (cd := c_api_Prefix) (j := 0) (b := b1) (o := 0) a1 (pend2 := [⟨4, 30, (pt b1 0), c_api_Prefix.val a1⟩, ⟨3, 79, p13, cM.val x14⟩]) Ty30 rfl (At.whole _) rfl ?_
  refine OJ.mdel (uT := 30) (x := .tmp 19) (y := .tmp 20) (owed := []) Kt79 ?_
  exact OW.nil <| OJ.nil <| SJ.sr 2 <| OJ.go 2 [(4, .bool j12), (21, .bool j12)] <| OJ.nil <| SJ.r1 (.bool j12) rfl rfl
noncomputable def route_Table_Drop (a0 : (Option Addr)) (a1 : api_Prefix) : M Bool :=
  slot 30 >>= fun b1 =>
  draws 13 1 (opsOf (c1 (c2 route_Table_Drop.B))) >>= fun o2 =>
  if bfr o2 5 9 = true then
    nilck a0 >>= fun p16 =>
    ld cM p16 >>= fun x17 =>
    mget c_api_Prefix c_api_Route z_api_Route x17 a1 >>= fun r18 =>
    slot 32 >>= fun b19 =>
    same cM p16 x17 >>= fun _ =>
    route_Table_Drop.K1 a0 a1 r18.2
  else
    nilck a0 >>= fun p20 =>
    ld cM p20 >>= fun x21 =>
    slot 32 >>= fun b22 =>
    same cM p20 x21 >>= fun _ =>
    mget c_api_Prefix c_api_Route z_api_Route x21 a1 >>= fun r23 =>
    route_Table_Drop.K1 a0 a1 r23.2
theorem route_Table_Drop_ok (a0 : (Option Addr)) (a1 : api_Prefix) : Ref Tryd.prog 13 [.pointer a0, c_api_Prefix.val a1] (route_Table_Drop a0 a1) route_Table_Drop.out := by
  refine Ref.of (cd := route_Table_Drop.B) Tryd.func13 ?_
  show SJ route_Table_Drop.cx [.code route_Table_Drop.B] [(0, .pointer a0), (1, c_api_Prefix.val a1)] [] (route_Table_Drop a0 a1) route_Table_Drop.F0
  unfold route_Table_Drop
  refine SJ.sr 2 <| OJ.slotOf (d := 3) (op := (.box 30 (.tmp 1))) (cd := c_api_Prefix) (u := a1) (owed := []) (box_run (by kernel_rfl)) (fun b1 => ?_)
  refine OW.nil <| OJ.go 1 [(4, .bool false)] <| OJ.nil <| SJ.seq <| SJ.draws (id := 1) (kd := [0, 0, 0, 1, 1, 2, 0, 0, 0, 2, 2, 0]) (bef := [0, 1, 3, 7, 0, 31, 63, 127, 127, 0, 767, 2047]) (ord := [0, 1, 2, 3, 4, 5, 6, 7, 8, 9, 10, 11]) (E := [(5, 9)]) mixed (fun o2 hg_ => ?_)
  refine SJ.bfr hg_ (by decide) (fun ho15 => ?_) (fun ho15 => ?_)
  · refine SJ.leaf hg_ (kd := [0, 0, 0, 1, 1, 2, 0, 0, 0, 2, 2, 0]) (bef := [0, 1, 3, 7, 0, 31, 63, 127, 127, 0, 767, 2047]) (ord := [0, 1, 2, 3, 4, 5, 6, 7, 8, 9, 10, 11]) (E := [(5, 9)]) (allB.cons ho15 allB.nil) ?_
    refine OJ.go 1 [(8, .pointer a0)] <| OJ.nilck (d := 9) (y := .tmp 8) (fun p16 => ?_)
    refine OJ.go 1 [(10, .pointer (some p16))] <| OJ.ld (d := 11) (y := .tmp 10) (pend2 := fun x17 => [⟨3, 79, p16, cM.val x17⟩]) Ty79 (fun _ => rfl) (fun x17 => ?_)
    refine OJ.kld (d := 12) (y := .tmp 3) (cd := c_api_Prefix) (j := 0) (b := b1) (o := 0) a1 (pend2 := [⟨4, 30, (pt b1 0), c_api_Prefix.val a1⟩, ⟨3, 79, p16, cM.val x17⟩]) Ty30 rfl (At.whole _) rfl ?_
    refine OJ.get1 (d := 13) (x := .tmp 11) (y := .tmp 12) (owed := []) Kt79 (fun r18 => ?_)
    refine OW.nil <| OJ.go 3 [(15, .bool r18.2), (14, c_api_Route.val r18.1), (7, .tuple #[c_api_Route.val r18.1, .bool r18.2])] <| OJ.slotOf (d := 5) (op := (.alloc 32)) (cd := c_api_Route) (u := z_api_Route) (owed := [⟨4, 30, (pt b1 0), c_api_Prefix.val a1⟩, ⟨3, 79, p16, cM.val x17⟩]) (alloc_run Ty32) (fun b19 => ?_)
    refine OW.known (j := 1) (q := a1) Ty30 rfl (At.whole _) ?_
    refine OW.same Ty79 ?_
    refine OW.nil <| OJ.kst (y := .tmp 5) (z := .tmp 14) (cd := c_api_Route) (u := r18.1) (j := 0) (b := b19) (o := 0) (c_api_Route.enc r18.1) (owed := []) Ty32 rfl (Upd.whole ((Cod.len _ _).trans (Cod.len _ _).symm)) rfl ?_
    refine OW.nil <| OJ.go 1 [(6, .bool r18.2)] <| OJ.nil <| SJ.forget (List.Sublist.cons _ (List.Sublist.cons_cons _ List.Sublist.slnil)) ?_
    refine SJ.less [0, 3, 6] (m' := [(0, .pointer a0), (3, .pointer (some (pt b1 0))), (6, .bool r18.2)]) ?_
    exact route_Table_Drop.K1_ok a0 a1 b1 r18.2
  · refine SJ.leaf hg_ (kd := [0, 0, 0, 1, 1, 2, 0, 0, 0, 2, 2, 0]) (bef := [0, 1, 3, 7, 0, 31, 63, 127, 127, 0, 767, 2047]) (ord := [0, 1, 2, 3, 4, 9, 5, 6, 7, 8, 10, 11]) (E := [(9, 5)]) (allB.cons ho15 allB.nil) ?_
    refine OJ.go 1 [(8, .pointer a0)] <| OJ.nilck (d := 9) (y := .tmp 8) (fun p20 => ?_)
    refine OJ.go 1 [(10, .pointer (some p20))] <| OJ.ld (d := 11) (y := .tmp 10) (pend2 := fun x21 => [⟨3, 79, p20, cM.val x21⟩]) Ty79 (fun _ => rfl) (fun x21 => ?_)
    refine OJ.kld (d := 12) (y := .tmp 3) (cd := c_api_Prefix) (j := 0) (b := b1) (o := 0) a1 (pend2 := [⟨4, 30, (pt b1 0), c_api_Prefix.val a1⟩, ⟨3, 79, p20, cM.val x21⟩]) Ty30 rfl (At.whole _) rfl ?_
    refine OJ.slotOf (d := 5) (op := (.alloc 32)) (cd := c_api_Route) (u := z_api_Route) (owed := [⟨4, 30, (pt b1 0), c_api_Prefix.val a1⟩, ⟨3, 79, p20, cM.val x21⟩]) (alloc_run Ty32) (fun b22 => ?_)
    refine OW.known (j := 1) (q := a1) Ty30 rfl (At.whole _) ?_
    refine OW.same Ty79 ?_
    refine OW.nil <| OJ.get1 (d := 13) (x := .tmp 11) (y := .tmp 12) (owed := []) Kt79 (fun r23 => ?_)
    refine OW.nil <| OJ.go 3 [(15, .bool r23.2), (14, c_api_Route.val r23.1), (7, .tuple #[c_api_Route.val r23.1, .bool r23.2])] <| OJ.kst (y := .tmp 5) (z := .tmp 14) (cd := c_api_Route) (u := r23.1) (j := 0) (b := b22) (o := 0) (c_api_Route.enc r23.1) (owed := []) Ty32 rfl (Upd.whole ((Cod.len _ _).trans (Cod.len _ _).symm)) rfl ?_
    refine OW.nil <| OJ.go 1 [(6, .bool r23.2)] <| OJ.nil <| SJ.forget (List.Sublist.cons _ (List.Sublist.cons_cons _ List.Sublist.slnil)) ?_
    refine SJ.less [0, 3, 6] (m' := [(0, .pointer a0), (3, .pointer (some (pt b1 0))), (6, .bool r23.2)]) ?_
    exact route_Table_Drop.K1_ok a0 a1 b1 r23.2

/-! ### weir/weirref14.Drop: function 41 -/
noncomputable def weirref14_Drop.B : Code := (Tryd.f41.body).getD .skip
noncomputable def weirref14_Drop.cx : Fx := ⟨Tryd.prog, 41, Tryd.f41, none⟩
noncomputable def weirref14_Drop.out (r_ : (Sl × Bool)) : Value := .tuple #[Sl.v r_.1, .bool r_.2]
noncomputable def weirref14_Drop.F0 (r_ : (Sl × Bool)) : Reach := .ret (weirref14_Drop.out r_)
noncomputable def weirref14_Drop (a0 : Sl) (a1 : api_Prefix) : M (Sl × Bool) :=
  slot 30 >>= fun b1 =>
  weirref14_at a0 a1 >>= fun r2 =>
  if r2 < 0 then
    pure (a0, false)
  else
    cut 36 a0 none (some r2) none >>= fun r3 =>
    appS c_api_Route 32 64 z_api_Route Sl.nil r3 >>= fun r4 =>
    cut 36 a0 (some (IntKind.wrap .i64 (r2 + 1))) none none >>= fun r5 =>
    appS c_api_Route 32 64 z_api_Route r4 r5 >>= fun r6 =>
    pure (r6, true)
theorem weirref14_Drop_ok (a0 : Sl) (a1 : api_Prefix) : Ref Tryd.prog 41 [Sl.v a0, c_api_Prefix.val a1] (weirref14_Drop a0 a1) weirref14_Drop.out := by
  refine Ref.of (cd := weirref14_Drop.B) Tryd.func41 ?_
  show SJ weirref14_Drop.cx [.code weirref14_Drop.B] [(0, Sl.v a0), (1, c_api_Prefix.val a1)] [] (weirref14_Drop a0 a1) weirref14_Drop.F0
  unfold weirref14_Drop
  refine SJ.sr 3 <| OJ.slotOf (d := 3) (op := (.box 30 (.tmp 1))) (cd := c_api_Prefix) (u := a1) (owed := []) (box_run (by kernel_rfl)) (fun b1 => ?_)
  refine OW.nil <| OJ.go 2 [(5, .bool false), (4, Sl.v Sl.nil)] <| OJ.nil <| SJ.sr 4 <| OJ.go 1 [(8, Sl.v a0)] <| OJ.kld (d := 9) (y := .tmp 3) (cd := c_api_Prefix) (j := 0) (b := b1) (o := 0) a1 (pend2 := []) Ty30 rfl (At.whole _) rfl ?_
  refine OJ.call (d := 10) (g := 36) (ats := #[39, 30]) (args := [.tmp 8, .tmp 9]) (owed := []) F36 (weirref14_at_ok a0 a1) (fun r2 => ?_)
  refine OW.nil <| OJ.go 1 [(6, .int .i64 r2)] <| OJ.nil <| SJ.seq <| SJ.sr 2 <| OJ.go 2 [(12, .bool (decide (r2 < 0))), (11, .int .i64 r2)] <| OJ.nil <| SJ.cond (t := (.tmp 12)) (b := decide (r2 < 0)) decide_eq_true_iff (fun hc7 => ?_) (fun hc7 => ?_)
  · exact SJ.sr 3 <| OJ.go 3 [(5, .bool false), (4, Sl.v a0), (13, Sl.v a0)] <| OJ.nil <| SJ.r2 (Sl.v a0) (.bool false) rfl rfl
  · refine SJ.skip <| SJ.sr 1 <| OJ.go 1 [(7, Sl.v Sl.nil)] <| OJ.nil <| SJ.sr 6 <| OJ.go 3 [(16, .int .i64 r2), (15, Sl.v a0), (14, Sl.v Sl.nil)] <| OJ.cut (d := 17) (t := 39) (E := 32) (y := .tmp 15) (lo := none) (hi := (some (.tmp 16))) (mx := none) (lo' := none) (hi' := some (.i64, r2)) (mx' := none) (fun h => by cases h) (fun r3 => ?_)
    refine OJ.appS (d := 18) (t := 39) (u := 39) (so := .tmp 14) (xo := .tmp 17) (owed := []) Ty32 (fun r4 => ?_)
    refine OW.nil <| OJ.go 1 [(7, Sl.v r4)] <| OJ.nil <| SJ.sr 8 <| OJ.go 4 [(22, .int .i64 (IntKind.wrap .i64 (r2 + 1))), (21, .int .i64 r2), (20, Sl.v a0), (19, Sl.v r4)] <| OJ.cut (d := 23) (t := 39) (E := 32) (y := .tmp 20) (lo := (some (.tmp 22))) (hi := none) (mx := none) (lo' := some (.i64, IntKind.wrap .i64 (r2 + 1))) (hi' := none) (mx' := none) (fun h => by cases h) (fun r5 => ?_)
    refine OJ.appS (d := 24) (t := 39) (u := 39) (so := .tmp 19) (xo := .tmp 23) (owed := []) Ty32 (fun r6 => ?_)
    exact OW.nil <| OJ.go 2 [(5, .bool true), (4, Sl.v r6)] <| OJ.nil <| SJ.r2 (Sl.v r6) (.bool true) rfl rfl

/-! ### weir/weirlaw14.turned: function 23 -/
noncomputable def weirlaw14_turned.B : Code := (Tryd.f23.body).getD .skip
noncomputable def weirlaw14_turned.cx : Fx := ⟨Tryd.prog, 23, Tryd.f23, none⟩
noncomputable def weirlaw14_turned.out (r_ : (weirlaw14_Pair × Bool)) : Value := .tuple #[c_weirlaw14_Pair.val r_.1, .bool r_.2]
noncomputable def weirlaw14_turned.F0 (r_ : (weirlaw14_Pair × Bool)) : Reach := .ret (weirlaw14_turned.out r_)
noncomputable def weirlaw14_turned (a0 : weirlaw14_Pair) (a1 : weirlaw14_Step) : M (weirlaw14_Pair × Bool) :=
  slot 57 >>= fun b1 =>
  slot 61 >>= fun b2 =>
  slot 57 >>= fun b3 =>
  if a1.Kind = 1 then
    route_Table_Add a0.T a1.R >>= fun r6 =>
    weirref14_Add a0.L a1.R >>= fun r7 =>
    pure ((⟨a0.T, r7.1, a0.Kept⟩ : weirlaw14_Pair), (r6 == r7.2))
  else
    route_Table_Drop a0.T a1.R.Prefix >>= fun r8 =>
    weirref14_Drop a0.L a1.R.Prefix >>= fun r9 =>
    pure ((⟨a0.T, r9.1, a0.Kept⟩ : weirlaw14_Pair), (r8 == r9.2))
theorem weirlaw14_turned_ok (a0 : weirlaw14_Pair) (a1 : weirlaw14_Step) : Ref Tryd.prog 23 [c_weirlaw14_Pair.val a0, c_weirlaw14_Step.val a1] (weirlaw14_turned a0 a1) weirlaw14_turned.out := by
  refine Ref.of (cd := weirlaw14_turned.B) Tryd.func23 ?_
  show SJ weirlaw14_turned.cx [.code weirlaw14_turned.B] [(0, c_weirlaw14_Pair.val a0), (1, c_weirlaw14_Step.val a1)] [] (weirlaw14_turned a0 a1) weirlaw14_turned.F0
  unfold weirlaw14_turned
  refine SJ.sr 4 <| OJ.slotOf (d := 2) (op := (.box 57 (.tmp 0))) (cd := c_weirlaw14_Pair) (u := a0) (owed := []) (box_run (by kernel_rfl)) (fun b1 => ?_)
  refine OW.nil <| OJ.slotOf (d := 3) (op := (.box 61 (.tmp 1))) (cd := c_weirlaw14_Step) (u := a1) (owed := []) (box_run (by kernel_rfl)) (fun b2 => ?_)
  refine OW.nil <| OJ.slotOf (d := 4) (op := (.alloc 57)) (cd := c_weirlaw14_Pair) (u := z_weirlaw14_Pair) (owed := []) (alloc_run Ty57) (fun b3 => ?_)
  refine OW.nil <| OJ.go 1 [(5, .bool false)] <| OJ.nil <| SJ.seq <| SJ.sr 3 <| OJ.go 1 [(12, .pointer (some (pt b2 0)))] <| OJ.kld (d := 13) (y := .tmp 12) (cd := (cI .i64)) (j := 1) (b := b2) (o := 0) a1.Kind (pend2 := []) Ty3 rfl (At_weirlaw14_Step_Kind a1) rfl ?_
  refine OJ.go 1 [(14, .bool (a1.Kind == 1))] <| OJ.nil <| SJ.cond (t := (.tmp 14)) (b := (a1.Kind == 1)) beq_iff_eq (fun hc10 => ?_) (fun hc10 => ?_)
  · refine SJ.sr 6 <| OJ.go 1 [(15, .pointer (some (pt b1 0)))] <| OJ.kld (d := 16) (y := .tmp 15) (cd := cP) (j := 2) (b := b1) (o := 0) a0.T (pend2 := []) Ty22 rfl (At_weirlaw14_Pair_T a0) rfl ?_
    refine OJ.go 1 [(17, .pointer (some (pt b2 2)))] <| OJ.kld (d := 18) (y := .tmp 17) (cd := c_api_Route) (j := 1) (b := b2) (o := 2) a1.R (pend2 := []) Ty32 rfl (At_weirlaw14_Step_R a1) rfl ?_
    refine OJ.call (d := 19) (g := 10) (ats := #[22, 32]) (args := [.tmp 16, .tmp 18]) (owed := []) F10 (route_Table_Add_ok a0.T a1.R) (fun r6 => ?_)
    refine OW.nil <| OJ.go 1 [(6, .int .i64 r6)] <| OJ.nil <| SJ.sr 10 <| OJ.go 1 [(21, .pointer (some (pt b1 1)))] <| OJ.kld (d := 22) (y := .tmp 21) (cd := cL) (j := 2) (b := b1) (o := 1) a0.L (pend2 := []) Ty39 rfl (At_weirlaw14_Pair_L a0) rfl ?_
    refine OJ.go 1 [(23, .pointer (some (pt b2 2)))] <| OJ.kld (d := 24) (y := .tmp 23) (cd := c_api_Route) (j := 1) (b := b2) (o := 2) a1.R (pend2 := []) Ty32 rfl (At_weirlaw14_Step_R a1) rfl ?_
    refine OJ.call (d := 25) (g := 17) (ats := #[39, 32]) (args := [.tmp 22, .tmp 24]) (owed := []) F17 (weirref14_Add_ok a0.L a1.R) (fun r7 => ?_)
    refine OW.nil <| OJ.go 5 [(8, .int .i64 r7.2), (7, Sl.v r7.1), (27, .int .i64 r7.2), (26, Sl.v r7.1), (20, .tuple #[Sl.v r7.1, .int .i64 r7.2])] <| OJ.nil <| SJ.sr 3 <| OJ.go 2 [(29, .pointer (some (pt b1 1))), (28, Sl.v r7.1)] <| OJ.kst (y := .tmp 29) (z := .tmp 28) (cd := cL) (u := r7.1) (j := 2) (b := b1) (o := 1) (c_weirlaw14_Pair.enc (⟨a0.T, r7.1, a0.Kept⟩ : weirlaw14_Pair)) (owed := []) Ty39 rfl (Up_weirlaw14_Pair_L a0 r7.1) rfl ?_
    refine OW.nil <| OJ.nil <| SJ.sr 6 <| OJ.kld (d := 30) (y := .tmp 2) (cd := c_weirlaw14_Pair) (j := 2) (b := b1) (o := 0) (⟨a0.T, r7.1, a0.Kept⟩ : weirlaw14_Pair) (pend2 := []) Ty57 rfl (At.whole _) rfl ?_
    refine OJ.go 3 [(33, .bool (r6 == r7.2)), (32, .int .i64 r7.2), (31, .int .i64 r6)] <| OJ.kst (y := .tmp 4) (z := .tmp 30) (cd := c_weirlaw14_Pair) (u := (⟨a0.T, r7.1, a0.Kept⟩ : weirlaw14_Pair)) (j := 0) (b := b3) (o := 0) (c_weirlaw14_Pair.enc (⟨a0.T, r7.1, a0.Kept⟩ : weirlaw14_Pair)) (owed := []) Ty57 rfl (Upd.whole ((Cod.len _ _).trans (Cod.len _ _).symm)) rfl ?_
    exact OW.nil <| OJ.go 1 [(5, .bool (r6 == r7.2))] <| OJ.nil <| SJ.ret rfl (Res.run (ys := [c_weirlaw14_Pair.val (⟨a0.T, r7.1, a0.Kept⟩ : weirlaw14_Pair), .bool (r6 == r7.2)]) (.cell (j := 0) (b := b3) (cd := c_weirlaw14_Pair) (q := (⟨a0.T, r7.1, a0.Kept⟩ : weirlaw14_Pair)) (by kernel_rfl) rfl Ty57 (At.whole _) (.tmp (by kernel_rfl) .nil)) rfl)
  · refine SJ.skip <| SJ.sr 7 <| OJ.go 1 [(34, .pointer (some (pt b1 0)))] <| OJ.kld (d := 35) (y := .tmp 34) (cd := cP) (j := 2) (b := b1) (o := 0) a0.T (pend2 := []) Ty22 rfl (At_weirlaw14_Pair_T a0) rfl ?_
    refine OJ.go 2 [(37, .pointer (some (pt b2 2))), (36, .pointer (some (pt b2 2)))] <| OJ.kld (d := 38) (y := .tmp 37) (cd := c_api_Prefix) (j := 1) (b := b2) (o := 2) a1.R.Prefix (pend2 := []) Ty30 rfl (At.trans (At_weirlaw14_Step_R a1) (At_api_Route_Prefix a1.R)) rfl ?_
    refine OJ.call (d := 39) (g := 13) (ats := #[22, 30]) (args := [.tmp 35, .tmp 38]) (owed := []) F13 (route_Table_Drop_ok a0.T a1.R.Prefix) (fun r8 => ?_)
    refine OW.nil <| OJ.go 1 [(9, .bool r8)] <| OJ.nil <| SJ.sr 11 <| OJ.go 1 [(41, .pointer (some (pt b1 1)))] <| OJ.kld (d := 42) (y := .tmp 41) (cd := cL) (j := 2) (b := b1) (o := 1) a0.L (pend2 := []) Ty39 rfl (At_weirlaw14_Pair_L a0) rfl ?_
    refine OJ.go 2 [(44, .pointer (some (pt b2 2))), (43, .pointer (some (pt b2 2)))] <| OJ.kld (d := 45) (y := .tmp 44) (cd := c_api_Prefix) (j := 1) (b := b2) (o := 2) a1.R.Prefix (pend2 := []) Ty30 rfl (At.trans (At_weirlaw14_Step_R a1) (At_api_Route_Prefix a1.R)) rfl ?_
    refine OJ.call (d := 46) (g := 41) (ats := #[39, 30]) (args := [.tmp 42, .tmp 45]) (owed := []) F41 (weirref14_Drop_ok a0.L a1.R.Prefix) (fun r9 => ?_)
    refine OW.nil <| OJ.go 5 [(11, .bool r9.2), (10, Sl.v r9.1), (48, .bool r9.2), (47, Sl.v r9.1), (40, .tuple #[Sl.v r9.1, .bool r9.2])] <| OJ.nil <| SJ.sr 3 <| OJ.go 2 [(50, .pointer (some (pt b1 1))), (49, Sl.v r9.1)] <| OJ.kst (y := .tmp 50) (z := .tmp 49) (cd := cL) (u := r9.1) (j := 2) (b := b1) (o := 1) (c_weirlaw14_Pair.enc (⟨a0.T, r9.1, a0.Kept⟩ : weirlaw14_Pair)) (owed := []) Ty39 rfl (Up_weirlaw14_Pair_L a0 r9.1) rfl ?_
    refine OW.nil <| OJ.nil <| SJ.sr 6 <| OJ.kld (d := 51) (y := .tmp 2) (cd := c_weirlaw14_Pair) (j := 2) (b := b1) (o := 0) (⟨a0.T, r9.1, a0.Kept⟩ : weirlaw14_Pair) (pend2 := []) Ty57 rfl (At.whole _) rfl ?_
    refine OJ.go 3 [(54, .bool (r8 == r9.2)), (53, .bool r9.2), (52, .bool r8)] <| OJ.kst (y := .tmp 4) (z := .tmp 51) (cd := c_weirlaw14_Pair) (u := (⟨a0.T, r9.1, a0.Kept⟩ : weirlaw14_Pair)) (j := 0) (b := b3) (o := 0) (c_weirlaw14_Pair.enc (⟨a0.T, r9.1, a0.Kept⟩ : weirlaw14_Pair)) (owed := []) Ty57 rfl (Upd.whole ((Cod.len _ _).trans (Cod.len _ _).symm)) rfl ?_
    exact OW.nil <| OJ.go 1 [(5, .bool (r8 == r9.2))] <| OJ.nil <| SJ.ret rfl (Res.run (ys := [c_weirlaw14_Pair.val (⟨a0.T, r9.1, a0.Kept⟩ : weirlaw14_Pair), .bool (r8 == r9.2)]) (.cell (j := 0) (b := b3) (cd := c_weirlaw14_Pair) (q := (⟨a0.T, r9.1, a0.Kept⟩ : weirlaw14_Pair)) (by kernel_rfl) rfl Ty57 (At.whole _) (.tmp (by kernel_rfl) .nil)) rfl)

/-! ### maps.Values[map[weir/api.Prefix]weir/api.Route,weir/api.Prefix,weir/api.Route]$1: function 59 -/
noncomputable def maps_Values_map_api_Prefix_api_Route_api_Prefix_api_Route_1.B : Code := (Tryd.f59.body).getD .skip
noncomputable def maps_Values_map_api_Prefix_api_Route_api_Prefix_api_Route_1.cx : Fx := ⟨Tryd.prog, 59, Tryd.f59, none⟩
noncomputable def maps_Values_map_api_Prefix_api_Route_api_Prefix_api_Route_1.out (r_ : Unit) : Value := .tuple #[]
noncomputable def maps_Values_map_api_Prefix_api_Route_api_Prefix_api_Route_1.F0 (r_ : Unit) : Reach := .ret (maps_Values_map_api_Prefix_api_Route_api_Prefix_api_Route_1.out r_)
noncomputable def maps_Values_map_api_Prefix_api_Route_api_Prefix_api_Route_1.F1 (a0v : Any) (b2 : Nat) : (LS Unit Unit) → Reach := loopF [.inLoop (c1 (c1 (c2 maps_Values_map_api_Prefix_api_Route_api_Prefix_api_Route_1.B))), .inBlock 0] (fun s_ : Unit => [(0, a0v.v), (6, .pointer (some (pt b2 0)))]) (fun s_ : Unit => []) maps_Values_map_api_Prefix_api_Route_api_Prefix_api_Route_1.F0
noncomputable def maps_Values_map_api_Prefix_api_Route_api_Prefix_api_Route_1.L1 (a0 : api_Route → M Bool) (b2 : Nat) : M (LS Unit Unit) :=
  mnext b2 >>= fun r3 =>
  if r3.1 = true then
    mentry c_api_Prefix c_api_Route b2 >>= fun r4 =>
    slot 32 >>= fun b5 =>
    a0 r4.2 >>= fun r6 =>
    if ¬ (r6 = true) then
      pure (LS.done ())
    else
      pure (LS.next ())
  else
    pure (LS.done ())
theorem maps_Values_map_api_Prefix_api_Route_api_Prefix_api_Route_1.L1_ok (a0v : Any) (a0 : api_Route → M Bool) (h_a0 : ∀ (x0_ : api_Route), RefV Tryd.prog a0v.v [c_api_Route.val x0_] (a0 x0_) (fun r_ : Bool => .bool r_)) (b2 : Nat) :
    SJ maps_Values_map_api_Prefix_api_Route_api_Prefix_api_Route_1.cx [.code (c1 (c1 (c2 maps_Values_map_api_Prefix_api_Route_api_Prefix_api_Route_1.B))), .inLoop (c1 (c1 (c2 maps_Values_map_api_Prefix_api_Route_api_Prefix_api_Route_1.B))), .inBlock 0] [(0, a0v.v), (6, .pointer (some (pt b2 0)))] [] (maps_Values_map_api_Prefix_api_Route_api_Prefix_api_Route_1.L1 a0 b2) (maps_Values_map_api_Prefix_api_Route_api_Prefix_api_Route_1.F1 a0v b2) := by
  unfold maps_Values_map_api_Prefix_api_Route_api_Prefix_api_Route_1.L1
  refine SJ.sr 2 <| OJ.mnext (d := 7) (x := .tmp 6) (owed := []) (fun r3 => ?_)
  refine OW.nil <| OJ.go 1 [(8, .bool r3.1)] <| OJ.nil <| SJ.seq <| SJ.cond (t := (.tmp 8)) (b := r3.1) Iff.rfl (fun hc8 => ?_) (fun hc8 => ?_)
  · refine SJ.skip <| SJ.block (id := 1) <| SJ.sr 4 <| OJ.mentry (d := 9) (x := .tmp 6) (owed := []) (fun r4 => ?_)
    refine OW.nil <| OJ.go 1 [(10, c_api_Route.val r4.2)] <| OJ.slotOf (d := 4) (op := (.alloc 32)) (cd := c_api_Route) (u := z_api_Route) (owed := []) (alloc_run Ty32) (fun b5 => ?_)
    refine OW.nil <| OJ.kst (y := .tmp 4) (z := .tmp 10) (cd := c_api_Route) (u := r4.2) (j := 0) (b := b5) (o := 0) (c_api_Route.enc r4.2) (owed := []) Ty32 rfl (Upd.whole ((Cod.len _ _).trans (Cod.len _ _).symm)) rfl ?_
    refine OW.nil <| OJ.nil <| SJ.sr 4 <| OJ.go 1 [(11, a0v.v)] <| OJ.kld (d := 12) (y := .tmp 4) (cd := c_api_Route) (j := 0) (b := b5) (o := 0) r4.2 (pend2 := []) Ty32 rfl (At.whole _) rfl ?_
    refine OJ.callV1 (d := 13) (ats := #[32]) (args := [.tmp 12]) (fo := .tmp 11) (vals := [c_api_Route.val r4.2]) (owed := []) (h_a0 r4.2) (fun r6 => ?_)
    refine OW.nil <| OJ.go 1 [(14, .bool (!r6))] <| OJ.nil <| SJ.cond (t := (.tmp 14)) (b := (!r6)) (bnot_iff Iff.rfl) (fun hc7 => ?_) (fun hc7 => ?_)
    · exact SJ.ret rfl (Res.run (ys := []) .nil rfl)
    · refine SJ.skip <| SJ.inBlock <| SJ.forget (List.Sublist.cons _ List.Sublist.slnil) ?_
      exact SJ.at_ [0, 6] rfl
  · exact SJ.exit (id := 0) (by rfl) <| SJ.end_ rfl (Res.run (ys := []) .nil rfl)
noncomputable def maps_Values_map_api_Prefix_api_Route_api_Prefix_api_Route_1 (a0 : api_Route → M Bool) (a1 : Addr) : M Unit :=
  ld cM a1 >>= fun x1 =>
  mrange x1 >>= fun b2 =>
  loopM (fun s_ : Unit => maps_Values_map_api_Prefix_api_Route_api_Prefix_api_Route_1.L1 a0 b2) ()
theorem maps_Values_map_api_Prefix_api_Route_api_Prefix_api_Route_1_ok (a0v : Any) (a0 : api_Route → M Bool) (h_a0 : ∀ (x0_ : api_Route), RefV Tryd.prog a0v.v [c_api_Route.val x0_] (a0 x0_) (fun r_ : Bool => .bool r_)) (a1 : Addr) : Ref Tryd.prog 59 [a0v.v, .pointer (some a1)] (maps_Values_map_api_Prefix_api_Route_api_Prefix_api_Route_1 a0 a1) maps_Values_map_api_Prefix_api_Route_api_Prefix_api_Route_1.out := by
  refine Ref.of (cd := maps_Values_map_api_Prefix_api_Route_api_Prefix_api_Route_1.B) Tryd.func59 ?_
  show SJ maps_Values_map_api_Prefix_api_Route_api_Prefix_api_Route_1.cx [.code maps_Values_map_api_Prefix_api_Route_api_Prefix_api_Route_1.B] [(0, a0v.v), (1, .pointer (some a1))] [] (maps_Values_map_api_Prefix_api_Route_api_Prefix_api_Route_1 a0 a1) maps_Values_map_api_Prefix_api_Route_api_Prefix_api_Route_1.F0
  unfold maps_Values_map_api_Prefix_api_Route_api_Prefix_api_Route_1
  refine SJ.sr 2 <| OJ.ld (d := 5) (y := .tmp 1) (pend2 := fun x1 => []) Ty79 (fun _ => rfl) (fun x1 => ?_)
  refine OJ.mrange (d := 6) (T := 79) (kT := 30) (vT := 32) (x := .tmp 5) (owed := []) (fun b2 => ?_)
  exact OW.nil <| OJ.nil <| SJ.block (id := 0) <| SJ.loop (fun s_ : Unit => [(0, a0v.v), (6, .pointer (some (pt b2 0)))]) (fun s_ : Unit => []) [0, 6] rfl (fun _ _ => rfl) (fun s_ => maps_Values_map_api_Prefix_api_Route_api_Prefix_api_Route_1.L1_ok a0v a0 h_a0 b2)

/-! ### maps.Values[map[weir/api.Prefix]weir/api.Route,weir/api.Prefix,weir/api.Route]: function 44 -/
noncomputable def maps_Values_map_api_Prefix_api_Route_api_Prefix_api_Route.B : Code := (Tryd.f44.body).getD .skip
noncomputable def maps_Values_map_api_Prefix_api_Route_api_Prefix_api_Route.cx : Fx := ⟨Tryd.prog, 44, Tryd.f44, none⟩
noncomputable def maps_Values_map_api_Prefix_api_Route_api_Prefix_api_Route.out (r_ : Any) : Value := r_.v
noncomputable def maps_Values_map_api_Prefix_api_Route_api_Prefix_api_Route.F0 (r_ : Any) : Reach := .ret (maps_Values_map_api_Prefix_api_Route_api_Prefix_api_Route.out r_)
noncomputable def maps_Values_map_api_Prefix_api_Route_api_Prefix_api_Route (a0 : (Option Nat)) : M Any :=
  newv 79 cM a0 >>= fun b1 =>
  pure ⟨.func (.func 59) #[] #[.pointer (some (pt b1 0))], rfl⟩
theorem maps_Values_map_api_Prefix_api_Route_api_Prefix_api_Route_ok (a0 : (Option Nat)) : Ref Tryd.prog 44 [.map a0] (maps_Values_map_api_Prefix_api_Route_api_Prefix_api_Route a0) maps_Values_map_api_Prefix_api_Route_api_Prefix_api_Route.out := by
  refine Ref.of (cd := maps_Values_map_api_Prefix_api_Route_api_Prefix_api_Route.B) Tryd.func44 ?_
  show SJ maps_Values_map_api_Prefix_api_Route_api_Prefix_api_Route.cx [.code maps_Values_map_api_Prefix_api_Route_api_Prefix_api_Route.B] [(0, .map a0)] [] (maps_Values_map_api_Prefix_api_Route_api_Prefix_api_Route a0) maps_Values_map_api_Prefix_api_Route_api_Prefix_api_Route.F0
  unfold maps_Values_map_api_Prefix_api_Route_api_Prefix_api_Route
  refine SJ.sr 2 <| OJ.newOf (d := 1) (op := (.box 79 (.tmp 0))) (cd := cM) (u := a0) (owed := []) (box_run (by kernel_rfl)) (fun b1 => ?_)
  exact OW.nil <| OJ.go 1 [(2, (⟨.nilFunc, rfl⟩ : Any).v)] <| OJ.nil <| SJ.sr 2 <| OJ.go 2 [(2, .func (.func 59) #[] #[.pointer (some (pt b1 0))]), (3, .func (.func 59) #[] #[.pointer (some (pt b1 0))])] <| OJ.nil <| SJ.r1 (.func (.func 59) #[] #[.pointer (some (pt b1 0))]) rfl rfl

/-! ### slices.AppendSeq[[]weir/api.Route,weir/api.Route]: function 64 -/
noncomputable def slices_AppendSeq_api_Route_api_Route.B : Code := (Tryd.f64.body).getD .skip
noncomputable def slices_AppendSeq_api_Route_api_Route.cx : Fx := ⟨Tryd.prog, 64, Tryd.f64, none⟩
noncomputable def slices_AppendSeq_api_Route_api_Route.out (r_ : Sl) : Value := Sl.v r_
noncomputable def slices_AppendSeq_api_Route_api_Route.F0 (r_ : Sl) : Reach := .ret (slices_AppendSeq_api_Route_api_Route.out r_)
noncomputable def slices_AppendSeq_api_Route_api_Route.rx (l_ : Nat) : Fx := ⟨Tryd.prog, 64, Tryd.f64, some l_⟩
noncomputable def slices_AppendSeq_api_Route_api_Route.it (f_ : Any) (y_ : api_Route → M Bool) : M Unit :=
  (caught f_.v).elim fail (fun q_ => if q_.1 = 59 then maps_Values_map_api_Prefix_api_Route_api_Prefix_api_Route_1 y_ q_.2 else fail)
theorem slices_AppendSeq_api_Route_api_Route.it_ok (f_ yv_ : Any) (y_ : api_Route → M Bool) (hy_ : ∀ x_, RefV Tryd.prog yv_.v [c_api_Route.val x_] (y_ x_) Value.bool) : RefI Tryd.prog f_.v [yv_.v] (slices_AppendSeq_api_Route_api_Route.it f_ y_) (fun _ => .tuple #[]) := by
  intro v r v' e
  unfold slices_AppendSeq_api_Route_api_Route.it at e
  cases hf_ : caught f_.v with
  | none => rw [hf_] at e; cases e
  | some q_ =>
    obtain ⟨g_, p0⟩ := q_
    rw [hf_] at e
    simp only [Option.elim] at e
    by_cases hg_ : g_ = 59
    · subst hg_
      rw [if_pos rfl] at e
      have h_ := RefI.of (first := []) (vals := [yv_.v]) (cap := [.pointer (some p0)]) F59 (maps_Values_map_api_Prefix_api_Route_api_Prefix_api_Route_1_ok yv_ y_ hy_ p0) v r v' e
      rw [caught_eq hf_]
      exact h_
    rw [if_neg hg_] at e
    cases e
noncomputable def slices_AppendSeq_api_Route_api_Route.R1 (b1 : Nat) (l2 : Nat) (x3 : api_Route) : M (Option Code) :=
  slot 32 >>= fun b8 =>
  begM l2 >>= fun _ =>
  ld cL (pt b1 0) >>= fun x9 =>
  slot 32 >>= fun b10 =>
  appl c_api_Route 32 64 z_api_Route x9 [x3] >>= fun r11 =>
  st cL (pt b1 0) r11 >>= fun _ =>
  pure none
theorem slices_AppendSeq_api_Route_api_Route.R1_ok (a1 : Any) (b1 : Nat) (l2 : Nat) (rc_ : Loop) (ht_ : Loops.tab l2 = some rc_) (x3 : api_Route) :
    SJ (slices_AppendSeq_api_Route_api_Route.rx l2) [.code ((rfOf (c1 (c2 (c1 (c2 slices_AppendSeq_api_Route_api_Route.B))))).2.2.1), .beginRound, .code ((rfOf (c1 (c2 (c1 (c2 slices_AppendSeq_api_Route_api_Route.B))))).2.2.2)] [(7, c_api_Route.val x3), (2, .pointer (some (pt b1 0))), (4, Sl.v Sl.nil), (6, a1.v)] [] (slices_AppendSeq_api_Route_api_Route.R1 b1 l2 x3) rdJ := by
  unfold slices_AppendSeq_api_Route_api_Route.R1
  refine SJ.rg 2 <| OJ.slotOf (d := 5) (op := (.alloc 32)) (cd := c_api_Route) (u := z_api_Route) (owed := []) (alloc_run Ty32) (fun b8 => ?_)
  refine OW.nil <| OJ.kst (y := .tmp 5) (z := .tmp 7) (cd := c_api_Route) (u := x3) (j := 0) (b := b8) (o := 0) (c_api_Route.enc x3) (owed := []) Ty32 rfl (Upd.whole ((Cod.len _ _).trans (Cod.len _ _).symm)) rfl ?_
  refine OW.nil <| OJ.nil <| SJ.begin rfl ht_ ?_
  refine SJ.block (id := 1) <| SJ.rg 5 <| OJ.ld (d := 8) (y := .tmp 2) (pend2 := fun x9 => []) Ty39 (fun _ => rfl) (fun x9 => ?_)
  refine OJ.kld (d := 9) (y := .tmp 5) (cd := c_api_Route) (j := 0) (b := b8) (o := 0) x3 (pend2 := []) Ty32 rfl (At.whole _) rfl ?_
  refine OJ.rowSlot (d := 10) (t := 39) (parts := [(0, .tmp 9)]) (ps := [(0, c_api_Route.val x3)]) (cd := c_api_Route) (⟨[x3], rfl⟩ : Vec api_Route 1) (owed := []) Ty32 (Filled.cons (cd := c_api_Route) (q := x3) (o := 0) rfl (Upd.arr (i := 0) (by decide) (by decide)) Filled.nil) (fun b10 => ?_)
  refine OW.nil <| OJ.appl (d := 11) (t := 39) (u := 39) (so := .tmp 8) (xo := .tmp 10) (j := 0) (b := b10) (l := (c_api_Route.arr 1).enc (⟨[x3], rfl⟩ : Vec api_Route 1)) (n := 1) (k := 1) [x3] (owed := []) Ty32 (by rfl) (Cod.arr_enc _ _ _) (by rfl) (fun r11 => ?_)
  refine OW.nil <| OJ.st (y := .tmp 2) (z := .tmp 11) (owed := []) Ty39 ?_
  refine OW.nil <| OJ.nil <| SJ.inBlock <| SJ.forget (List.Sublist.cons _ (List.Sublist.cons _ List.Sublist.slnil)) ?_
  exact SJ.at_ [] rfl
noncomputable def slices_AppendSeq_api_Route_api_Route (a0 : Sl) (a1 : Any) : M Sl :=
  newv 39 cL a0 >>= fun b1 =>
  rangeM (slices_AppendSeq_api_Route_api_Route.it a1) (fun l_ x_ => slices_AppendSeq_api_Route_api_Route.R1 b1 l_ x_) (onJ
    (ld cL (pt b1 0) >>= fun x12 =>
     pure x12)
    (fail)
    [])
theorem slices_AppendSeq_api_Route_api_Route_ok (a0 : Sl) (a1 : Any) : Ref Tryd.prog 64 [Sl.v a0, a1.v] (slices_AppendSeq_api_Route_api_Route a0 a1) slices_AppendSeq_api_Route_api_Route.out := by
  refine Ref.of (cd := slices_AppendSeq_api_Route_api_Route.B) Tryd.func64 ?_
  show SJ slices_AppendSeq_api_Route_api_Route.cx [.code slices_AppendSeq_api_Route_api_Route.B] [(0, Sl.v a0), (1, a1.v)] [] (slices_AppendSeq_api_Route_api_Route a0 a1) slices_AppendSeq_api_Route_api_Route.F0
  unfold slices_AppendSeq_api_Route_api_Route
  refine SJ.sr 2 <| OJ.newOf (d := 2) (op := (.box 39 (.tmp 0))) (cd := cL) (u := a0) (owed := []) (box_run (by kernel_rfl)) (fun b1 => ?_)
  refine OW.nil <| OJ.go 1 [(4, Sl.v Sl.nil)] <| OJ.nil <| SJ.seq <| SJ.sr 1 <| OJ.go 1 [(6, a1.v)] <| OJ.nil <| SJ.block (id := 0) <| SJ.less [2, 4, 6] (m' := [(2, .pointer (some (pt b1 0))), (4, Sl.v Sl.nil), (6, a1.v)]) ?_
  refine SJ.rangeF (fo := .tmp 6) (fv := a1.v) (ps := [7]) (fun x_ => [c_api_Route.val x_]) (fun _ => .tuple #[]) (fun L_ yv_ y_ hy_ => @slices_AppendSeq_api_Route_api_Route.it_ok L_ a1 yv_ y_ hy_) (fun L_ l_ rc_ ht_ x_ => @slices_AppendSeq_api_Route_api_Route.R1_ok L_ a1 b1 l_ rc_ ht_ x_) (SJ.onJ ?_ ?_ ?_)
  · refine SJ.inBlock <| SJ.sr 2 <| OJ.ld (d := 12) (y := .tmp 2) (pend2 := fun x12 => []) Ty39 (fun _ => rfl) (fun x12 => ?_)
    exact OJ.go 1 [(4, Sl.v x12)] <| OJ.nil <| SJ.r1 (Sl.v x12) rfl rfl
  · exact SJ.fail
  · exact SJ.exits0

/-! ### slices.Collect[weir/api.Route]: function 57 -/
noncomputable def slices_Collect_api_Route.B : Code := (Tryd.f57.body).getD .skip
noncomputable def slices_Collect_api_Route.cx : Fx := ⟨Tryd.prog, 57, Tryd.f57, none⟩
noncomputable def slices_Collect_api_Route.out (r_ : Sl) : Value := Sl.v r_
noncomputable def slices_Collect_api_Route.F0 (r_ : Sl) : Reach := .ret (slices_Collect_api_Route.out r_)
noncomputable def slices_Collect_api_Route (a0 : Any) : M Sl :=
  slices_AppendSeq_api_Route_api_Route Sl.nil a0 >>= fun r1 =>
  pure r1
theorem slices_Collect_api_Route_ok (a0 : Any) : Ref Tryd.prog 57 [a0.v] (slices_Collect_api_Route a0) slices_Collect_api_Route.out := by
  refine Ref.of (cd := slices_Collect_api_Route.B) Tryd.func57 ?_
  show SJ slices_Collect_api_Route.cx [.code slices_Collect_api_Route.B] [(0, a0.v)] [] (slices_Collect_api_Route a0) slices_Collect_api_Route.F0
  unfold slices_Collect_api_Route
  refine SJ.sr 1 <| OJ.go 1 [(2, Sl.v Sl.nil)] <| OJ.nil <| SJ.sr 3 <| OJ.go 1 [(3, a0.v)] <| OJ.call (d := 4) (g := 64) (ats := #[39, 62]) (args := [.const (.slice none 0 0), .tmp 3]) (owed := []) F64 (slices_AppendSeq_api_Route_api_Route_ok Sl.nil a0) (fun r1 => ?_)
  exact OW.nil <| OJ.go 1 [(2, Sl.v r1)] <| OJ.nil <| SJ.r1 (Sl.v r1) rfl rfl

/-! ### math/bits.Len64: function 79 -/
noncomputable def bits_Len64.B : Code := (Tryd.f79.body).getD .skip
noncomputable def bits_Len64.cx : Fx := ⟨Tryd.prog, 79, Tryd.f79, none⟩
noncomputable def bits_Len64.out (r_ : Int) : Value := .int .i64 r_
noncomputable def bits_Len64.F0 (r_ : Int) : Reach := .ret (bits_Len64.out r_)
noncomputable def bits_Len64.K1 (j3 : Int) (j4 : Int) : M Int :=
  if j3 ≥ 256 then
    chk ((0 : Int) ≤ (IntKind.wrap .u8 (Int.fdiv j3 (2 ^ 8))) ∧ (IntKind.wrap .u8 (Int.fdiv j3 (2 ^ 8))) < (str12.size : Int)) >>= fun _ =>
    pure (IntKind.wrap .i64 ((IntKind.wrap .i64 (j4 + 8)) + (IntKind.wrap .i64 (sb str12 (IntKind.wrap .u8 (Int.fdiv j3 (2 ^ 8)))))))
  else
    chk ((0 : Int) ≤ (IntKind.wrap .u8 j3) ∧ (IntKind.wrap .u8 j3) < (str12.size : Int)) >>= fun _ =>
    pure (IntKind.wrap .i64 (j4 + (IntKind.wrap .i64 (sb str12 (IntKind.wrap .u8 j3)))))
theorem bits_Len64.K1_ok (j3 : Int) (j4 : Int) :
    SJ bits_Len64.cx [.code (c2 (c2 (c2 bits_Len64.B)))] [(0, .int .u64 j3), (2, .int .i64 j4)] [] (bits_Len64.K1 j3 j4) bits_Len64.F0 := by
  unfold bits_Len64.K1
  refine SJ.seq <| SJ.sr 2 <| OJ.go 2 [(14, .bool (decide (j3 ≥ 256))), (13, .int .u64 j3)] <| OJ.nil <| SJ.cond (t := (.tmp 14)) (b := decide (j3 ≥ 256)) decide_eq_true_iff (fun hc9 => ?_) (fun hc9 => ?_)
  · refine SJ.sr 3 <| OJ.go 3 [(0, .int .u64 (Int.fdiv j3 (2 ^ 8))), (16, .int .u64 (Int.fdiv j3 (2 ^ 8))), (15, .int .u64 j3)] <| OJ.nil <| SJ.rg 3 <| OJ.go 3 [(2, .int .i64 (IntKind.wrap .i64 (j4 + 8))), (18, .int .i64 (IntKind.wrap .i64 (j4 + 8))), (17, .int .i64 j4)] <| OJ.nil <| SJ.sr 7 <| OJ.go 3 [(21, .int .u8 (IntKind.wrap .u8 (Int.fdiv j3 (2 ^ 8)))), (20, .int .u64 (Int.fdiv j3 (2 ^ 8))), (19, .int .i64 (IntKind.wrap .i64 (j4 + 8)))] <| OJ.idxT (d := 22) (T := 9) (y := .const (.string str12)) (j := .tmp 21) (k := .u8) (fun hb5 hb6 => ?_)
    exact OJ.go 3 [(2, .int .i64 (IntKind.wrap .i64 ((IntKind.wrap .i64 (j4 + 8)) + (IntKind.wrap .i64 (sb str12 (IntKind.wrap .u8 (Int.fdiv j3 (2 ^ 8)))))))), (24, .int .i64 (IntKind.wrap .i64 ((IntKind.wrap .i64 (j4 + 8)) + (IntKind.wrap .i64 (sb str12 (IntKind.wrap .u8 (Int.fdiv j3 (2 ^ 8)))))))), (23, .int .i64 (IntKind.wrap .i64 (sb str12 (IntKind.wrap .u8 (Int.fdiv j3 (2 ^ 8))))))] <| OJ.nil <| SJ.r1 (.int .i64 (IntKind.wrap .i64 ((IntKind.wrap .i64 (j4 + 8)) + (IntKind.wrap .i64 (sb str12 (IntKind.wrap .u8 (Int.fdiv j3 (2 ^ 8)))))))) rfl rfl
  · refine SJ.skip <| SJ.sr 7 <| OJ.go 3 [(21, .int .u8 (IntKind.wrap .u8 j3)), (20, .int .u64 j3), (19, .int .i64 j4)] <| OJ.idxT (d := 22) (T := 9) (y := .const (.string str12)) (j := .tmp 21) (k := .u8) (fun hb7 hb8 => ?_)
    exact OJ.go 3 [(2, .int .i64 (IntKind.wrap .i64 (j4 + (IntKind.wrap .i64 (sb str12 (IntKind.wrap .u8 j3)))))), (24, .int .i64 (IntKind.wrap .i64 (j4 + (IntKind.wrap .i64 (sb str12 (IntKind.wrap .u8 j3)))))), (23, .int .i64 (IntKind.wrap .i64 (sb str12 (IntKind.wrap .u8 j3))))] <| OJ.nil <| SJ.r1 (.int .i64 (IntKind.wrap .i64 (j4 + (IntKind.wrap .i64 (sb str12 (IntKind.wrap .u8 j3)))))) rfl rfl
noncomputable def bits_Len64.K2 (j1 : Int) (j2 : Int) : M Int :=
  if j1 ≥ 65536 then
    bits_Len64.K1 (Int.fdiv j1 (2 ^ 16)) (IntKind.wrap .i64 (j2 + 16))
  else
    bits_Len64.K1 j1 j2
theorem bits_Len64.K2_ok (j1 : Int) (j2 : Int) :
    SJ bits_Len64.cx [.code (c2 (c2 bits_Len64.B))] [(0, .int .u64 j1), (2, .int .i64 j2)] [] (bits_Len64.K2 j1 j2) bits_Len64.F0 := by
  unfold bits_Len64.K2
  refine SJ.seq <| SJ.sr 2 <| OJ.go 2 [(8, .bool (decide (j1 ≥ 65536))), (7, .int .u64 j1)] <| OJ.nil <| SJ.cond (t := (.tmp 8)) (b := decide (j1 ≥ 65536)) decide_eq_true_iff (fun hc10 => ?_) (fun hc10 => ?_)
  · refine SJ.sr 3 <| OJ.go 3 [(0, .int .u64 (Int.fdiv j1 (2 ^ 16))), (10, .int .u64 (Int.fdiv j1 (2 ^ 16))), (9, .int .u64 j1)] <| OJ.nil <| SJ.rg 3 <| OJ.go 3 [(2, .int .i64 (IntKind.wrap .i64 (j2 + 16))), (12, .int .i64 (IntKind.wrap .i64 (j2 + 16))), (11, .int .i64 j2)] <| OJ.nil <| SJ.less [0, 2] (m' := [(0, .int .u64 (Int.fdiv j1 (2 ^ 16))), (2, .int .i64 (IntKind.wrap .i64 (j2 + 16)))]) ?_
    exact bits_Len64.K1_ok (Int.fdiv j1 (2 ^ 16)) (IntKind.wrap .i64 (j2 + 16))
  · refine SJ.skip <| SJ.less [0, 2] (m' := [(0, .int .u64 j1), (2, .int .i64 j2)]) ?_
    exact bits_Len64.K1_ok j1 j2
noncomputable def bits_Len64 (a0 : Int) : M Int :=
  if a0 ≥ 4294967296 then
    bits_Len64.K2 (Int.fdiv a0 (2 ^ 32)) 32
  else
    bits_Len64.K2 a0 0
theorem bits_Len64_ok (a0 : Int) : Ref Tryd.prog 79 [.int .u64 a0] (bits_Len64 a0) bits_Len64.out := by
  refine Ref.of (cd := bits_Len64.B) Tryd.func79 ?_
  show SJ bits_Len64.cx [.code bits_Len64.B] [(0, .int .u64 a0)] [] (bits_Len64 a0) bits_Len64.F0
  unfold bits_Len64
  refine SJ.sr 1 <| OJ.go 1 [(2, .int .i64 0)] <| OJ.nil <| SJ.seq <| SJ.sr 2 <| OJ.go 2 [(4, .bool (decide (a0 ≥ 4294967296))), (3, .int .u64 a0)] <| OJ.nil <| SJ.cond (t := (.tmp 4)) (b := decide (a0 ≥ 4294967296)) decide_eq_true_iff (fun hc11 => ?_) (fun hc11 => ?_)
  · refine SJ.sr 3 <| OJ.go 3 [(0, .int .u64 (Int.fdiv a0 (2 ^ 32))), (6, .int .u64 (Int.fdiv a0 (2 ^ 32))), (5, .int .u64 a0)] <| OJ.nil <| SJ.rg 1 <| OJ.go 1 [(2, .int .i64 32)] <| OJ.nil <| SJ.less [0, 2] (m' := [(0, .int .u64 (Int.fdiv a0 (2 ^ 32))), (2, .int .i64 32)]) ?_
    exact bits_Len64.K2_ok (Int.fdiv a0 (2 ^ 32)) 32
  · refine SJ.skip <| SJ.less [0, 2] (m' := [(0, .int .u64 a0), (2, .int .i64 0)]) ?_
    exact bits_Len64.K2_ok a0 0

/-! ### math/bits.Len: function 66 -/
noncomputable def bits_Len.B : Code := (Tryd.f66.body).getD .skip
noncomputable def bits_Len.cx : Fx := ⟨Tryd.prog, 66, Tryd.f66, none⟩
noncomputable def bits_Len.out (r_ : Int) : Value := .int .i64 r_
noncomputable def bits_Len.F0 (r_ : Int) : Reach := .ret (bits_Len.out r_)
noncomputable def bits_Len (a0 : Int) : M Int :=
  bits_Len64 a0 >>= fun r1 =>
  pure r1
theorem bits_Len_ok (a0 : Int) : Ref Tryd.prog 66 [.int .u64 a0] (bits_Len a0) bits_Len.out := by
  refine Ref.of (cd := bits_Len.B) Tryd.func66 ?_
  show SJ bits_Len.cx [.code bits_Len.B] [(0, .int .u64 a0)] [] (bits_Len a0) bits_Len.F0
  unfold bits_Len
  refine SJ.sr 1 <| OJ.go 1 [(2, .int .i64 0)] <| OJ.nil <| SJ.seq <| SJ.cond0 (t := (.const (.bool false))) ?_
  refine SJ.skip <| SJ.sr 3 <| OJ.go 1 [(6, .int .u64 a0)] <| OJ.call (d := 7) (g := 79) (ats := #[134]) (args := [.tmp 6]) (owed := []) F79 (bits_Len64_ok a0) (fun r1 => ?_)
  exact OW.nil <| OJ.go 1 [(2, .int .i64 r1)] <| OJ.nil <| SJ.r1 (.int .i64 r1) rfl rfl

/-! ### slices.insertionSortCmpFunc[weir/api.Route]: function 70 -/
noncomputable def slices_insertionSortCmpFunc_api_Route.B : Code := (Tryd.f70.body).getD .skip
noncomputable def slices_insertionSortCmpFunc_api_Route.cx : Fx := ⟨Tryd.prog, 70, Tryd.f70, none⟩
noncomputable def slices_insertionSortCmpFunc_api_Route.out (r_ : Unit) : Value := .tuple #[]
noncomputable def slices_insertionSortCmpFunc_api_Route.F0 (r_ : Unit) : Reach := .ret (slices_insertionSortCmpFunc_api_Route.out r_)
noncomputable def slices_insertionSortCmpFunc_api_Route.F1 (a0 : Sl) (a1 : Int) (a2 : Int) (a3v : Any) : (LS Int Unit) → Reach := loopF [.inLoop (c1 (c1 (c2 slices_insertionSortCmpFunc_api_Route.B))), .inBlock 0] (fun s_ : Int => [(0, Sl.v a0), (1, .int .i64 a1), (2, .int .i64 a2), (3, a3v.v), (8, .int .i64 s_)]) (fun s_ : Int => []) slices_insertionSortCmpFunc_api_Route.F0
noncomputable def slices_insertionSortCmpFunc_api_Route.F2 (a0 : Sl) (a1 : Int) (a2 : Int) (a3v : Any) (s1 : Int) : (LS Int (LS Int Unit)) → Reach := loopF [.inLoop (c1 (c1 (c2 (c1 (c1 (c2 (c1 (c1 (c2 slices_insertionSortCmpFunc_api_Route.B))))))))), .inBlock 2, .inBlock 1, .code (c2 (c2 (c1 (c1 (c2 slices_insertionSortCmpFunc_api_Route.B))))), .inLoop (c1 (c1 (c2 slices_insertionSortCmpFunc_api_Route.B))), .inBlock 0] (fun s_ : Int => [(0, Sl.v a0), (1, .int .i64 a1), (2, .int .i64 a2), (3, a3v.v), (8, .int .i64 s1), (9, .int .i64 s_)]) (fun s_ : Int => []) (slices_insertionSortCmpFunc_api_Route.F1 a0 a1 a2 a3v)
noncomputable def slices_insertionSortCmpFunc_api_Route.L2 (a0 : Sl) (a1 : Int) (a3 : api_Route → api_Route → M Int) (s1 : Int) (s2 : Int) : M (LS Int (LS Int Unit)) :=
  draw >>= fun _ =>
  (if s2 > a1 then
      idx a0.a a0.len s2 36 >>= fun p16 =>
      ld c_api_Route p16 >>= fun x17 =>
      idx a0.a a0.len (IntKind.wrap .i64 (s2 - 1)) 36 >>= fun p18 =>
      ld c_api_Route p18 >>= fun x19 =>
      a3 x17 x19 >>= fun r20 =>
      pure (decide (r20 < 0))
    else
      pure false) >>= fun y21 =>
  if y21 = true then
    draw >>= fun _ =>
    idx a0.a a0.len (IntKind.wrap .i64 (s2 - 1)) 36 >>= fun p22 =>
    ld c_api_Route p22 >>= fun x23 =>
    idx a0.a a0.len s2 36 >>= fun p24 =>
    ld c_api_Route p24 >>= fun x25 =>
    idx a0.a a0.len s2 36 >>= fun p26 =>
    st c_api_Route p26 x23 >>= fun _ =>
    idx a0.a a0.len (IntKind.wrap .i64 (s2 - 1)) 36 >>= fun p27 =>
    st c_api_Route p27 x25 >>= fun _ =>
    pure (LS.next (IntKind.wrap .i64 (s2 - 1)))
  else
    pure (LS.done (LS.next (IntKind.wrap .i64 (s1 + 1))))
theorem slices_insertionSortCmpFunc_api_Route.L2_ok (a0 : Sl) (a1 : Int) (a2 : Int) (a3v : Any) (a3 : api_Route → api_Route → M Int) (h_a3 : ∀ (x0_ : api_Route), ∀ (x1_ : api_Route), RefV Tryd.prog a3v.v [c_api_Route.val x0_, c_api_Route.val x1_] (a3 x0_ x1_) (fun r_ : Int => .int .i64 r_)) (s1 : Int) (s2 : Int) :
    SJ slices_insertionSortCmpFunc_api_Route.cx [.code (c1 (c1 (c2 (c1 (c1 (c2 (c1 (c1 (c2 slices_insertionSortCmpFunc_api_Route.B))))))))), .inLoop (c1 (c1 (c2 (c1 (c1 (c2 (c1 (c1 (c2 slices_insertionSortCmpFunc_api_Route.B))))))))), .inBlock 2, .inBlock 1, .code (c2 (c2 (c1 (c1 (c2 slices_insertionSortCmpFunc_api_Route.B))))), .inLoop (c1 (c1 (c2 slices_insertionSortCmpFunc_api_Route.B))), .inBlock 0] [(0, Sl.v a0), (1, .int .i64 a1), (2, .int .i64 a2), (3, a3v.v), (8, .int .i64 s1), (9, .int .i64 s2)] [] (slices_insertionSortCmpFunc_api_Route.L2 a0 a1 a3 s1 s2) (slices_insertionSortCmpFunc_api_Route.F2 a0 a1 a2 a3v s1) := by
  unfold slices_insertionSortCmpFunc_api_Route.L2
  refine SJ.seq <| SJ.seq <| SJ.draw (id := 4) (kd := [0, 0, 0, 0, 0, 0, 0, 0, 1, 0, 0, 0, 0, 1, 2, 0, 0]) (bef := [0, 0, 3, 7, 15, 15, 15, 111, 239, 15, 15, 1039, 3599, 7695, 16383, 32767, 65535]) (ord := [0, 1, 2, 3, 4, 5, 6, 7, 8, 9, 10, 11, 12, 13, 14, 15, 16]) mixed ?_
  refine OJ.go 4 [(21, .bool (decide (s2 > a1))), (20, .bool (decide (s2 > a1))), (19, .int .i64 a1), (18, .int .i64 s2)] <| OJ.join (b := decide (s2 > a1)) [4, 5, 6, 7, 8, 9, 10, 11, 12, 13, 14, 15, 16] [] [0, 1, 2, 3, 8, 9, 34] (fun y21 => [(0, Sl.v a0), (1, .int .i64 a1), (2, .int .i64 a2), (3, a3v.v), (8, .int .i64 s1), (9, .int .i64 s2), (34, .bool y21)]) [] [8, 13] (t := 21) decide_eq_true_iff (fun hp_ => ?_) (fun hp_ => ?_) (fun _ _ _ _ _ _ h_ => h_) (fun y21 => ?_)
  · refine OJ.go 3 [(24, .int .i64 s2), (23, Sl.v a0), (22, a3v.v)] <| OJ.idxS (d := 25) (T := 39) (y := .tmp 23) (j := .tmp 24) (E := 32) (cap := a0.cap) (k := .i64) (fun p16 => ?_)
    refine OJ.ld (d := 26) (y := .tmp 25) (pend2 := fun x17 => [⟨8, 32, p16, c_api_Route.val x17⟩]) Ty32 (fun _ => rfl) (fun x17 => ?_)
    refine OJ.go 3 [(29, .int .i64 (IntKind.wrap .i64 (s2 - 1))), (28, .int .i64 s2), (27, Sl.v a0)] <| OJ.idxS (d := 30) (T := 39) (y := .tmp 27) (j := .tmp 29) (E := 32) (cap := a0.cap) (k := .i64) (fun p18 => ?_)
    refine OJ.ld (d := 31) (y := .tmp 30) (pend2 := fun x19 => [⟨13, 32, p18, c_api_Route.val x19⟩, ⟨8, 32, p16, c_api_Route.val x17⟩]) Ty32 (fun _ => rfl) (fun x19 => ?_)
    refine OJ.callV1 (d := 32) (ats := #[32, 32]) (args := [.tmp 26, .tmp 31]) (fo := .tmp 22) (vals := [c_api_Route.val x17, c_api_Route.val x19]) (owed := []) (h_a3 x17 x19) (fun r20 => ?_)
    exact OW.nil <| OJ.go 2 [(34, .bool (decide (r20 < 0))), (33, .bool (decide (r20 < 0)))] <| OJ.nil ⟨(Cov.mem (Cov.drop (List.mem_of_getElem? (i := 1) rfl) (Cov.drop (List.mem_of_getElem? (i := 0) rfl) Cov.nil))), rfl, _, rfl, by kernel_rfl⟩
  · exact OJ.go 13 [(34, .bool false), (33, undef), (32, undef), (31, undef), (30, undef), (29, undef), (28, undef), (27, undef), (26, undef), (25, undef), (24, undef), (23, undef), (22, undef)] <| OJ.x0
  · refine OJ.nil <| SJ.cond (t := (.tmp 34)) (b := y21) Iff.rfl (fun hc28 => ?_) (fun hc28 => ?_)
    · refine SJ.skip <| SJ.seq <| SJ.block (id := 3) <| SJ.draw (id := 6) (kd := [0, 0, 0, 0, 0, 0, 0, 0, 0, 1, 0, 0, 0, 1, 0, 2, 0, 2]) (bef := [0, 0, 0, 0, 8, 0, 0, 64, 224, 480, 0, 0, 3072, 7168, 16355, 32739, 65535, 131071]) (ord := [0, 1, 2, 3, 4, 5, 6, 7, 8, 9, 10, 11, 12, 13, 14, 15, 16, 17]) mixed ?_
      refine OJ.go 8 [(44, .int .i64 (IntKind.wrap .i64 (s2 - 1))), (43, .int .i64 s2), (42, Sl.v a0), (41, .int .i64 (IntKind.wrap .i64 (s2 - 1))), (40, .int .i64 s2), (39, Sl.v a0), (38, .int .i64 s2), (37, Sl.v a0)] <| OJ.idxS (d := 45) (T := 39) (y := .tmp 42) (j := .tmp 44) (E := 32) (cap := a0.cap) (k := .i64) (fun p22 => ?_)
      refine OJ.ld (d := 46) (y := .tmp 45) (pend2 := fun x23 => [⟨9, 32, p22, c_api_Route.val x23⟩]) Ty32 (fun _ => rfl) (fun x23 => ?_)
      refine OJ.go 2 [(48, .int .i64 s2), (47, Sl.v a0)] <| OJ.idxS (d := 49) (T := 39) (y := .tmp 47) (j := .tmp 48) (E := 32) (cap := a0.cap) (k := .i64) (fun p24 => ?_)
      refine OJ.ld (d := 50) (y := .tmp 49) (pend2 := fun x25 => [⟨13, 32, p24, c_api_Route.val x25⟩, ⟨9, 32, p22, c_api_Route.val x23⟩]) Ty32 (fun _ => rfl) (fun x25 => ?_)
      refine OJ.idxS (d := 51) (T := 39) (y := .tmp 37) (j := .tmp 38) (E := 32) (cap := a0.cap) (k := .i64) (fun p26 => ?_)
      refine OJ.st (y := .tmp 51) (z := .tmp 46) (owed := []) Ty32 ?_
      refine OW.nil <| OJ.idxS (d := 52) (T := 39) (y := .tmp 39) (j := .tmp 41) (E := 32) (cap := a0.cap) (k := .i64) (fun p27 => ?_)
      refine OJ.st (y := .tmp 52) (z := .tmp 50) (owed := []) Ty32 ?_
      exact OW.nil <| OJ.nil <| SJ.inBlock <| SJ.rg 3 <| OJ.go 3 [(9, .int .i64 (IntKind.wrap .i64 (s2 - 1))), (36, .int .i64 (IntKind.wrap .i64 (s2 - 1))), (35, .int .i64 s2)] <| OJ.nil <| SJ.at_ [0, 1, 2, 3, 8, 9] rfl
    · exact SJ.exit (id := 2) (by rfl) <| SJ.inBlock <| SJ.rg 3 <| OJ.go 3 [(8, .int .i64 (IntKind.wrap .i64 (s1 + 1))), (16, .int .i64 (IntKind.wrap .i64 (s1 + 1))), (15, .int .i64 s1)] <| OJ.nil <| SJ.at_ [0, 1, 2, 3, 8] rfl
noncomputable def slices_insertionSortCmpFunc_api_Route.L1 (a0 : Sl) (a1 : Int) (a2 : Int) (a3 : api_Route → api_Route → M Int) (s1 : Int) : M (LS Int Unit) :=
  if s1 < a2 then
    loopM (fun s_ : Int => slices_insertionSortCmpFunc_api_Route.L2 a0 a1 a3 s1 s_) s1
  else
    pure (LS.done ())
theorem slices_insertionSortCmpFunc_api_Route.L1_ok (a0 : Sl) (a1 : Int) (a2 : Int) (a3v : Any) (a3 : api_Route → api_Route → M Int) (h_a3 : ∀ (x0_ : api_Route), ∀ (x1_ : api_Route), RefV Tryd.prog a3v.v [c_api_Route.val x0_, c_api_Route.val x1_] (a3 x0_ x1_) (fun r_ : Int => .int .i64 r_)) (s1 : Int) :
    SJ slices_insertionSortCmpFunc_api_Route.cx [.code (c1 (c1 (c2 slices_insertionSortCmpFunc_api_Route.B))), .inLoop (c1 (c1 (c2 slices_insertionSortCmpFunc_api_Route.B))), .inBlock 0] [(0, Sl.v a0), (1, .int .i64 a1), (2, .int .i64 a2), (3, a3v.v), (8, .int .i64 s1)] [] (slices_insertionSortCmpFunc_api_Route.L1 a0 a1 a2 a3 s1) (slices_insertionSortCmpFunc_api_Route.F1 a0 a1 a2 a3v) := by
  unfold slices_insertionSortCmpFunc_api_Route.L1
  refine SJ.seq <| SJ.sr 3 <| OJ.go 3 [(14, .bool (decide (s1 < a2))), (13, .int .i64 a2), (12, .int .i64 s1)] <| OJ.nil <| SJ.cond (t := (.tmp 14)) (b := decide (s1 < a2)) decide_eq_true_iff (fun hc29 => ?_) (fun hc29 => ?_)
  · exact SJ.skip <| SJ.seq <| SJ.block (id := 1) <| SJ.sr 2 <| OJ.go 2 [(9, .int .i64 s1), (17, .int .i64 s1)] <| OJ.nil <| SJ.block (id := 2) <| SJ.loop (fun s_ : Int => [(0, Sl.v a0), (1, .int .i64 a1), (2, .int .i64 a2), (3, a3v.v), (8, .int .i64 s1), (9, .int .i64 s_)]) (fun s_ : Int => []) [0, 1, 2, 3, 8, 9] rfl (fun _ _ => rfl) (fun s_ => slices_insertionSortCmpFunc_api_Route.L2_ok a0 a1 a2 a3v a3 h_a3 s1 s_)
  · exact SJ.exit (id := 0) (by rfl) <| SJ.end_ rfl (Res.run (ys := []) .nil rfl)
noncomputable def slices_insertionSortCmpFunc_api_Route (a0 : Sl) (a1 : Int) (a2 : Int) (a3 : api_Route → api_Route → M Int) : M Unit :=
  loopM (fun s_ : Int => slices_insertionSortCmpFunc_api_Route.L1 a0 a1 a2 a3 s_) (IntKind.wrap .i64 (a1 + 1))
theorem slices_insertionSortCmpFunc_api_Route_ok (a0 : Sl) (a1 : Int) (a2 : Int) (a3v : Any) (a3 : api_Route → api_Route → M Int) (h_a3 : ∀ (x0_ : api_Route), ∀ (x1_ : api_Route), RefV Tryd.prog a3v.v [c_api_Route.val x0_, c_api_Route.val x1_] (a3 x0_ x1_) (fun r_ : Int => .int .i64 r_)) : Ref Tryd.prog 70 [Sl.v a0, .int .i64 a1, .int .i64 a2, a3v.v] (slices_insertionSortCmpFunc_api_Route a0 a1 a2 a3) slices_insertionSortCmpFunc_api_Route.out := by
  refine Ref.of (cd := slices_insertionSortCmpFunc_api_Route.B) Tryd.func70 ?_
  show SJ slices_insertionSortCmpFunc_api_Route.cx [.code slices_insertionSortCmpFunc_api_Route.B] [(0, Sl.v a0), (1, .int .i64 a1), (2, .int .i64 a2), (3, a3v.v)] [] (slices_insertionSortCmpFunc_api_Route a0 a1 a2 a3) slices_insertionSortCmpFunc_api_Route.F0
  unfold slices_insertionSortCmpFunc_api_Route
  exact SJ.sr 3 <| OJ.go 3 [(8, .int .i64 (IntKind.wrap .i64 (a1 + 1))), (11, .int .i64 (IntKind.wrap .i64 (a1 + 1))), (10, .int .i64 a1)] <| OJ.nil <| SJ.block (id := 0) <| SJ.loop (fun s_ : Int => [(0, Sl.v a0), (1, .int .i64 a1), (2, .int .i64 a2), (3, a3v.v), (8, .int .i64 s_)]) (fun s_ : Int => []) [0, 1, 2, 3, 8] rfl (fun _ _ => rfl) (fun s_ => slices_insertionSortCmpFunc_api_Route.L1_ok a0 a1 a2 a3v a3 h_a3 s_)

/-! ### slices.siftDownCmpFunc[weir/api.Route]: function 85 -/
noncomputable def slices_siftDownCmpFunc_api_Route.B : Code := (Tryd.f85.body).getD .skip
noncomputable def slices_siftDownCmpFunc_api_Route.cx : Fx := ⟨Tryd.prog, 85, Tryd.f85, none⟩
noncomputable def slices_siftDownCmpFunc_api_Route.out (r_ : Unit) : Value := .tuple #[]
noncomputable def slices_siftDownCmpFunc_api_Route.F0 (r_ : Unit) : Reach := .ret (slices_siftDownCmpFunc_api_Route.out r_)
noncomputable def slices_siftDownCmpFunc_api_Route.F1 (a0 : Sl) (a2 : Int) (a3 : Int) (a4v : Any) : (LS Int Unit) → Reach := loopF [.inLoop (c1 (c1 (c2 slices_siftDownCmpFunc_api_Route.B))), .inBlock 0] (fun s_ : Int => [(0, Sl.v a0), (2, .int .i64 a2), (3, .int .i64 a3), (4, a4v.v), (10, .int .i64 s_)]) (fun s_ : Int => []) slices_siftDownCmpFunc_api_Route.F0
noncomputable def slices_siftDownCmpFunc_api_Route.K1 (a0 : Sl) (a3 : Int) (a4 : api_Route → api_Route → M Int) (s1 : Int) (j8 : Int) : M (LS Int Unit) :=
  draw >>= fun _ =>
  idx a0.a a0.len (IntKind.wrap .i64 (a3 + s1)) 36 >>= fun p9 =>
  ld c_api_Route p9 >>= fun x10 =>
  idx a0.a a0.len (IntKind.wrap .i64 (a3 + j8)) 36 >>= fun p11 =>
  ld c_api_Route p11 >>= fun x12 =>
  a4 x10 x12 >>= fun r13 =>
  if ¬ (r13 < 0) then
    pure (LS.done ())
  else
    draw >>= fun _ =>
    idx a0.a a0.len (IntKind.wrap .i64 (a3 + j8)) 36 >>= fun p14 =>
    ld c_api_Route p14 >>= fun x15 =>
    idx a0.a a0.len (IntKind.wrap .i64 (a3 + s1)) 36 >>= fun p16 =>
    ld c_api_Route p16 >>= fun x17 =>
    idx a0.a a0.len (IntKind.wrap .i64 (a3 + s1)) 36 >>= fun p18 =>
    st c_api_Route p18 x15 >>= fun _ =>
    idx a0.a a0.len (IntKind.wrap .i64 (a3 + j8)) 36 >>= fun p19 =>
    st c_api_Route p19 x17 >>= fun _ =>
    pure (LS.next j8)
theorem slices_siftDownCmpFunc_api_Route.K1_ok (a0 : Sl) (a2 : Int) (a3 : Int) (a4v : Any) (a4 : api_Route → api_Route → M Int) (h_a4 : ∀ (x0_ : api_Route), ∀ (x1_ : api_Route), RefV Tryd.prog a4v.v [c_api_Route.val x0_, c_api_Route.val x1_] (a4 x0_ x1_) (fun r_ : Int => .int .i64 r_)) (s1 : Int) (j8 : Int) :
    SJ slices_siftDownCmpFunc_api_Route.cx [.code (c2 (c2 (c2 (c1 (c1 (c1 (c2 slices_siftDownCmpFunc_api_Route.B))))))), .inBlock 1, .inLoop (c1 (c1 (c2 slices_siftDownCmpFunc_api_Route.B))), .inBlock 0] [(0, Sl.v a0), (2, .int .i64 a2), (3, .int .i64 a3), (4, a4v.v), (10, .int .i64 s1), (11, .int .i64 j8)] [] (slices_siftDownCmpFunc_api_Route.K1 a0 a3 a4 s1 j8) (slices_siftDownCmpFunc_api_Route.F1 a0 a2 a3 a4v) := by
  unfold slices_siftDownCmpFunc_api_Route.K1
  refine SJ.seq <| SJ.seq <| SJ.draw (id := 5) (kd := [0, 0, 0, 0, 0, 0, 1, 0, 0, 0, 0, 0, 1, 2, 0, 0]) (bef := [0, 0, 0, 0, 12, 30, 62, 0, 0, 0, 768, 1920, 3968, 8191, 16383, 32767]) (ord := [0, 1, 2, 3, 4, 5, 6, 7, 8, 9, 10, 11, 12, 13, 14, 15]) mixed ?_
  refine OJ.go 5 [(47, .int .i64 (IntKind.wrap .i64 (a3 + s1))), (46, .int .i64 s1), (45, .int .i64 a3), (44, Sl.v a0), (43, a4v.v)] <| OJ.idxS (d := 48) (T := 39) (y := .tmp 44) (j := .tmp 47) (E := 32) (cap := a0.cap) (k := .i64) (fun p9 => ?_)
  refine OJ.ld (d := 49) (y := .tmp 48) (pend2 := fun x10 => [⟨6, 32, p9, c_api_Route.val x10⟩]) Ty32 (fun _ => rfl) (fun x10 => ?_)
  refine OJ.go 4 [(53, .int .i64 (IntKind.wrap .i64 (a3 + j8))), (52, .int .i64 j8), (51, .int .i64 a3), (50, Sl.v a0)] <| OJ.idxS (d := 54) (T := 39) (y := .tmp 50) (j := .tmp 53) (E := 32) (cap := a0.cap) (k := .i64) (fun p11 => ?_)
  refine OJ.ld (d := 55) (y := .tmp 54) (pend2 := fun x12 => [⟨12, 32, p11, c_api_Route.val x12⟩, ⟨6, 32, p9, c_api_Route.val x10⟩]) Ty32 (fun _ => rfl) (fun x12 => ?_)
  refine OJ.callV1 (d := 56) (ats := #[32, 32]) (args := [.tmp 49, .tmp 55]) (fo := .tmp 43) (vals := [c_api_Route.val x10, c_api_Route.val x12]) (owed := []) (h_a4 x10 x12) (fun r13 => ?_)
  refine OW.nil <| OJ.go 2 [(58, .bool (!(decide (r13 < 0)))), (57, .bool (decide (r13 < 0)))] <| OJ.nil <| SJ.cond (t := (.tmp 58)) (b := (!(decide (r13 < 0)))) (bnot_iff decide_eq_true_iff) (fun hc20 => ?_) (fun hc20 => ?_)
  · exact SJ.ret rfl (Res.run (ys := []) .nil rfl)
  · refine SJ.skip <| SJ.seq <| SJ.draw (id := 6) (kd := [0, 0, 0, 0, 0, 0, 0, 0, 0, 0, 0, 0, 0, 1, 0, 0, 0, 0, 0, 1, 0, 2, 0, 2]) (bef := [0, 0, 0, 6, 0, 0, 0, 96, 0, 0, 0, 1536, 3840, 7936, 0, 0, 0, 98304, 245760, 507904, 1048335, 2096911, 4194303, 8388607]) (ord := [0, 1, 2, 3, 4, 5, 6, 7, 8, 9, 10, 11, 12, 13, 14, 15, 16, 17, 18, 19, 20, 21, 22, 23]) mixed ?_
    refine OJ.go 12 [(70, .int .i64 (IntKind.wrap .i64 (a3 + j8))), (69, .int .i64 j8), (68, .int .i64 a3), (67, Sl.v a0), (66, .int .i64 (IntKind.wrap .i64 (a3 + j8))), (65, .int .i64 j8), (64, .int .i64 a3), (63, Sl.v a0), (62, .int .i64 (IntKind.wrap .i64 (a3 + s1))), (61, .int .i64 s1), (60, .int .i64 a3), (59, Sl.v a0)] <| OJ.idxS (d := 71) (T := 39) (y := .tmp 67) (j := .tmp 70) (E := 32) (cap := a0.cap) (k := .i64) (fun p14 => ?_)
    refine OJ.ld (d := 72) (y := .tmp 71) (pend2 := fun x15 => [⟨13, 32, p14, c_api_Route.val x15⟩]) Ty32 (fun _ => rfl) (fun x15 => ?_)
    refine OJ.go 4 [(76, .int .i64 (IntKind.wrap .i64 (a3 + s1))), (75, .int .i64 s1), (74, .int .i64 a3), (73, Sl.v a0)] <| OJ.idxS (d := 77) (T := 39) (y := .tmp 73) (j := .tmp 76) (E := 32) (cap := a0.cap) (k := .i64) (fun p16 => ?_)
    refine OJ.ld (d := 78) (y := .tmp 77) (pend2 := fun x17 => [⟨19, 32, p16, c_api_Route.val x17⟩, ⟨13, 32, p14, c_api_Route.val x15⟩]) Ty32 (fun _ => rfl) (fun x17 => ?_)
    refine OJ.idxS (d := 79) (T := 39) (y := .tmp 59) (j := .tmp 62) (E := 32) (cap := a0.cap) (k := .i64) (fun p18 => ?_)
    refine OJ.st (y := .tmp 79) (z := .tmp 72) (owed := []) Ty32 ?_
    refine OW.nil <| OJ.idxS (d := 80) (T := 39) (y := .tmp 63) (j := .tmp 66) (E := 32) (cap := a0.cap) (k := .i64) (fun p19 => ?_)
    refine OJ.st (y := .tmp 80) (z := .tmp 78) (owed := []) Ty32 ?_
    exact OW.nil <| OJ.nil <| SJ.rg 2 <| OJ.go 2 [(10, .int .i64 j8), (81, .int .i64 j8)] <| OJ.nil <| SJ.inBlock <| SJ.at_ [0, 2, 3, 4, 10] rfl
noncomputable def slices_siftDownCmpFunc_api_Route.L1 (a0 : Sl) (a2 : Int) (a3 : Int) (a4 : api_Route → api_Route → M Int) (s1 : Int) : M (LS Int Unit) :=
  if (IntKind.wrap .i64 ((IntKind.wrap .i64 (2 * s1)) + 1)) ≥ a2 then
    pure (LS.done ())
  else
    draw >>= fun _ =>
    (if (IntKind.wrap .i64 ((IntKind.wrap .i64 ((IntKind.wrap .i64 (2 * s1)) + 1)) + 1)) < a2 then
        idx a0.a a0.len (IntKind.wrap .i64 (a3 + (IntKind.wrap .i64 ((IntKind.wrap .i64 (2 * s1)) + 1)))) 36 >>= fun p2 =>
        ld c_api_Route p2 >>= fun x3 =>
        idx a0.a a0.len (IntKind.wrap .i64 ((IntKind.wrap .i64 (a3 + (IntKind.wrap .i64 ((IntKind.wrap .i64 (2 * s1)) + 1)))) + 1)) 36 >>= fun p4 =>
        ld c_api_Route p4 >>= fun x5 =>
        a4 x3 x5 >>= fun r6 =>
        pure (decide (r6 < 0))
      else
        pure false) >>= fun y7 =>
    if y7 = true then
      slices_siftDownCmpFunc_api_Route.K1 a0 a3 a4 s1 (IntKind.wrap .i64 ((IntKind.wrap .i64 ((IntKind.wrap .i64 (2 * s1)) + 1)) + 1))
    else
      slices_siftDownCmpFunc_api_Route.K1 a0 a3 a4 s1 (IntKind.wrap .i64 ((IntKind.wrap .i64 (2 * s1)) + 1))
theorem slices_siftDownCmpFunc_api_Route.L1_ok (a0 : Sl) (a2 : Int) (a3 : Int) (a4v : Any) (a4 : api_Route → api_Route → M Int) (h_a4 : ∀ (x0_ : api_Route), ∀ (x1_ : api_Route), RefV Tryd.prog a4v.v [c_api_Route.val x0_, c_api_Route.val x1_] (a4 x0_ x1_) (fun r_ : Int => .int .i64 r_)) (s1 : Int) :
    SJ slices_siftDownCmpFunc_api_Route.cx [.code (c1 (c1 (c2 slices_siftDownCmpFunc_api_Route.B))), .inLoop (c1 (c1 (c2 slices_siftDownCmpFunc_api_Route.B))), .inBlock 0] [(0, Sl.v a0), (2, .int .i64 a2), (3, .int .i64 a3), (4, a4v.v), (10, .int .i64 s1)] [] (slices_siftDownCmpFunc_api_Route.L1 a0 a2 a3 a4 s1) (slices_siftDownCmpFunc_api_Route.F1 a0 a2 a3 a4v) := by
  unfold slices_siftDownCmpFunc_api_Route.L1
  refine SJ.block (id := 1) <| SJ.sr 4 <| OJ.go 4 [(11, .int .i64 (IntKind.wrap .i64 ((IntKind.wrap .i64 (2 * s1)) + 1))), (15, .int .i64 (IntKind.wrap .i64 ((IntKind.wrap .i64 (2 * s1)) + 1))), (14, .int .i64 (IntKind.wrap .i64 (2 * s1))), (13, .int .i64 s1)] <| OJ.nil <| SJ.seq <| SJ.sr 3 <| OJ.go 3 [(18, .bool (decide ((IntKind.wrap .i64 ((IntKind.wrap .i64 (2 * s1)) + 1)) ≥ a2))), (17, .int .i64 a2), (16, .int .i64 (IntKind.wrap .i64 ((IntKind.wrap .i64 (2 * s1)) + 1)))] <| OJ.nil <| SJ.cond (t := (.tmp 18)) (b := decide ((IntKind.wrap .i64 ((IntKind.wrap .i64 (2 * s1)) + 1)) ≥ a2)) decide_eq_true_iff (fun hc22 => ?_) (fun hc22 => ?_)
  · exact SJ.exit (id := 0) (by rfl) <| SJ.end_ rfl (Res.run (ys := []) .nil rfl)
  · refine SJ.skip <| SJ.seq <| SJ.seq <| SJ.draw (id := 3) (kd := [0, 0, 0, 0, 0, 0, 0, 0, 0, 0, 0, 1, 0, 0, 0, 0, 0, 0, 1, 2, 0, 0]) (bef := [0, 1, 0, 7, 15, 31, 31, 31, 31, 415, 991, 2015, 31, 31, 31, 24607, 57375, 127007, 258079, 524287, 1048575, 2097151]) (ord := [0, 1, 2, 3, 4, 5, 6, 7, 8, 9, 10, 11, 12, 13, 14, 15, 16, 17, 18, 19, 20, 21]) mixed ?_
    refine OJ.go 5 [(23, .bool (decide ((IntKind.wrap .i64 ((IntKind.wrap .i64 ((IntKind.wrap .i64 (2 * s1)) + 1)) + 1)) < a2))), (22, .bool (decide ((IntKind.wrap .i64 ((IntKind.wrap .i64 ((IntKind.wrap .i64 (2 * s1)) + 1)) + 1)) < a2))), (21, .int .i64 a2), (20, .int .i64 (IntKind.wrap .i64 ((IntKind.wrap .i64 ((IntKind.wrap .i64 (2 * s1)) + 1)) + 1))), (19, .int .i64 (IntKind.wrap .i64 ((IntKind.wrap .i64 (2 * s1)) + 1)))] <| OJ.join (b := decide ((IntKind.wrap .i64 ((IntKind.wrap .i64 ((IntKind.wrap .i64 (2 * s1)) + 1)) + 1)) < a2)) [5, 6, 7, 8, 9, 10, 11, 12, 13, 14, 15, 16, 17, 18, 19, 20, 21] [] [0, 2, 3, 4, 10, 11, 40] (fun y7 => [(0, Sl.v a0), (2, .int .i64 a2), (3, .int .i64 a3), (4, a4v.v), (10, .int .i64 s1), (11, .int .i64 (IntKind.wrap .i64 ((IntKind.wrap .i64 (2 * s1)) + 1))), (40, .bool y7)]) [] [11, 18] (t := 23) decide_eq_true_iff (fun hp_ => ?_) (fun hp_ => ?_) (fun _ _ _ _ _ _ h_ => h_) (fun y7 => ?_)
    · refine OJ.go 5 [(28, .int .i64 (IntKind.wrap .i64 (a3 + (IntKind.wrap .i64 ((IntKind.wrap .i64 (2 * s1)) + 1))))), (27, .int .i64 (IntKind.wrap .i64 ((IntKind.wrap .i64 (2 * s1)) + 1))), (26, .int .i64 a3), (25, Sl.v a0), (24, a4v.v)] <| OJ.idxS (d := 29) (T := 39) (y := .tmp 25) (j := .tmp 28) (E := 32) (cap := a0.cap) (k := .i64) (fun p2 => ?_)
      refine OJ.ld (d := 30) (y := .tmp 29) (pend2 := fun x3 => [⟨11, 32, p2, c_api_Route.val x3⟩]) Ty32 (fun _ => rfl) (fun x3 => ?_)
      refine OJ.go 5 [(35, .int .i64 (IntKind.wrap .i64 ((IntKind.wrap .i64 (a3 + (IntKind.wrap .i64 ((IntKind.wrap .i64 (2 * s1)) + 1)))) + 1))), (34, .int .i64 (IntKind.wrap .i64 (a3 + (IntKind.wrap .i64 ((IntKind.wrap .i64 (2 * s1)) + 1))))), (33, .int .i64 (IntKind.wrap .i64 ((IntKind.wrap .i64 (2 * s1)) + 1))), (32, .int .i64 a3), (31, Sl.v a0)] <| OJ.idxS (d := 36) (T := 39) (y := .tmp 31) (j := .tmp 35) (E := 32) (cap := a0.cap) (k := .i64) (fun p4 => ?_)
      refine OJ.ld (d := 37) (y := .tmp 36) (pend2 := fun x5 => [⟨18, 32, p4, c_api_Route.val x5⟩, ⟨11, 32, p2, c_api_Route.val x3⟩]) Ty32 (fun _ => rfl) (fun x5 => ?_)
      refine OJ.callV1 (d := 38) (ats := #[32, 32]) (args := [.tmp 30, .tmp 37]) (fo := .tmp 24) (vals := [c_api_Route.val x3, c_api_Route.val x5]) (owed := []) (h_a4 x3 x5) (fun r6 => ?_)
      exact OW.nil <| OJ.go 2 [(40, .bool (decide (r6 < 0))), (39, .bool (decide (r6 < 0)))] <| OJ.nil ⟨(Cov.mem (Cov.drop (List.mem_of_getElem? (i := 1) rfl) (Cov.drop (List.mem_of_getElem? (i := 0) rfl) Cov.nil))), rfl, _, rfl, by kernel_rfl⟩
    · exact OJ.go 17 [(40, .bool false), (39, undef), (38, undef), (37, undef), (36, undef), (35, undef), (34, undef), (33, undef), (32, undef), (31, undef), (30, undef), (29, undef), (28, undef), (27, undef), (26, undef), (25, undef), (24, undef)] <| OJ.x0
    · refine OJ.nil <| SJ.cond (t := (.tmp 40)) (b := y7) Iff.rfl (fun hc21 => ?_) (fun hc21 => ?_)
      · refine SJ.rg 3 <| OJ.go 3 [(11, .int .i64 (IntKind.wrap .i64 ((IntKind.wrap .i64 ((IntKind.wrap .i64 (2 * s1)) + 1)) + 1))), (42, .int .i64 (IntKind.wrap .i64 ((IntKind.wrap .i64 ((IntKind.wrap .i64 (2 * s1)) + 1)) + 1))), (41, .int .i64 (IntKind.wrap .i64 ((IntKind.wrap .i64 (2 * s1)) + 1)))] <| OJ.nil <| SJ.less [0, 2, 3, 4, 10, 11] (m' := [(0, Sl.v a0), (2, .int .i64 a2), (3, .int .i64 a3), (4, a4v.v), (10, .int .i64 s1), (11, .int .i64 (IntKind.wrap .i64 ((IntKind.wrap .i64 ((IntKind.wrap .i64 (2 * s1)) + 1)) + 1)))]) ?_
        exact slices_siftDownCmpFunc_api_Route.K1_ok a0 a2 a3 a4v a4 h_a4 s1 (IntKind.wrap .i64 ((IntKind.wrap .i64 ((IntKind.wrap .i64 (2 * s1)) + 1)) + 1))
      · refine SJ.skip <| SJ.less [0, 2, 3, 4, 10, 11] (m' := [(0, Sl.v a0), (2, .int .i64 a2), (3, .int .i64 a3), (4, a4v.v), (10, .int .i64 s1), (11, .int .i64 (IntKind.wrap .i64 ((IntKind.wrap .i64 (2 * s1)) + 1)))]) ?_
        exact slices_siftDownCmpFunc_api_Route.K1_ok a0 a2 a3 a4v a4 h_a4 s1 (IntKind.wrap .i64 ((IntKind.wrap .i64 (2 * s1)) + 1))
noncomputable def slices_siftDownCmpFunc_api_Route (a0 : Sl) (a1 : Int) (a2 : Int) (a3 : Int) (a4 : api_Route → api_Route → M Int) : M Unit :=
  loopM (fun s_ : Int => slices_siftDownCmpFunc_api_Route.L1 a0 a2 a3 a4 s_) a1
theorem slices_siftDownCmpFunc_api_Route_ok (a0 : Sl) (a1 : Int) (a2 : Int) (a3 : Int) (a4v : Any) (a4 : api_Route → api_Route → M Int) (h_a4 : ∀ (x0_ : api_Route), ∀ (x1_ : api_Route), RefV Tryd.prog a4v.v [c_api_Route.val x0_, c_api_Route.val x1_] (a4 x0_ x1_) (fun r_ : Int => .int .i64 r_)) : Ref Tryd.prog 85 [Sl.v a0, .int .i64 a1, .int .i64 a2, .int .i64 a3, a4v.v] (slices_siftDownCmpFunc_api_Route a0 a1 a2 a3 a4) slices_siftDownCmpFunc_api_Route.out := by
  refine Ref.of (cd := slices_siftDownCmpFunc_api_Route.B) Tryd.func85 ?_
  show SJ slices_siftDownCmpFunc_api_Route.cx [.code slices_siftDownCmpFunc_api_Route.B] [(0, Sl.v a0), (1, .int .i64 a1), (2, .int .i64 a2), (3, .int .i64 a3), (4, a4v.v)] [] (slices_siftDownCmpFunc_api_Route a0 a1 a2 a3 a4) slices_siftDownCmpFunc_api_Route.F0
  unfold slices_siftDownCmpFunc_api_Route
  exact SJ.sr 2 <| OJ.go 2 [(10, .int .i64 a1), (12, .int .i64 a1)] <| OJ.nil <| SJ.block (id := 0) <| SJ.loop (fun s_ : Int => [(0, Sl.v a0), (2, .int .i64 a2), (3, .int .i64 a3), (4, a4v.v), (10, .int .i64 s_)]) (fun s_ : Int => []) [0, 2, 3, 4, 10] rfl (fun _ _ => rfl) (fun s_ => slices_siftDownCmpFunc_api_Route.L1_ok a0 a2 a3 a4v a4 h_a4 s_)

/-! ### slices.heapSortCmpFunc[weir/api.Route]: function 71 -/
noncomputable def slices_heapSortCmpFunc_api_Route.B : Code := (Tryd.f71.body).getD .skip
noncomputable def slices_heapSortCmpFunc_api_Route.cx : Fx := ⟨Tryd.prog, 71, Tryd.f71, none⟩
noncomputable def slices_heapSortCmpFunc_api_Route.out (r_ : Unit) : Value := .tuple #[]
noncomputable def slices_heapSortCmpFunc_api_Route.F0 (r_ : Unit) : Reach := .ret (slices_heapSortCmpFunc_api_Route.out r_)
noncomputable def slices_heapSortCmpFunc_api_Route.F1 (a0 : Sl) (a1 : Int) (a3v : Any) : (LS Int Unit) → Reach := loopF [.inLoop (c1 (c1 (c2 (c2 (c2 (c2 (c2 slices_heapSortCmpFunc_api_Route.B))))))), .inBlock 2] (fun s_ : Int => [(0, Sl.v a0), (3, a3v.v), (8, .int .i64 a1), (9, .int .i64 0), (12, .int .i64 s_)]) (fun s_ : Int => []) slices_heapSortCmpFunc_api_Route.F0
noncomputable def slices_heapSortCmpFunc_api_Route.L1 (a0 : Sl) (a1 : Int) (a3 : api_Route → api_Route → M Int) (s4 : Int) : M (LS Int Unit) :=
  if s4 ≥ 0 then
    draw >>= fun _ =>
    idx a0.a a0.len (IntKind.wrap .i64 (a1 + s4)) 36 >>= fun p5 =>
    ld c_api_Route p5 >>= fun x6 =>
    idx a0.a a0.len a1 36 >>= fun p7 =>
    ld c_api_Route p7 >>= fun x8 =>
    idx a0.a a0.len a1 36 >>= fun p9 =>
    st c_api_Route p9 x6 >>= fun _ =>
    idx a0.a a0.len (IntKind.wrap .i64 (a1 + s4)) 36 >>= fun p10 =>
    st c_api_Route p10 x8 >>= fun _ =>
    slices_siftDownCmpFunc_api_Route a0 0 s4 a1 a3 >>= fun r11 =>
    pure (LS.next (IntKind.wrap .i64 (s4 - 1)))
  else
    pure (LS.done ())
theorem slices_heapSortCmpFunc_api_Route.L1_ok (a0 : Sl) (a1 : Int) (a3v : Any) (a3 : api_Route → api_Route → M Int) (h_a3 : ∀ (x0_ : api_Route), ∀ (x1_ : api_Route), RefV Tryd.prog a3v.v [c_api_Route.val x0_, c_api_Route.val x1_] (a3 x0_ x1_) (fun r_ : Int => .int .i64 r_)) (s4 : Int) :
    SJ slices_heapSortCmpFunc_api_Route.cx [.code (c1 (c1 (c2 (c2 (c2 (c2 (c2 slices_heapSortCmpFunc_api_Route.B))))))), .inLoop (c1 (c1 (c2 (c2 (c2 (c2 (c2 slices_heapSortCmpFunc_api_Route.B))))))), .inBlock 2] [(0, Sl.v a0), (3, a3v.v), (8, .int .i64 a1), (9, .int .i64 0), (12, .int .i64 s4)] [] (slices_heapSortCmpFunc_api_Route.L1 a0 a1 a3 s4) (slices_heapSortCmpFunc_api_Route.F1 a0 a1 a3v) := by
  unfold slices_heapSortCmpFunc_api_Route.L1
  refine SJ.seq <| SJ.sr 2 <| OJ.go 2 [(33, .bool (decide (s4 ≥ 0))), (32, .int .i64 s4)] <| OJ.nil <| SJ.cond (t := (.tmp 33)) (b := decide (s4 ≥ 0)) decide_eq_true_iff (fun hc12 => ?_) (fun hc12 => ?_)
  · refine SJ.skip <| SJ.seq <| SJ.block (id := 3) <| SJ.seq <| SJ.draw (id := 10) (kd := [0, 0, 0, 0, 0, 0, 0, 0, 0, 0, 0, 1, 0, 0, 0, 1, 0, 2, 0, 2]) (bef := [0, 0, 0, 0, 0, 24, 0, 0, 0, 384, 960, 1984, 0, 0, 12288, 28672, 65475, 131011, 262143, 524287]) (ord := [0, 1, 2, 3, 4, 5, 6, 7, 8, 9, 10, 11, 12, 13, 14, 15, 16, 17, 18, 19]) mixed ?_
    refine OJ.go 10 [(45, .int .i64 (IntKind.wrap .i64 (a1 + s4))), (44, .int .i64 s4), (43, .int .i64 a1), (42, Sl.v a0), (41, .int .i64 (IntKind.wrap .i64 (a1 + s4))), (40, .int .i64 s4), (39, .int .i64 a1), (38, Sl.v a0), (37, .int .i64 a1), (36, Sl.v a0)] <| OJ.idxS (d := 46) (T := 39) (y := .tmp 42) (j := .tmp 45) (E := 32) (cap := a0.cap) (k := .i64) (fun p5 => ?_)
    refine OJ.ld (d := 47) (y := .tmp 46) (pend2 := fun x6 => [⟨11, 32, p5, c_api_Route.val x6⟩]) Ty32 (fun _ => rfl) (fun x6 => ?_)
    refine OJ.go 2 [(49, .int .i64 a1), (48, Sl.v a0)] <| OJ.idxS (d := 50) (T := 39) (y := .tmp 48) (j := .tmp 49) (E := 32) (cap := a0.cap) (k := .i64) (fun p7 => ?_)
    refine OJ.ld (d := 51) (y := .tmp 50) (pend2 := fun x8 => [⟨15, 32, p7, c_api_Route.val x8⟩, ⟨11, 32, p5, c_api_Route.val x6⟩]) Ty32 (fun _ => rfl) (fun x8 => ?_)
    refine OJ.idxS (d := 52) (T := 39) (y := .tmp 36) (j := .tmp 37) (E := 32) (cap := a0.cap) (k := .i64) (fun p9 => ?_)
    refine OJ.st (y := .tmp 52) (z := .tmp 47) (owed := []) Ty32 ?_
    refine OW.nil <| OJ.idxS (d := 53) (T := 39) (y := .tmp 38) (j := .tmp 41) (E := 32) (cap := a0.cap) (k := .i64) (fun p10 => ?_)
    refine OJ.st (y := .tmp 53) (z := .tmp 51) (owed := []) Ty32 ?_
    refine OW.nil <| OJ.nil <| SJ.rg 6 <| OJ.go 5 [(58, a3v.v), (57, .int .i64 a1), (56, .int .i64 s4), (55, .int .i64 0), (54, Sl.v a0)] <| OJ.call (d := 59) (g := 85) (ats := #[39, 3, 3, 3, 97]) (args := [.tmp 54, .tmp 55, .tmp 56, .tmp 57, .tmp 58]) (owed := []) F85 (slices_siftDownCmpFunc_api_Route_ok a0 0 s4 a1 a3v a3 h_a3) (fun r11 => ?_)
    exact OW.nil <| OJ.nil <| SJ.inBlock <| SJ.rg 3 <| OJ.go 3 [(12, .int .i64 (IntKind.wrap .i64 (s4 - 1))), (35, .int .i64 (IntKind.wrap .i64 (s4 - 1))), (34, .int .i64 s4)] <| OJ.nil <| SJ.at_ [0, 3, 8, 9, 12] rfl
  · exact SJ.exit (id := 2) (by rfl) <| SJ.end_ rfl (Res.run (ys := []) .nil rfl)
noncomputable def slices_heapSortCmpFunc_api_Route.K1 (a0 : Sl) (a1 : Int) (a2 : Int) (a3 : api_Route → api_Route → M Int) : M Unit :=
  loopM (fun s_ : Int => slices_heapSortCmpFunc_api_Route.L1 a0 a1 a3 s_) (IntKind.wrap .i64 ((IntKind.wrap .i64 (a2 - a1)) - 1))
theorem slices_heapSortCmpFunc_api_Route.K1_ok (a0 : Sl) (a1 : Int) (a2 : Int) (a3v : Any) (a3 : api_Route → api_Route → M Int) (h_a3 : ∀ (x0_ : api_Route), ∀ (x1_ : api_Route), RefV Tryd.prog a3v.v [c_api_Route.val x0_, c_api_Route.val x1_] (a3 x0_ x1_) (fun r_ : Int => .int .i64 r_)) :
    SJ slices_heapSortCmpFunc_api_Route.cx [.code (c2 (c2 (c2 (c2 slices_heapSortCmpFunc_api_Route.B))))] [(0, Sl.v a0), (3, a3v.v), (8, .int .i64 a1), (9, .int .i64 0), (10, .int .i64 (IntKind.wrap .i64 (a2 - a1)))] [] (slices_heapSortCmpFunc_api_Route.K1 a0 a1 a2 a3) slices_heapSortCmpFunc_api_Route.F0 := by
  unfold slices_heapSortCmpFunc_api_Route.K1
  exact SJ.sr 3 <| OJ.go 3 [(12, .int .i64 (IntKind.wrap .i64 ((IntKind.wrap .i64 (a2 - a1)) - 1))), (31, .int .i64 (IntKind.wrap .i64 ((IntKind.wrap .i64 (a2 - a1)) - 1))), (30, .int .i64 (IntKind.wrap .i64 (a2 - a1)))] <| OJ.nil <| SJ.block (id := 2) <| SJ.loop (fun s_ : Int => [(0, Sl.v a0), (3, a3v.v), (8, .int .i64 a1), (9, .int .i64 0), (12, .int .i64 s_)]) (fun s_ : Int => []) [0, 3, 8, 9, 12] rfl (fun _ _ => rfl) (fun s_ => slices_heapSortCmpFunc_api_Route.L1_ok a0 a1 a3v a3 h_a3 s_)
noncomputable def slices_heapSortCmpFunc_api_Route.F2 (a0 : Sl) (a1 : Int) (a2 : Int) (a3v : Any) : (LS Int Unit) → Reach := loopF [.inLoop (c1 (c1 (c2 (c1 (c2 (c2 (c2 slices_heapSortCmpFunc_api_Route.B))))))), .inBlock 0, .code (c2 (c2 (c2 (c2 slices_heapSortCmpFunc_api_Route.B))))] (fun s_ : Int => [(0, Sl.v a0), (3, a3v.v), (8, .int .i64 a1), (9, .int .i64 0), (10, .int .i64 (IntKind.wrap .i64 (a2 - a1))), (11, .int .i64 s_)]) (fun s_ : Int => []) slices_heapSortCmpFunc_api_Route.F0
noncomputable def slices_heapSortCmpFunc_api_Route.L2 (a0 : Sl) (a1 : Int) (a2 : Int) (a3 : api_Route → api_Route → M Int) (s1 : Int) : M (LS Int Unit) :=
  if s1 ≥ 0 then
    slices_siftDownCmpFunc_api_Route a0 s1 (IntKind.wrap .i64 (a2 - a1)) a1 a3 >>= fun r13 =>
    pure (LS.next (IntKind.wrap .i64 (s1 - 1)))
  else
    (slices_heapSortCmpFunc_api_Route.K1 a0 a1 a2 a3) >>= fun b => pure (LS.done b)
theorem slices_heapSortCmpFunc_api_Route.L2_ok (a0 : Sl) (a1 : Int) (a2 : Int) (a3v : Any) (a3 : api_Route → api_Route → M Int) (h_a3 : ∀ (x0_ : api_Route), ∀ (x1_ : api_Route), RefV Tryd.prog a3v.v [c_api_Route.val x0_, c_api_Route.val x1_] (a3 x0_ x1_) (fun r_ : Int => .int .i64 r_)) (s1 : Int) :
    SJ slices_heapSortCmpFunc_api_Route.cx [.code (c1 (c1 (c2 (c1 (c2 (c2 (c2 slices_heapSortCmpFunc_api_Route.B))))))), .inLoop (c1 (c1 (c2 (c1 (c2 (c2 (c2 slices_heapSortCmpFunc_api_Route.B))))))), .inBlock 0, .code (c2 (c2 (c2 (c2 slices_heapSortCmpFunc_api_Route.B))))] [(0, Sl.v a0), (3, a3v.v), (8, .int .i64 a1), (9, .int .i64 0), (10, .int .i64 (IntKind.wrap .i64 (a2 - a1))), (11, .int .i64 s1)] [] (slices_heapSortCmpFunc_api_Route.L2 a0 a1 a2 a3 s1) (slices_heapSortCmpFunc_api_Route.F2 a0 a1 a2 a3v) := by
  unfold slices_heapSortCmpFunc_api_Route.L2
  refine SJ.seq <| SJ.sr 2 <| OJ.go 2 [(21, .bool (decide (s1 ≥ 0))), (20, .int .i64 s1)] <| OJ.nil <| SJ.cond (t := (.tmp 21)) (b := decide (s1 ≥ 0)) decide_eq_true_iff (fun hc14 => ?_) (fun hc14 => ?_)
  · refine SJ.skip <| SJ.seq <| SJ.block (id := 1) <| SJ.rg 6 <| OJ.go 5 [(28, a3v.v), (27, .int .i64 a1), (26, .int .i64 (IntKind.wrap .i64 (a2 - a1))), (25, .int .i64 s1), (24, Sl.v a0)] <| OJ.call (d := 29) (g := 85) (ats := #[39, 3, 3, 3, 97]) (args := [.tmp 24, .tmp 25, .tmp 26, .tmp 27, .tmp 28]) (owed := []) F85 (slices_siftDownCmpFunc_api_Route_ok a0 s1 (IntKind.wrap .i64 (a2 - a1)) a1 a3v a3 h_a3) (fun r13 => ?_)
    exact OW.nil <| OJ.nil <| SJ.inBlock <| SJ.rg 3 <| OJ.go 3 [(11, .int .i64 (IntKind.wrap .i64 (s1 - 1))), (23, .int .i64 (IntKind.wrap .i64 (s1 - 1))), (22, .int .i64 s1)] <| OJ.nil <| SJ.at_ [0, 3, 8, 9, 10, 11] rfl
  · refine SJ.exit (id := 0) (by rfl) <| SJ.less [0, 3, 8, 9, 10] (m' := [(0, Sl.v a0), (3, a3v.v), (8, .int .i64 a1), (9, .int .i64 0), (10, .int .i64 (IntKind.wrap .i64 (a2 - a1)))]) ?_
    refine SJ.done ?_
    exact slices_heapSortCmpFunc_api_Route.K1_ok a0 a1 a2 a3v a3 h_a3
noncomputable def slices_heapSortCmpFunc_api_Route (a0 : Sl) (a1 : Int) (a2 : Int) (a3 : api_Route → api_Route → M Int) : M Unit :=
  loopM (fun s_ : Int => slices_heapSortCmpFunc_api_Route.L2 a0 a1 a2 a3 s_) (IntKind.wrap .i64 (Int.tdiv (IntKind.wrap .i64 ((IntKind.wrap .i64 (a2 - a1)) - 1)) 2))
theorem slices_heapSortCmpFunc_api_Route_ok (a0 : Sl) (a1 : Int) (a2 : Int) (a3v : Any) (a3 : api_Route → api_Route → M Int) (h_a3 : ∀ (x0_ : api_Route), ∀ (x1_ : api_Route), RefV Tryd.prog a3v.v [c_api_Route.val x0_, c_api_Route.val x1_] (a3 x0_ x1_) (fun r_ : Int => .int .i64 r_)) : Ref Tryd.prog 71 [Sl.v a0, .int .i64 a1, .int .i64 a2, a3v.v] (slices_heapSortCmpFunc_api_Route a0 a1 a2 a3) slices_heapSortCmpFunc_api_Route.out := by
  refine Ref.of (cd := slices_heapSortCmpFunc_api_Route.B) Tryd.func71 ?_
  show SJ slices_heapSortCmpFunc_api_Route.cx [.code slices_heapSortCmpFunc_api_Route.B] [(0, Sl.v a0), (1, .int .i64 a1), (2, .int .i64 a2), (3, a3v.v)] [] (slices_heapSortCmpFunc_api_Route a0 a1 a2 a3) slices_heapSortCmpFunc_api_Route.F0
  unfold slices_heapSortCmpFunc_api_Route
  exact SJ.sr 2 <| OJ.go 2 [(8, .int .i64 a1), (13, .int .i64 a1)] <| OJ.nil <| SJ.sr 1 <| OJ.go 1 [(9, .int .i64 0)] <| OJ.nil <| SJ.sr 4 <| OJ.go 4 [(10, .int .i64 (IntKind.wrap .i64 (a2 - a1))), (16, .int .i64 (IntKind.wrap .i64 (a2 - a1))), (15, .int .i64 a1), (14, .int .i64 a2)] <| OJ.nil <| SJ.seq <| SJ.sr 4 <| OJ.go 4 [(11, .int .i64 (IntKind.wrap .i64 (Int.tdiv (IntKind.wrap .i64 ((IntKind.wrap .i64 (a2 - a1)) - 1)) 2))), (19, .int .i64 (IntKind.wrap .i64 (Int.tdiv (IntKind.wrap .i64 ((IntKind.wrap .i64 (a2 - a1)) - 1)) 2))), (18, .int .i64 (IntKind.wrap .i64 ((IntKind.wrap .i64 (a2 - a1)) - 1))), (17, .int .i64 (IntKind.wrap .i64 (a2 - a1)))] <| OJ.nil <| SJ.block (id := 0) <| SJ.loop (fun s_ : Int => [(0, Sl.v a0), (3, a3v.v), (8, .int .i64 a1), (9, .int .i64 0), (10, .int .i64 (IntKind.wrap .i64 (a2 - a1))), (11, .int .i64 s_)]) (fun s_ : Int => []) [0, 3, 8, 9, 10, 11] rfl (fun _ _ => rfl) (fun s_ => slices_heapSortCmpFunc_api_Route.L2_ok a0 a1 a2 a3v a3 h_a3 s_)

/-! ### slices.nextPowerOfTwo: function 86 -/
noncomputable def slices_nextPowerOfTwo.B : Code := (Tryd.f86.body).getD .skip
noncomputable def slices_nextPowerOfTwo.cx : Fx := ⟨Tryd.prog, 86, Tryd.f86, none⟩
noncomputable def slices_nextPowerOfTwo.out (r_ : Int) : Value := .int .u64 r_
noncomputable def slices_nextPowerOfTwo.F0 (r_ : Int) : Reach := .ret (slices_nextPowerOfTwo.out r_)
noncomputable def slices_nextPowerOfTwo (a0 : Int) : M Int :=
  bits_Len (IntKind.wrap .u64 a0) >>= fun r1 =>
  chk (0 ≤ r1) >>= fun _ =>
  pure (IntKind.wrap .u64 (1 * 2 ^ min (Int.toNat r1) 64))
theorem slices_nextPowerOfTwo_ok (a0 : Int) : Ref Tryd.prog 86 [.int .i64 a0] (slices_nextPowerOfTwo a0) slices_nextPowerOfTwo.out := by
  refine Ref.of (cd := slices_nextPowerOfTwo.B) Tryd.func86 ?_
  show SJ slices_nextPowerOfTwo.cx [.code slices_nextPowerOfTwo.B] [(0, .int .i64 a0)] [] (slices_nextPowerOfTwo a0) slices_nextPowerOfTwo.F0
  unfold slices_nextPowerOfTwo
  refine SJ.sr 1 <| OJ.go 1 [(2, .int .u64 0)] <| OJ.nil <| SJ.sr 5 <| OJ.go 2 [(4, .int .u64 (IntKind.wrap .u64 a0)), (3, .int .i64 a0)] <| OJ.call (d := 5) (g := 66) (ats := #[108]) (args := [.tmp 4]) (owed := []) F66 (bits_Len_ok (IntKind.wrap .u64 a0)) (fun r1 => ?_)
  refine OW.nil <| OJ.shl (d := 6) (T := 108) (yT := 3) (y := .const (.int .u64 1)) (z := .tmp 5) (k := .u64) (yk := .i64) (p := 1) (q := r1) (fun hq2 => ?_)
  exact OJ.go 1 [(2, .int .u64 (IntKind.wrap .u64 (1 * 2 ^ min (Int.toNat r1) 64)))] <| OJ.nil <| SJ.r1 (.int .u64 (IntKind.wrap .u64 (1 * 2 ^ min (Int.toNat r1) 64))) rfl rfl

/-! ### (*slices.xorshift).Next: function 87 -/
noncomputable def slices_xorshift_Next.B : Code := (Tryd.f87.body).getD .skip
noncomputable def slices_xorshift_Next.cx : Fx := ⟨Tryd.prog, 87, Tryd.f87, none⟩
noncomputable def slices_xorshift_Next.out (r_ : Int) : Value := .int .u64 r_
noncomputable def slices_xorshift_Next.F0 (r_ : Int) : Reach := .ret (slices_xorshift_Next.out r_)
noncomputable def slices_xorshift_Next (a0 : (Option Addr)) : M Int :=
  draw >>= fun _ =>
  nilck a0 >>= fun p1 =>
  ld (cI .u64) p1 >>= fun x2 =>
  nilck a0 >>= fun p3 =>
  ld (cI .u64) p3 >>= fun x4 =>
  nilck a0 >>= fun p5 =>
  st (cI .u64) p5 (bxor .u64 x2 (IntKind.wrap .u64 (x4 * 2 ^ 13))) >>= fun _ =>
  draw >>= fun _ =>
  nilck a0 >>= fun p6 =>
  ld (cI .u64) p6 >>= fun x7 =>
  nilck a0 >>= fun p8 =>
  ld (cI .u64) p8 >>= fun x9 =>
  nilck a0 >>= fun p10 =>
  st (cI .u64) p10 (bxor .u64 x7 (Int.fdiv x9 (2 ^ 7))) >>= fun _ =>
  draw >>= fun _ =>
  nilck a0 >>= fun p11 =>
  ld (cI .u64) p11 >>= fun x12 =>
  nilck a0 >>= fun p13 =>
  ld (cI .u64) p13 >>= fun x14 =>
  nilck a0 >>= fun p15 =>
  st (cI .u64) p15 (bxor .u64 x12 (IntKind.wrap .u64 (x14 * 2 ^ 17))) >>= fun _ =>
  nilck a0 >>= fun p16 =>
  ld (cI .u64) p16 >>= fun x17 =>
  pure x17
theorem slices_xorshift_Next_ok (a0 : (Option Addr)) : Ref Tryd.prog 87 [.pointer a0] (slices_xorshift_Next a0) slices_xorshift_Next.out := by
  refine Ref.of (cd := slices_xorshift_Next.B) Tryd.func87 ?_
  show SJ slices_xorshift_Next.cx [.code slices_xorshift_Next.B] [(0, .pointer a0)] [] (slices_xorshift_Next a0) slices_xorshift_Next.F0
  unfold slices_xorshift_Next
  refine SJ.sr 1 <| OJ.go 1 [(2, .int .u64 0)] <| OJ.nil <| SJ.seq <| SJ.draw (id := 1) (kd := [0, 0, 1, 0, 0, 1, 0, 0, 0, 2]) (bef := [0, 1, 3, 0, 8, 24, 56, 127, 255, 511]) (ord := [0, 1, 2, 3, 4, 5, 6, 7, 8, 9]) mixed ?_
  refine OJ.go 1 [(3, .pointer a0)] <| OJ.nilck (d := 4) (y := .tmp 3) (fun p1 => ?_)
  refine OJ.ld (d := 5) (y := .tmp 4) (pend2 := fun x2 => [⟨2, 141, p1, (cI .u64).val x2⟩]) Ty141 (fun _ => rfl) (fun x2 => ?_)
  refine OJ.go 1 [(6, .pointer a0)] <| OJ.nilck (d := 7) (y := .tmp 6) (fun p3 => ?_)
  refine OJ.ld (d := 8) (y := .tmp 7) (pend2 := fun x4 => [⟨5, 141, p3, (cI .u64).val x4⟩, ⟨2, 141, p1, (cI .u64).val x2⟩]) Ty141 (fun _ => rfl) (fun x4 => ?_)
  refine OJ.go 2 [(10, .int .u64 (bxor .u64 x2 (IntKind.wrap .u64 (x4 * 2 ^ 13)))), (9, .int .u64 (IntKind.wrap .u64 (x4 * 2 ^ 13)))] <| OJ.nilck (d := 11) (y := .tmp 3) (fun p5 => ?_)
  refine OJ.st (y := .tmp 11) (z := .tmp 10) (owed := []) Ty141 ?_
  refine OW.nil <| OJ.nil <| SJ.seq <| SJ.draw (id := 2) (kd := [0, 0, 1, 0, 0, 1, 0, 0, 0, 2]) (bef := [0, 1, 3, 0, 8, 24, 56, 127, 255, 511]) (ord := [0, 1, 2, 3, 4, 5, 6, 7, 8, 9]) mixed ?_
  refine OJ.go 1 [(12, .pointer a0)] <| OJ.nilck (d := 13) (y := .tmp 12) (fun p6 => ?_)
  refine OJ.ld (d := 14) (y := .tmp 13) (pend2 := fun x7 => [⟨2, 141, p6, (cI .u64).val x7⟩]) Ty141 (fun _ => rfl) (fun x7 => ?_)
  refine OJ.go 1 [(15, .pointer a0)] <| OJ.nilck (d := 16) (y := .tmp 15) (fun p8 => ?_)
  refine OJ.ld (d := 17) (y := .tmp 16) (pend2 := fun x9 => [⟨5, 141, p8, (cI .u64).val x9⟩, ⟨2, 141, p6, (cI .u64).val x7⟩]) Ty141 (fun _ => rfl) (fun x9 => ?_)
  refine OJ.go 2 [(19, .int .u64 (bxor .u64 x7 (Int.fdiv x9 (2 ^ 7)))), (18, .int .u64 (Int.fdiv x9 (2 ^ 7)))] <| OJ.nilck (d := 20) (y := .tmp 12) (fun p10 => ?_)
  refine OJ.st (y := .tmp 20) (z := .tmp 19) (owed := []) Ty141 ?_
  refine OW.nil <| OJ.nil <| SJ.seq <| SJ.draw (id := 3) (kd := [0, 0, 1, 0, 0, 1, 0, 0, 0, 2]) (bef := [0, 1, 3, 0, 8, 24, 56, 127, 255, 511]) (ord := [0, 1, 2, 3, 4, 5, 6, 7, 8, 9]) mixed ?_
  refine OJ.go 1 [(21, .pointer a0)] <| OJ.nilck (d := 22) (y := .tmp 21) (fun p11 => ?_)
  refine OJ.ld (d := 23) (y := .tmp 22) (pend2 := fun x12 => [⟨2, 141, p11, (cI .u64).val x12⟩]) Ty141 (fun _ => rfl) (fun x12 => ?_)
  refine OJ.go 1 [(24, .pointer a0)] <| OJ.nilck (d := 25) (y := .tmp 24) (fun p13 => ?_)
  refine OJ.ld (d := 26) (y := .tmp 25) (pend2 := fun x14 => [⟨5, 141, p13, (cI .u64).val x14⟩, ⟨2, 141, p11, (cI .u64).val x12⟩]) Ty141 (fun _ => rfl) (fun x14 => ?_)
  refine OJ.go 2 [(28, .int .u64 (bxor .u64 x12 (IntKind.wrap .u64 (x14 * 2 ^ 17)))), (27, .int .u64 (IntKind.wrap .u64 (x14 * 2 ^ 17)))] <| OJ.nilck (d := 29) (y := .tmp 21) (fun p15 => ?_)
  refine OJ.st (y := .tmp 29) (z := .tmp 28) (owed := []) Ty141 ?_
  refine OW.nil <| OJ.nil <| SJ.sr 4 <| OJ.go 1 [(30, .pointer a0)] <| OJ.nilck (d := 31) (y := .tmp 30) (fun p16 => ?_)
  refine OJ.ld (d := 32) (y := .tmp 31) (pend2 := fun x17 => []) Ty141 (fun _ => rfl) (fun x17 => ?_)
  exact OJ.go 1 [(2, .int .u64 x17)] <| OJ.nil <| SJ.r1 (.int .u64 x17) rfl rfl

/-! ### slices.breakPatternsCmpFunc[weir/api.Route]: function 72 -/
noncomputable def slices_breakPatternsCmpFunc_api_Route.B : Code := (Tryd.f72.body).getD .skip
noncomputable def slices_breakPatternsCmpFunc_api_Route.cx : Fx := ⟨Tryd.prog, 72, Tryd.f72, none⟩
noncomputable def slices_breakPatternsCmpFunc_api_Route.out (r_ : Unit) : Value := .tuple #[]
noncomputable def slices_breakPatternsCmpFunc_api_Route.F0 (r_ : Unit) : Reach := .ret (slices_breakPatternsCmpFunc_api_Route.out r_)
noncomputable def slices_breakPatternsCmpFunc_api_Route.F1 (a0 : Sl) (a1 : Int) (a2 : Int) (b24 : Nat) (r25 : Int) : (LS Int Unit) → Reach := loopF [.inLoop (c1 (c1 (c2 (c2 (c2 (c1 (c2 (c2 slices_breakPatternsCmpFunc_api_Route.B)))))))), .inBlock 0] (fun s_ : Int => [(0, Sl.v a0), (1, .int .i64 a1), (8, .int .i64 (IntKind.wrap .i64 (a2 - a1))), (9, .pointer (some (pt b24 0))), (10, .int .u64 r25), (11, .int .i64 s_)]) (fun s_ : Int => []) slices_breakPatternsCmpFunc_api_Route.F0
noncomputable def slices_breakPatternsCmpFunc_api_Route.K1 (a0 : Sl) (a1 : Int) (s26 : Int) (j38 : Int) : M (LS Int Unit) :=
  draw >>= fun _ =>
  idx a0.a a0.len (IntKind.wrap .i64 (a1 + j38)) 36 >>= fun p39 =>
  ld c_api_Route p39 >>= fun x40 =>
  idx a0.a a0.len s26 36 >>= fun p41 =>
  ld c_api_Route p41 >>= fun x42 =>
  idx a0.a a0.len s26 36 >>= fun p43 =>
  st c_api_Route p43 x40 >>= fun _ =>
  idx a0.a a0.len (IntKind.wrap .i64 (a1 + j38)) 36 >>= fun p44 =>
  st c_api_Route p44 x42 >>= fun _ =>
  pure (LS.next (IntKind.wrap .i64 (s26 + 1)))
theorem slices_breakPatternsCmpFunc_api_Route.K1_ok (a0 : Sl) (a1 : Int) (a2 : Int) (b24 : Nat) (r25 : Int) (s26 : Int) (j38 : Int) :
    SJ slices_breakPatternsCmpFunc_api_Route.cx [.code (c2 (c2 (c1 (c1 (c2 (c1 (c1 (c2 (c2 (c2 (c1 (c2 (c2 slices_breakPatternsCmpFunc_api_Route.B))))))))))))), .inBlock 1, .code (c2 (c2 (c1 (c1 (c2 (c2 (c2 (c1 (c2 (c2 slices_breakPatternsCmpFunc_api_Route.B)))))))))), .inLoop (c1 (c1 (c2 (c2 (c2 (c1 (c2 (c2 slices_breakPatternsCmpFunc_api_Route.B)))))))), .inBlock 0] [(0, Sl.v a0), (1, .int .i64 a1), (8, .int .i64 (IntKind.wrap .i64 (a2 - a1))), (9, .pointer (some (pt b24 0))), (10, .int .u64 r25), (11, .int .i64 s26), (12, .int .i64 j38)] [] (slices_breakPatternsCmpFunc_api_Route.K1 a0 a1 s26 j38) (slices_breakPatternsCmpFunc_api_Route.F1 a0 a1 a2 b24 r25) := by
  unfold slices_breakPatternsCmpFunc_api_Route.K1
  refine SJ.draw (id := 10) (kd := [0, 0, 0, 0, 0, 0, 0, 0, 0, 0, 0, 1, 0, 0, 0, 1, 0, 2, 0, 2]) (bef := [0, 0, 0, 0, 0, 24, 0, 0, 0, 384, 960, 1984, 0, 0, 12288, 28672, 65475, 131011, 262143, 524287]) (ord := [0, 1, 2, 3, 4, 5, 6, 7, 8, 9, 10, 11, 12, 13, 14, 15, 16, 17, 18, 19]) mixed ?_
  refine OJ.go 10 [(58, .int .i64 (IntKind.wrap .i64 (a1 + j38))), (57, .int .i64 j38), (56, .int .i64 a1), (55, Sl.v a0), (54, .int .i64 (IntKind.wrap .i64 (a1 + j38))), (53, .int .i64 j38), (52, .int .i64 a1), (51, Sl.v a0), (50, .int .i64 s26), (49, Sl.v a0)] <| OJ.idxS (d := 59) (T := 39) (y := .tmp 55) (j := .tmp 58) (E := 32) (cap := a0.cap) (k := .i64) (fun p39 => ?_)
  refine OJ.ld (d := 60) (y := .tmp 59) (pend2 := fun x40 => [⟨11, 32, p39, c_api_Route.val x40⟩]) Ty32 (fun _ => rfl) (fun x40 => ?_)
  refine OJ.go 2 [(62, .int .i64 s26), (61, Sl.v a0)] <| OJ.idxS (d := 63) (T := 39) (y := .tmp 61) (j := .tmp 62) (E := 32) (cap := a0.cap) (k := .i64) (fun p41 => ?_)
  refine OJ.ld (d := 64) (y := .tmp 63) (pend2 := fun x42 => [⟨15, 32, p41, c_api_Route.val x42⟩, ⟨11, 32, p39, c_api_Route.val x40⟩]) Ty32 (fun _ => rfl) (fun x42 => ?_)
  refine OJ.idxS (d := 65) (T := 39) (y := .tmp 49) (j := .tmp 50) (E := 32) (cap := a0.cap) (k := .i64) (fun p43 => ?_)
  refine OJ.st (y := .tmp 65) (z := .tmp 60) (owed := []) Ty32 ?_
  refine OW.nil <| OJ.idxS (d := 66) (T := 39) (y := .tmp 51) (j := .tmp 54) (E := 32) (cap := a0.cap) (k := .i64) (fun p44 => ?_)
  refine OJ.st (y := .tmp 66) (z := .tmp 64) (owed := []) Ty32 ?_
  exact OW.nil <| OJ.nil <| SJ.inBlock <| SJ.rg 3 <| OJ.go 3 [(11, .int .i64 (IntKind.wrap .i64 (s26 + 1))), (37, .int .i64 (IntKind.wrap .i64 (s26 + 1))), (36, .int .i64 s26)] <| OJ.nil <| SJ.at_ [0, 1, 8, 9, 10, 11] rfl
noncomputable def slices_breakPatternsCmpFunc_api_Route.L1 (a0 : Sl) (a1 : Int) (a2 : Int) (b24 : Nat) (r25 : Int) (s26 : Int) : M (LS Int Unit) :=
  if s26 ≤ (IntKind.wrap .i64 ((IntKind.wrap .i64 (a1 + (IntKind.wrap .i64 ((IntKind.wrap .i64 (Int.tdiv (IntKind.wrap .i64 (a2 - a1)) 4)) * 2)))) + 1)) then
    slices_xorshift_Next (some (pt b24 0)) >>= fun r37 =>
    if (IntKind.wrap .i64 (band .u64 r37 (IntKind.wrap .u64 (r25 - 1)))) ≥ (IntKind.wrap .i64 (a2 - a1)) then
      slices_breakPatternsCmpFunc_api_Route.K1 a0 a1 s26 (IntKind.wrap .i64 ((IntKind.wrap .i64 (band .u64 r37 (IntKind.wrap .u64 (r25 - 1)))) - (IntKind.wrap .i64 (a2 - a1))))
    else
      slices_breakPatternsCmpFunc_api_Route.K1 a0 a1 s26 (IntKind.wrap .i64 (band .u64 r37 (IntKind.wrap .u64 (r25 - 1))))
  else
    pure (LS.done ())
theorem slices_breakPatternsCmpFunc_api_Route.L1_ok (a0 : Sl) (a1 : Int) (a2 : Int) (b24 : Nat) (r25 : Int) (s26 : Int) :
    SJ slices_breakPatternsCmpFunc_api_Route.cx [.code (c1 (c1 (c2 (c2 (c2 (c1 (c2 (c2 slices_breakPatternsCmpFunc_api_Route.B)))))))), .inLoop (c1 (c1 (c2 (c2 (c2 (c1 (c2 (c2 slices_breakPatternsCmpFunc_api_Route.B)))))))), .inBlock 0] [(0, Sl.v a0), (1, .int .i64 a1), (8, .int .i64 (IntKind.wrap .i64 (a2 - a1))), (9, .pointer (some (pt b24 0))), (10, .int .u64 r25), (11, .int .i64 s26)] [] (slices_breakPatternsCmpFunc_api_Route.L1 a0 a1 a2 b24 r25 s26) (slices_breakPatternsCmpFunc_api_Route.F1 a0 a1 a2 b24 r25) := by
  unfold slices_breakPatternsCmpFunc_api_Route.L1
  refine SJ.seq <| SJ.sr 8 <| OJ.go 8 [(35, .bool (decide (s26 ≤ (IntKind.wrap .i64 ((IntKind.wrap .i64 (a1 + (IntKind.wrap .i64 ((IntKind.wrap .i64 (Int.tdiv (IntKind.wrap .i64 (a2 - a1)) 4)) * 2)))) + 1))))), (34, .int .i64 (IntKind.wrap .i64 ((IntKind.wrap .i64 (a1 + (IntKind.wrap .i64 ((IntKind.wrap .i64 (Int.tdiv (IntKind.wrap .i64 (a2 - a1)) 4)) * 2)))) + 1))), (33, .int .i64 (IntKind.wrap .i64 (a1 + (IntKind.wrap .i64 ((IntKind.wrap .i64 (Int.tdiv (IntKind.wrap .i64 (a2 - a1)) 4)) * 2))))), (32, .int .i64 (IntKind.wrap .i64 ((IntKind.wrap .i64 (Int.tdiv (IntKind.wrap .i64 (a2 - a1)) 4)) * 2))), (31, .int .i64 (IntKind.wrap .i64 (Int.tdiv (IntKind.wrap .i64 (a2 - a1)) 4))), (30, .int .i64 (IntKind.wrap .i64 (a2 - a1))), (29, .int .i64 a1), (28, .int .i64 s26)] <| OJ.nil <| SJ.cond (t := (.tmp 35)) (b := decide (s26 ≤ (IntKind.wrap .i64 ((IntKind.wrap .i64 (a1 + (IntKind.wrap .i64 ((IntKind.wrap .i64 (Int.tdiv (IntKind.wrap .i64 (a2 - a1)) 4)) * 2)))) + 1)))) decide_eq_true_iff (fun hc46 => ?_) (fun hc46 => ?_)
  · refine SJ.skip <| SJ.seq <| SJ.block (id := 1) <| SJ.sr 6 <| OJ.call (d := 38) (g := 87) (ats := #[141]) (args := [.tmp 9]) (owed := []) F87 (slices_xorshift_Next_ok (some (pt b24 0))) (fun r37 => ?_)
    refine OW.nil <| OJ.go 5 [(12, .int .i64 (IntKind.wrap .i64 (band .u64 r37 (IntKind.wrap .u64 (r25 - 1))))), (42, .int .i64 (IntKind.wrap .i64 (band .u64 r37 (IntKind.wrap .u64 (r25 - 1))))), (41, .int .u64 (band .u64 r37 (IntKind.wrap .u64 (r25 - 1)))), (40, .int .u64 (IntKind.wrap .u64 (r25 - 1))), (39, .int .u64 r25)] <| OJ.nil <| SJ.seq <| SJ.sr 3 <| OJ.go 3 [(45, .bool (decide ((IntKind.wrap .i64 (band .u64 r37 (IntKind.wrap .u64 (r25 - 1)))) ≥ (IntKind.wrap .i64 (a2 - a1))))), (44, .int .i64 (IntKind.wrap .i64 (a2 - a1))), (43, .int .i64 (IntKind.wrap .i64 (band .u64 r37 (IntKind.wrap .u64 (r25 - 1)))))] <| OJ.nil <| SJ.cond (t := (.tmp 45)) (b := decide ((IntKind.wrap .i64 (band .u64 r37 (IntKind.wrap .u64 (r25 - 1)))) ≥ (IntKind.wrap .i64 (a2 - a1)))) decide_eq_true_iff (fun hc45 => ?_) (fun hc45 => ?_)
    · refine SJ.rg 4 <| OJ.go 4 [(12, .int .i64 (IntKind.wrap .i64 ((IntKind.wrap .i64 (band .u64 r37 (IntKind.wrap .u64 (r25 - 1)))) - (IntKind.wrap .i64 (a2 - a1))))), (48, .int .i64 (IntKind.wrap .i64 ((IntKind.wrap .i64 (band .u64 r37 (IntKind.wrap .u64 (r25 - 1)))) - (IntKind.wrap .i64 (a2 - a1))))), (47, .int .i64 (IntKind.wrap .i64 (a2 - a1))), (46, .int .i64 (IntKind.wrap .i64 (band .u64 r37 (IntKind.wrap .u64 (r25 - 1)))))] <| OJ.nil <| SJ.less [0, 1, 8, 9, 10, 11, 12] (m' := [(0, Sl.v a0), (1, .int .i64 a1), (8, .int .i64 (IntKind.wrap .i64 (a2 - a1))), (9, .pointer (some (pt b24 0))), (10, .int .u64 r25), (11, .int .i64 s26), (12, .int .i64 (IntKind.wrap .i64 ((IntKind.wrap .i64 (band .u64 r37 (IntKind.wrap .u64 (r25 - 1)))) - (IntKind.wrap .i64 (a2 - a1)))))]) ?_
      exact slices_breakPatternsCmpFunc_api_Route.K1_ok a0 a1 a2 b24 r25 s26 (IntKind.wrap .i64 ((IntKind.wrap .i64 (band .u64 r37 (IntKind.wrap .u64 (r25 - 1)))) - (IntKind.wrap .i64 (a2 - a1))))
    · refine SJ.skip <| SJ.less [0, 1, 8, 9, 10, 11, 12] (m' := [(0, Sl.v a0), (1, .int .i64 a1), (8, .int .i64 (IntKind.wrap .i64 (a2 - a1))), (9, .pointer (some (pt b24 0))), (10, .int .u64 r25), (11, .int .i64 s26), (12, .int .i64 (IntKind.wrap .i64 (band .u64 r37 (IntKind.wrap .u64 (r25 - 1)))))]) ?_
      exact slices_breakPatternsCmpFunc_api_Route.K1_ok a0 a1 a2 b24 r25 s26 (IntKind.wrap .i64 (band .u64 r37 (IntKind.wrap .u64 (r25 - 1))))
  · exact SJ.exit (id := 0) (by rfl) <| SJ.end_ rfl (Res.run (ys := []) .nil rfl)
noncomputable def slices_breakPatternsCmpFunc_api_Route (a0 : Sl) (a1 : Int) (a2 : Int) (a3 : api_Route → api_Route → M Int) : M Unit :=
  if (IntKind.wrap .i64 (a2 - a1)) ≥ 8 then
    newv 141 (cI .u64) 0 >>= fun b24 =>
    st (cI .u64) (pt b24 0) (IntKind.wrap .u64 (IntKind.wrap .i64 (a2 - a1))) >>= fun _ =>
    slices_nextPowerOfTwo (IntKind.wrap .i64 (a2 - a1)) >>= fun r25 =>
    loopM (fun s_ : Int => slices_breakPatternsCmpFunc_api_Route.L1 a0 a1 a2 b24 r25 s_) (IntKind.wrap .i64 ((IntKind.wrap .i64 (a1 + (IntKind.wrap .i64 ((IntKind.wrap .i64 (Int.tdiv (IntKind.wrap .i64 (a2 - a1)) 4)) * 2)))) - 1))
  else
    pure ()
theorem slices_breakPatternsCmpFunc_api_Route_ok (a0 : Sl) (a1 : Int) (a2 : Int) (a3v : Any) (a3 : api_Route → api_Route → M Int) (h_a3 : ∀ (x0_ : api_Route), ∀ (x1_ : api_Route), RefV Tryd.prog a3v.v [c_api_Route.val x0_, c_api_Route.val x1_] (a3 x0_ x1_) (fun r_ : Int => .int .i64 r_)) : Ref Tryd.prog 72 [Sl.v a0, .int .i64 a1, .int .i64 a2, a3v.v] (slices_breakPatternsCmpFunc_api_Route a0 a1 a2 a3) slices_breakPatternsCmpFunc_api_Route.out := by
  refine Ref.of (cd := slices_breakPatternsCmpFunc_api_Route.B) Tryd.func72 ?_
  show SJ slices_breakPatternsCmpFunc_api_Route.cx [.code slices_breakPatternsCmpFunc_api_Route.B] [(0, Sl.v a0), (1, .int .i64 a1), (2, .int .i64 a2), (3, a3v.v)] [] (slices_breakPatternsCmpFunc_api_Route a0 a1 a2 a3) slices_breakPatternsCmpFunc_api_Route.F0
  unfold slices_breakPatternsCmpFunc_api_Route
  refine SJ.sr 4 <| OJ.go 4 [(8, .int .i64 (IntKind.wrap .i64 (a2 - a1))), (15, .int .i64 (IntKind.wrap .i64 (a2 - a1))), (14, .int .i64 a1), (13, .int .i64 a2)] <| OJ.nil <| SJ.sr 2 <| OJ.go 2 [(17, .bool (decide ((IntKind.wrap .i64 (a2 - a1)) ≥ 8))), (16, .int .i64 (IntKind.wrap .i64 (a2 - a1)))] <| OJ.nil <| SJ.cond (t := (.tmp 17)) (b := decide ((IntKind.wrap .i64 (a2 - a1)) ≥ 8)) decide_eq_true_iff (fun hc47 => ?_) (fun hc47 => ?_)
  · refine SJ.sr 4 <| OJ.go 2 [(19, .int .u64 (IntKind.wrap .u64 (IntKind.wrap .i64 (a2 - a1)))), (18, .int .i64 (IntKind.wrap .i64 (a2 - a1)))] <| OJ.newOf (d := 9) (op := (.alloc 141)) (cd := (cI .u64)) (u := 0) (owed := []) (alloc_run Ty141) (fun b24 => ?_)
    refine OW.nil <| OJ.st (y := .tmp 9) (z := .tmp 19) (owed := []) Ty141 ?_
    refine OW.nil <| OJ.nil <| SJ.sr 3 <| OJ.go 1 [(20, .int .i64 (IntKind.wrap .i64 (a2 - a1)))] <| OJ.call (d := 21) (g := 86) (ats := #[3]) (args := [.tmp 20]) (owed := []) F86 (slices_nextPowerOfTwo_ok (IntKind.wrap .i64 (a2 - a1))) (fun r25 => ?_)
    exact OW.nil <| OJ.go 1 [(10, .int .u64 r25)] <| OJ.nil <| SJ.sr 7 <| OJ.go 7 [(11, .int .i64 (IntKind.wrap .i64 ((IntKind.wrap .i64 (a1 + (IntKind.wrap .i64 ((IntKind.wrap .i64 (Int.tdiv (IntKind.wrap .i64 (a2 - a1)) 4)) * 2)))) - 1))), (27, .int .i64 (IntKind.wrap .i64 ((IntKind.wrap .i64 (a1 + (IntKind.wrap .i64 ((IntKind.wrap .i64 (Int.tdiv (IntKind.wrap .i64 (a2 - a1)) 4)) * 2)))) - 1))), (26, .int .i64 (IntKind.wrap .i64 (a1 + (IntKind.wrap .i64 ((IntKind.wrap .i64 (Int.tdiv (IntKind.wrap .i64 (a2 - a1)) 4)) * 2))))), (25, .int .i64 (IntKind.wrap .i64 ((IntKind.wrap .i64 (Int.tdiv (IntKind.wrap .i64 (a2 - a1)) 4)) * 2))), (24, .int .i64 (IntKind.wrap .i64 (Int.tdiv (IntKind.wrap .i64 (a2 - a1)) 4))), (23, .int .i64 (IntKind.wrap .i64 (a2 - a1))), (22, .int .i64 a1)] <| OJ.nil <| SJ.block (id := 0) <| SJ.loop (fun s_ : Int => [(0, Sl.v a0), (1, .int .i64 a1), (8, .int .i64 (IntKind.wrap .i64 (a2 - a1))), (9, .pointer (some (pt b24 0))), (10, .int .u64 r25), (11, .int .i64 s_)]) (fun s_ : Int => []) [0, 1, 8, 9, 10, 11] rfl (fun _ _ => rfl) (fun s_ => slices_breakPatternsCmpFunc_api_Route.L1_ok a0 a1 a2 b24 r25 s_)
  · exact SJ.skip <| SJ.end_ rfl (Res.run (ys := []) .nil rfl)

/-! ### slices.order2CmpFunc[weir/api.Route]: function 93 -/
noncomputable def slices_order2CmpFunc_api_Route.B : Code := (Tryd.f93.body).getD .skip
noncomputable def slices_order2CmpFunc_api_Route.cx : Fx := ⟨Tryd.prog, 93, Tryd.f93, none⟩
noncomputable def slices_order2CmpFunc_api_Route.out (r_ : (Int × Int)) : Value := .tuple #[.int .i64 r_.1, .int .i64 r_.2]
noncomputable def slices_order2CmpFunc_api_Route.F0 (r_ : (Int × Int)) : Reach := .ret (slices_order2CmpFunc_api_Route.out r_)
noncomputable def slices_order2CmpFunc_api_Route (a0 : Sl) (a1 : Int) (a2 : Int) (a3 : (Option Addr)) (a4 : api_Route → api_Route → M Int) : M (Int × Int) :=
  draw >>= fun _ =>
  idx a0.a a0.len a2 36 >>= fun p1 =>
  ld c_api_Route p1 >>= fun x2 =>
  idx a0.a a0.len a1 36 >>= fun p3 =>
  ld c_api_Route p3 >>= fun x4 =>
  a4 x2 x4 >>= fun r5 =>
  if r5 < 0 then
    nilck a3 >>= fun p9 =>
    ld (cI .i64) p9 >>= fun x10 =>
    nilck a3 >>= fun p11 =>
    st (cI .i64) p11 (IntKind.wrap .i64 (x10 + 1)) >>= fun _ =>
    pure (a2, a1)
  else
    pure (a1, a2)
theorem slices_order2CmpFunc_api_Route_ok (a0 : Sl) (a1 : Int) (a2 : Int) (a3 : (Option Addr)) (a4v : Any) (a4 : api_Route → api_Route → M Int) (h_a4 : ∀ (x0_ : api_Route), ∀ (x1_ : api_Route), RefV Tryd.prog a4v.v [c_api_Route.val x0_, c_api_Route.val x1_] (a4 x0_ x1_) (fun r_ : Int => .int .i64 r_)) : Ref Tryd.prog 93 [Sl.v a0, .int .i64 a1, .int .i64 a2, .pointer a3, a4v.v] (slices_order2CmpFunc_api_Route a0 a1 a2 a3 a4) slices_order2CmpFunc_api_Route.out := by
  refine Ref.of (cd := slices_order2CmpFunc_api_Route.B) Tryd.func93 ?_
  show SJ slices_order2CmpFunc_api_Route.cx [.code slices_order2CmpFunc_api_Route.B] [(0, Sl.v a0), (1, .int .i64 a1), (2, .int .i64 a2), (3, .pointer a3), (4, a4v.v)] [] (slices_order2CmpFunc_api_Route a0 a1 a2 a3 a4) slices_order2CmpFunc_api_Route.F0
  unfold slices_order2CmpFunc_api_Route
  refine SJ.sr 2 <| OJ.go 2 [(11, .int .i64 0), (10, .int .i64 0)] <| OJ.nil <| SJ.seq <| SJ.seq <| SJ.draw (id := 1) (kd := [0, 0, 0, 0, 1, 0, 0, 0, 1, 2, 0]) (bef := [0, 0, 0, 6, 14, 0, 0, 96, 224, 511, 1023]) (ord := [0, 1, 2, 3, 4, 5, 6, 7, 8, 9, 10]) mixed ?_
  refine OJ.go 3 [(14, .int .i64 a2), (13, Sl.v a0), (12, a4v.v)] <| OJ.idxS (d := 15) (T := 39) (y := .tmp 13) (j := .tmp 14) (E := 32) (cap := a0.cap) (k := .i64) (fun p1 => ?_)
  refine OJ.ld (d := 16) (y := .tmp 15) (pend2 := fun x2 => [⟨4, 32, p1, c_api_Route.val x2⟩]) Ty32 (fun _ => rfl) (fun x2 => ?_)
  refine OJ.go 2 [(18, .int .i64 a1), (17, Sl.v a0)] <| OJ.idxS (d := 19) (T := 39) (y := .tmp 17) (j := .tmp 18) (E := 32) (cap := a0.cap) (k := .i64) (fun p3 => ?_)
  refine OJ.ld (d := 20) (y := .tmp 19) (pend2 := fun x4 => [⟨8, 32, p3, c_api_Route.val x4⟩, ⟨4, 32, p1, c_api_Route.val x2⟩]) Ty32 (fun _ => rfl) (fun x4 => ?_)
  refine OJ.callV1 (d := 21) (ats := #[32, 32]) (args := [.tmp 16, .tmp 20]) (fo := .tmp 12) (vals := [c_api_Route.val x2, c_api_Route.val x4]) (owed := []) (h_a4 x2 x4) (fun r5 => ?_)
  refine OW.nil <| OJ.go 1 [(22, .bool (decide (r5 < 0)))] <| OJ.nil <| SJ.cond (t := (.tmp 22)) (b := decide (r5 < 0)) decide_eq_true_iff (fun hc12 => ?_) (fun hc12 => ?_)
  · refine SJ.sr 6 <| OJ.go 1 [(23, .pointer a3)] <| OJ.nilck (d := 24) (y := .tmp 23) (fun p9 => ?_)
    refine OJ.ld (d := 25) (y := .tmp 24) (pend2 := fun x10 => []) Ty3 (fun _ => rfl) (fun x10 => ?_)
    refine OJ.go 1 [(26, .int .i64 (IntKind.wrap .i64 (x10 + 1)))] <| OJ.nilck (d := 27) (y := .tmp 23) (fun p11 => ?_)
    refine OJ.st (y := .tmp 27) (z := .tmp 26) (owed := []) Ty3 ?_
    exact OW.nil <| OJ.nil <| SJ.sr 4 <| OJ.go 4 [(11, .int .i64 a1), (10, .int .i64 a2), (29, .int .i64 a1), (28, .int .i64 a2)] <| OJ.nil <| SJ.r2 (.int .i64 a2) (.int .i64 a1) rfl rfl
  · exact SJ.skip <| SJ.sr 4 <| OJ.go 4 [(11, .int .i64 a2), (10, .int .i64 a1), (31, .int .i64 a2), (30, .int .i64 a1)] <| OJ.nil <| SJ.r2 (.int .i64 a1) (.int .i64 a2) rfl rfl

/-! ### slices.medianCmpFunc[weir/api.Route]: function 89 -/
noncomputable def slices_medianCmpFunc_api_Route.B : Code := (Tryd.f89.body).getD .skip
noncomputable def slices_medianCmpFunc_api_Route.cx : Fx := ⟨Tryd.prog, 89, Tryd.f89, none⟩
noncomputable def slices_medianCmpFunc_api_Route.out (r_ : Int) : Value := .int .i64 r_
noncomputable def slices_medianCmpFunc_api_Route.F0 (r_ : Int) : Reach := .ret (slices_medianCmpFunc_api_Route.out r_)
noncomputable def slices_medianCmpFunc_api_Route (a0 : Sl) (a1 : Int) (a2 : Int) (a3 : Int) (a4 : (Option Addr)) (a5 : api_Route → api_Route → M Int) : M Int :=
  slices_order2CmpFunc_api_Route a0 a1 a2 a4 a5 >>= fun r1 =>
  slices_order2CmpFunc_api_Route a0 r1.2 a3 a4 a5 >>= fun r2 =>
  slices_order2CmpFunc_api_Route a0 r1.1 r2.1 a4 a5 >>= fun r3 =>
  pure r3.2
theorem slices_medianCmpFunc_api_Route_ok (a0 : Sl) (a1 : Int) (a2 : Int) (a3 : Int) (a4 : (Option Addr)) (a5v : Any) (a5 : api_Route → api_Route → M Int) (h_a5 : ∀ (x0_ : api_Route), ∀ (x1_ : api_Route), RefV Tryd.prog a5v.v [c_api_Route.val x0_, c_api_Route.val x1_] (a5 x0_ x1_) (fun r_ : Int => .int .i64 r_)) : Ref Tryd.prog 89 [Sl.v a0, .int .i64 a1, .int .i64 a2, .int .i64 a3, .pointer a4, a5v.v] (slices_medianCmpFunc_api_Route a0 a1 a2 a3 a4 a5) slices_medianCmpFunc_api_Route.out := by
  refine Ref.of (cd := slices_medianCmpFunc_api_Route.B) Tryd.func89 ?_
  show SJ slices_medianCmpFunc_api_Route.cx [.code slices_medianCmpFunc_api_Route.B] [(0, Sl.v a0), (1, .int .i64 a1), (2, .int .i64 a2), (3, .int .i64 a3), (4, .pointer a4), (5, a5v.v)] [] (slices_medianCmpFunc_api_Route a0 a1 a2 a3 a4 a5) slices_medianCmpFunc_api_Route.F0
  unfold slices_medianCmpFunc_api_Route
  refine SJ.sr 1 <| OJ.go 1 [(12, .int .i64 0)] <| OJ.nil <| SJ.sr 11 <| OJ.go 5 [(18, a5v.v), (17, .pointer a4), (16, .int .i64 a2), (15, .int .i64 a1), (14, Sl.v a0)] <| OJ.call (d := 19) (g := 93) (ats := #[39, 3, 3, 145, 97]) (args := [.tmp 14, .tmp 15, .tmp 16, .tmp 17, .tmp 18]) (owed := []) F93 (slices_order2CmpFunc_api_Route_ok a0 a1 a2 a4 a5v a5 h_a5) (fun r1 => ?_)
  refine OW.nil <| OJ.go 5 [(2, .int .i64 r1.2), (1, .int .i64 r1.1), (21, .int .i64 r1.2), (20, .int .i64 r1.1), (13, .tuple #[.int .i64 r1.1, .int .i64 r1.2])] <| OJ.nil <| SJ.sr 11 <| OJ.go 5 [(27, a5v.v), (26, .pointer a4), (25, .int .i64 a3), (24, .int .i64 r1.2), (23, Sl.v a0)] <| OJ.call (d := 28) (g := 93) (ats := #[39, 3, 3, 145, 97]) (args := [.tmp 23, .tmp 24, .tmp 25, .tmp 26, .tmp 27]) (owed := []) F93 (slices_order2CmpFunc_api_Route_ok a0 r1.2 a3 a4 a5v a5 h_a5) (fun r2 => ?_)
  refine OW.nil <| OJ.go 5 [(3, .int .i64 r2.2), (2, .int .i64 r2.1), (30, .int .i64 r2.2), (29, .int .i64 r2.1), (22, .tuple #[.int .i64 r2.1, .int .i64 r2.2])] <| OJ.nil <| SJ.sr 11 <| OJ.go 5 [(36, a5v.v), (35, .pointer a4), (34, .int .i64 r2.1), (33, .int .i64 r1.1), (32, Sl.v a0)] <| OJ.call (d := 37) (g := 93) (ats := #[39, 3, 3, 145, 97]) (args := [.tmp 32, .tmp 33, .tmp 34, .tmp 35, .tmp 36]) (owed := []) F93 (slices_order2CmpFunc_api_Route_ok a0 r1.1 r2.1 a4 a5v a5 h_a5) (fun r3 => ?_)
  exact OW.nil <| OJ.go 5 [(2, .int .i64 r3.2), (1, .int .i64 r3.1), (39, .int .i64 r3.2), (38, .int .i64 r3.1), (31, .tuple #[.int .i64 r3.1, .int .i64 r3.2])] <| OJ.nil <| SJ.sr 2 <| OJ.go 2 [(12, .int .i64 r3.2), (40, .int .i64 r3.2)] <| OJ.nil <| SJ.r1 (.int .i64 r3.2) rfl rfl

/-! ### slices.medianAdjacentCmpFunc[weir/api.Route]: function 88 -/
noncomputable def slices_medianAdjacentCmpFunc_api_Route.B : Code := (Tryd.f88.body).getD .skip
noncomputable def slices_medianAdjacentCmpFunc_api_Route.cx : Fx := ⟨Tryd.prog, 88, Tryd.f88, none⟩
noncomputable def slices_medianAdjacentCmpFunc_api_Route.out (r_ : Int) : Value := .int .i64 r_
noncomputable def slices_medianAdjacentCmpFunc_api_Route.F0 (r_ : Int) : Reach := .ret (slices_medianAdjacentCmpFunc_api_Route.out r_)
noncomputable def slices_medianAdjacentCmpFunc_api_Route (a0 : Sl) (a1 : Int) (a2 : (Option Addr)) (a3 : api_Route → api_Route → M Int) : M Int :=
  slices_medianCmpFunc_api_Route a0 (IntKind.wrap .i64 (a1 - 1)) a1 (IntKind.wrap .i64 (a1 + 1)) a2 a3 >>= fun r1 =>
  pure r1
theorem slices_medianAdjacentCmpFunc_api_Route_ok (a0 : Sl) (a1 : Int) (a2 : (Option Addr)) (a3v : Any) (a3 : api_Route → api_Route → M Int) (h_a3 : ∀ (x0_ : api_Route), ∀ (x1_ : api_Route), RefV Tryd.prog a3v.v [c_api_Route.val x0_, c_api_Route.val x1_] (a3 x0_ x1_) (fun r_ : Int => .int .i64 r_)) : Ref Tryd.prog 88 [Sl.v a0, .int .i64 a1, .pointer a2, a3v.v] (slices_medianAdjacentCmpFunc_api_Route a0 a1 a2 a3) slices_medianAdjacentCmpFunc_api_Route.out := by
  refine Ref.of (cd := slices_medianAdjacentCmpFunc_api_Route.B) Tryd.func88 ?_
  show SJ slices_medianAdjacentCmpFunc_api_Route.cx [.code slices_medianAdjacentCmpFunc_api_Route.B] [(0, Sl.v a0), (1, .int .i64 a1), (2, .pointer a2), (3, a3v.v)] [] (slices_medianAdjacentCmpFunc_api_Route a0 a1 a2 a3) slices_medianAdjacentCmpFunc_api_Route.F0
  unfold slices_medianAdjacentCmpFunc_api_Route
  refine SJ.sr 1 <| OJ.go 1 [(8, .int .i64 0)] <| OJ.nil <| SJ.sr 10 <| OJ.go 8 [(16, a3v.v), (15, .pointer a2), (14, .int .i64 (IntKind.wrap .i64 (a1 + 1))), (13, .int .i64 a1), (12, .int .i64 a1), (11, .int .i64 (IntKind.wrap .i64 (a1 - 1))), (10, .int .i64 a1), (9, Sl.v a0)] <| OJ.call (d := 17) (g := 89) (ats := #[39, 3, 3, 3, 145, 97]) (args := [.tmp 9, .tmp 11, .tmp 12, .tmp 14, .tmp 15, .tmp 16]) (owed := []) F89 (slices_medianCmpFunc_api_Route_ok a0 (IntKind.wrap .i64 (a1 - 1)) a1 (IntKind.wrap .i64 (a1 + 1)) a2 a3v a3 h_a3) (fun r1 => ?_)
  exact OW.nil <| OJ.go 1 [(8, .int .i64 r1)] <| OJ.nil <| SJ.r1 (.int .i64 r1) rfl rfl
end Go.Proofs.YtfgcobigollfjaaDoor.Lx
