/- Programs of the M-world for Go functions, each with the proof that the Go text does what it says. Printed by lxgen.py. -/
import Derived.Test.YtoddkagehbcfjaaLxT
import Derived.Test.YtoddkagehbcfjaaLxP0
import Derived.Test.YtoddkagehbcfjaaLxP1
set_option linter.unusedVariables false
set_option linter.unusedSimpArgs false
namespace Go.Proofs.Ytoddkagehbcfjaa.Lx
open Go Go.Proofs
/-! ### weir/weirlaw3.moved: function 59 -/
noncomputable def weirlaw3_moved.B : Code := (Try.f59.body).getD .skip
noncomputable def weirlaw3_moved.cx : Fx := ⟨Try.prog, 59, Try.f59⟩
noncomputable def weirlaw3_moved.out (r_ : (weirlaw3_Side × Bool)) : Value := .tuple #[c_weirlaw3_Side.val r_.1, .bool r_.2]
noncomputable def weirlaw3_moved.F0 (r_ : (weirlaw3_Side × Bool)) : Reach := .ret (weirlaw3_moved.out r_)
noncomputable def weirlaw3_moved.F1 (a0 : weirlaw3_Side) (b1 : Nat) (b3 : Nat) (r62 : (Sl × Bool)) (r63 : (weirref3_Port × Sl × Bool)) (y66 : Bool) : (LS Int (weirlaw3_Side × Bool)) → Reach := loopF [.inLoop (c1 (c1 (c2 (c1 (c2 (c2 (c2 (c2 (c2 (c2 weirlaw3_moved.B)))))))))), .inBlock 1, .code (c2 (c2 (c2 (c2 (c2 (c2 (c2 weirlaw3_moved.B)))))))] (fun s_ : Int => [(2, .pointer (some (pt b1 0))), (4, .pointer (some (pt b3 0))), (15, Sl.v r62.1), (20, .bool y66), (21, .int .i64 s_)]) (fun s_ : Int => [(b3, c_weirlaw3_Side.enc z_weirlaw3_Side), (b1, c_weirlaw3_Side.enc (⟨a0.P, r63.1, a0.W⟩ : weirlaw3_Side))]) weirlaw3_moved.F0
noncomputable def weirlaw3_moved.L1 (a0 : weirlaw3_Side) (r62 : (Sl × Bool)) (r63 : (weirref3_Port × Sl × Bool)) (y66 : Bool) (s67 : Int) : M (LS Int (weirlaw3_Side × Bool)) :=
  if s67 < (r62.1.len : Int) then
    idx r62.1.a r62.1.len s67 1 >>= fun p72 =>
    ld (cI .u8) p72 >>= fun x73 =>
    idx r62.1.a r62.1.len s67 1 >>= fun p74 =>
    st (cI .u8) p74 (bxor .u8 x73 255) >>= fun _ =>
    pure (LS.next (IntKind.wrap .i64 (s67 + 1)))
  else
    pure (LS.done ((⟨a0.P, r63.1, a0.W⟩ : weirlaw3_Side), y66))
theorem weirlaw3_moved.L1_ok (a0 : weirlaw3_Side) (b1 : Nat) (b3 : Nat) (r62 : (Sl × Bool)) (r63 : (weirref3_Port × Sl × Bool)) (y66 : Bool) (s67 : Int) :
    SJ weirlaw3_moved.cx [.code (c1 (c1 (c2 (c1 (c2 (c2 (c2 (c2 (c2 (c2 weirlaw3_moved.B)))))))))), .inLoop (c1 (c1 (c2 (c1 (c2 (c2 (c2 (c2 (c2 (c2 weirlaw3_moved.B)))))))))), .inBlock 1, .code (c2 (c2 (c2 (c2 (c2 (c2 (c2 weirlaw3_moved.B)))))))] [(2, .pointer (some (pt b1 0))), (4, .pointer (some (pt b3 0))), (15, Sl.v r62.1), (20, .bool y66), (21, .int .i64 s67)] [(b3, c_weirlaw3_Side.enc z_weirlaw3_Side), (b1, c_weirlaw3_Side.enc (⟨a0.P, r63.1, a0.W⟩ : weirlaw3_Side))] (weirlaw3_moved.L1 a0 r62 r63 y66 s67) (weirlaw3_moved.F1 a0 b1 b3 r62 r63 y66) := by
  unfold weirlaw3_moved.L1
  refine SJ.seq ?_
  refine SJ.sr 4 ?_
  refine OJ.go 4 [(119, .bool (decide (s67 < (r62.1.len : Int)))), (118, .int .i64 (r62.1.len : Int)), (117, Sl.v r62.1), (116, .int .i64 s67)] ?_
  refine OJ.nil ?_
  refine SJ.cond (t := (.tmp 119)) (b := decide (s67 < (r62.1.len : Int))) decide_eq_true_iff (fun hc75 => ?_) (fun hc75 => ?_)
  · refine SJ.skip ?_
    refine SJ.seq ?_
    refine SJ.block (id := 2) ?_
    refine SJ.rg 9 ?_
    refine OJ.go 4 [(125, .int .i64 s67), (124, Sl.v r62.1), (123, .int .i64 s67), (122, Sl.v r62.1)] ?_
    refine OJ.idxS (d := 126) (T := 22) (y := .tmp 124) (j := .tmp 125) (E := 5) (cap := r62.1.cap) (k := .i64) (fun p72 => ?_)
    refine OJ.ld (d := 127) (y := .tmp 126) (pend2 := fun x73 => []) Ty5 (fun _ => rfl) (fun x73 => ?_)
    refine OJ.go 1 [(128, .int .u8 (bxor .u8 x73 255))] ?_
    refine OJ.idxS (d := 129) (T := 22) (y := .tmp 122) (j := .tmp 123) (E := 5) (cap := r62.1.cap) (k := .i64) (fun p74 => ?_)
    refine OJ.st (y := .tmp 129) (z := .tmp 128) (owed := []) Ty5 ?_
    refine OW.nil ?_
    refine OJ.nil ?_
    refine SJ.inBlock ?_
    refine SJ.rg 3 ?_
    refine OJ.go 3 [(21, .int .i64 (IntKind.wrap .i64 (s67 + 1))), (121, .int .i64 (IntKind.wrap .i64 (s67 + 1))), (120, .int .i64 s67)] ?_
    refine OJ.nil ?_
    exact SJ.at_ [2, 4, 15, 20, 21] rfl
  · refine SJ.exit (id := 1) (by rfl) ?_
    refine SJ.sr 4 ?_
    refine OJ.kld (d := 130) (y := .tmp 2) (cd := c_weirlaw3_Side) (j := 1) (b := b1) (o := 0) (⟨a0.P, r63.1, a0.W⟩ : weirlaw3_Side) (pend2 := []) Ty62 rfl (At.whole _) rfl ?_
    refine OJ.go 1 [(131, .bool y66)] ?_
    refine OJ.kst (y := .tmp 4) (z := .tmp 130) (cd := c_weirlaw3_Side) (u := (⟨a0.P, r63.1, a0.W⟩ : weirlaw3_Side)) (j := 0) (b := b3) (o := 0) (c_weirlaw3_Side.enc (⟨a0.P, r63.1, a0.W⟩ : weirlaw3_Side)) (owed := []) Ty62 rfl (Upd.whole ((Cod.len _ _).trans (Cod.len _ _).symm)) rfl ?_
    refine OW.nil ?_
    refine OJ.go 1 [(5, .bool y66)] ?_
    refine OJ.nil ?_
    exact SJ.ret rfl (Res.run (ys := [c_weirlaw3_Side.val (⟨a0.P, r63.1, a0.W⟩ : weirlaw3_Side), .bool y66]) (.cell (j := 0) (b := b3) (cd := c_weirlaw3_Side) (q := (⟨a0.P, r63.1, a0.W⟩ : weirlaw3_Side)) (by kernel_rfl) rfl Ty62 (At.whole _) (.tmp (by kernel_rfl) .nil)) rfl)
noncomputable def weirlaw3_moved (a0 : weirlaw3_Side) (a1 : weirlaw3_Op) : M (weirlaw3_Side × Bool) :=
  slot 62 >>= fun b1 =>
  slot 45 >>= fun b2 =>
  slot 62 >>= fun b3 =>
  if a1.Kind = 1 then
    ring_Port_Refill a0.P a1.N >>= fun r34 =>
    weirref3_Refill a0.R a1.N >>= fun r35 =>
    slot 59 >>= fun b36 =>
    pure ((⟨a0.P, r35.1, a0.W⟩ : weirlaw3_Side), (r34 == r35.2))
  else
    if a1.Kind = 6 then
      ring_Port_Release a0.P a1.I >>= fun r50 =>
      weirref3_Release a0.R a1.I >>= fun r51 =>
      slot 59 >>= fun b52 =>
      draw >>= fun _ =>
      weirlaw3_num r50 >>= fun r53 =>
      pure ((⟨a0.P, r51.1, a0.W⟩ : weirlaw3_Side), (r53 == r51.2))
    else
      if a1.Kind = 7 then
        ring_Port_Send a0.P a1.I a1.N >>= fun r58 =>
        weirref3_Send a0.R a1.I a1.N >>= fun r59 =>
        slot 59 >>= fun b60 =>
        draw >>= fun _ =>
        weirlaw3_num r58 >>= fun r61 =>
        pure ((⟨a0.P, r59.1, a0.W⟩ : weirlaw3_Side), (r61 == r59.2))
      else
        ring_Port_Drain a0.P >>= fun r62 =>
        weirref3_Drain a0.R >>= fun r63 =>
        slot 59 >>= fun b64 =>
        (if r62.2 = r63.2.2 then
            weirlaw3_alike r62.1 r63.2.1 >>= fun r65 =>
            pure r65
          else
            pure false) >>= fun y66 =>
        loopM (fun s_ : Int => weirlaw3_moved.L1 a0 r62 r63 y66 s_) 0
theorem weirlaw3_moved_ok (a0 : weirlaw3_Side) (a1 : weirlaw3_Op) : Ref Try.prog 59 [c_weirlaw3_Side.val a0, c_weirlaw3_Op.val a1] (weirlaw3_moved a0 a1) weirlaw3_moved.out := by
  refine Ref.of (cd := weirlaw3_moved.B) Try.func59 ?_
  show SJ weirlaw3_moved.cx [.code weirlaw3_moved.B] [(0, c_weirlaw3_Side.val a0), (1, c_weirlaw3_Op.val a1)] [] (weirlaw3_moved a0 a1) weirlaw3_moved.F0
  unfold weirlaw3_moved
  refine SJ.sr 4 ?_
  refine OJ.slotOf (d := 2) (op := (.box 62 (.tmp 0))) (cd := c_weirlaw3_Side) (u := a0) (owed := []) (box_run (by kernel_rfl)) (fun b1 => ?_)
  refine OW.nil ?_
  refine OJ.slotOf (d := 3) (op := (.box 45 (.tmp 1))) (cd := c_weirlaw3_Op) (u := a1) (owed := []) (box_run (by kernel_rfl)) (fun b2 => ?_)
  refine OW.nil ?_
  refine OJ.slotOf (d := 4) (op := (.alloc 62)) (cd := c_weirlaw3_Side) (u := z_weirlaw3_Side) (owed := []) (alloc_run Ty62) (fun b3 => ?_)
  refine OW.nil ?_
  refine OJ.go 1 [(5, .bool false)] ?_
  refine OJ.nil ?_
  refine SJ.seq ?_
  refine SJ.sr 2 ?_
  refine OJ.go 1 [(22, .pointer (some (pt b2 0)))] ?_
  refine OJ.kld (d := 23) (y := .tmp 22) (cd := (cI .i64)) (j := 1) (b := b2) (o := 0) a1.Kind (pend2 := []) Ty3 rfl (At_weirlaw3_Op_Kind a1) rfl ?_
  refine OJ.nil ?_
  refine SJ.block (id := 0) ?_
  refine SJ.sr 2 ?_
  refine OJ.go 2 [(24, .bool (a1.Kind == 1)), (25, .bool (a1.Kind == 1))] ?_
  refine OJ.nil ?_
  refine SJ.cond (t := (.tmp 24)) (b := (a1.Kind == 1)) beq_iff_eq (fun hc78 => ?_) (fun hc78 => ?_)
  · refine SJ.sr 6 ?_
    refine OJ.go 1 [(26, .pointer (some (pt b1 0)))] ?_
    refine OJ.kld (d := 27) (y := .tmp 26) (cd := cP) (j := 2) (b := b1) (o := 0) a0.P (pend2 := []) Ty23 rfl (At_weirlaw3_Side_P a0) rfl ?_
    refine OJ.go 1 [(28, .pointer (some (pt b2 3)))] ?_
    refine OJ.kld (d := 29) (y := .tmp 28) (cd := (cI .i64)) (j := 1) (b := b2) (o := 3) a1.N (pend2 := []) Ty3 rfl (At_weirlaw3_Op_N a1) rfl ?_
    refine OJ.call (d := 30) (g := 15) (ats := #[23, 3]) (args := [.tmp 27, .tmp 29]) (owed := []) F15 (ring_Port_Refill_ok a0.P a1.N) (fun r34 => ?_)
    refine OW.nil ?_
    refine OJ.go 1 [(6, .int .i64 r34)] ?_
    refine OJ.nil ?_
    refine SJ.sr 11 ?_
    refine OJ.go 1 [(32, .pointer (some (pt b1 1)))] ?_
    refine OJ.kld (d := 33) (y := .tmp 32) (cd := c_weirref3_Port) (j := 2) (b := b1) (o := 1) a0.R (pend2 := []) Ty59 rfl (At_weirlaw3_Side_R a0) rfl ?_
    refine OJ.go 1 [(34, .pointer (some (pt b2 3)))] ?_
    refine OJ.kld (d := 35) (y := .tmp 34) (cd := (cI .i64)) (j := 1) (b := b2) (o := 3) a1.N (pend2 := []) Ty3 rfl (At_weirlaw3_Op_N a1) rfl ?_
    refine OJ.call (d := 36) (g := 70) (ats := #[59, 3]) (args := [.tmp 33, .tmp 35]) (owed := []) F70 (weirref3_Refill_ok a0.R a1.N) (fun r35 => ?_)
    refine OW.nil ?_
    refine OJ.go 3 [(38, .int .i64 r35.2), (37, c_weirref3_Port.val r35.1), (31, .tuple #[c_weirref3_Port.val r35.1, .int .i64 r35.2])] ?_
    refine OJ.slotOf (d := 7) (op := (.alloc 59)) (cd := c_weirref3_Port) (u := z_weirref3_Port) (owed := []) (alloc_run Ty59) (fun b36 => ?_)
    refine OW.nil ?_
    refine OJ.kst (y := .tmp 7) (z := .tmp 37) (cd := c_weirref3_Port) (u := r35.1) (j := 0) (b := b36) (o := 0) (c_weirref3_Port.enc r35.1) (owed := []) Ty59 rfl (Upd.whole ((Cod.len _ _).trans (Cod.len _ _).symm)) rfl ?_
    refine OW.nil ?_
    refine OJ.go 1 [(8, .int .i64 r35.2)] ?_
    refine OJ.nil ?_
    refine SJ.sr 3 ?_
    refine OJ.kld (d := 39) (y := .tmp 7) (cd := c_weirref3_Port) (j := 0) (b := b36) (o := 0) r35.1 (pend2 := []) Ty59 rfl (At.whole _) rfl ?_
    refine OJ.go 1 [(40, .pointer (some (pt b1 1)))] ?_
    refine OJ.kst (y := .tmp 40) (z := .tmp 39) (cd := c_weirref3_Port) (u := r35.1) (j := 3) (b := b1) (o := 1) (c_weirlaw3_Side.enc (⟨a0.P, r35.1, a0.W⟩ : weirlaw3_Side)) (owed := []) Ty59 rfl (Up_weirlaw3_Side_R a0 r35.1) rfl ?_
    refine OW.nil ?_
    refine OJ.nil ?_
    refine SJ.sr 6 ?_
    refine OJ.kld (d := 41) (y := .tmp 2) (cd := c_weirlaw3_Side) (j := 3) (b := b1) (o := 0) (⟨a0.P, r35.1, a0.W⟩ : weirlaw3_Side) (pend2 := []) Ty62 rfl (At.whole _) rfl ?_
    refine OJ.go 3 [(44, .bool (r34 == r35.2)), (43, .int .i64 r35.2), (42, .int .i64 r34)] ?_
    refine OJ.kst (y := .tmp 4) (z := .tmp 41) (cd := c_weirlaw3_Side) (u := (⟨a0.P, r35.1, a0.W⟩ : weirlaw3_Side)) (j := 1) (b := b3) (o := 0) (c_weirlaw3_Side.enc (⟨a0.P, r35.1, a0.W⟩ : weirlaw3_Side)) (owed := []) Ty62 rfl (Upd.whole ((Cod.len _ _).trans (Cod.len _ _).symm)) rfl ?_
    refine OW.nil ?_
    refine OJ.go 1 [(5, .bool (r34 == r35.2))] ?_
    refine OJ.nil ?_
    exact SJ.ret rfl (Res.run (ys := [c_weirlaw3_Side.val (⟨a0.P, r35.1, a0.W⟩ : weirlaw3_Side), .bool (r34 == r35.2)]) (.cell (j := 1) (b := b3) (cd := c_weirlaw3_Side) (q := (⟨a0.P, r35.1, a0.W⟩ : weirlaw3_Side)) (by kernel_rfl) rfl Ty62 (At.whole _) (.tmp (by kernel_rfl) .nil)) rfl)
  · refine SJ.sr 2 ?_
    refine OJ.go 2 [(45, .bool (a1.Kind == 6)), (46, .bool (a1.Kind == 6))] ?_
    refine OJ.nil ?_
    refine SJ.cond (t := (.tmp 45)) (b := (a1.Kind == 6)) beq_iff_eq (fun hc77 => ?_) (fun hc77 => ?_)
    · refine SJ.sr 6 ?_
      refine OJ.go 1 [(47, .pointer (some (pt b1 0)))] ?_
      refine OJ.kld (d := 48) (y := .tmp 47) (cd := cP) (j := 2) (b := b1) (o := 0) a0.P (pend2 := []) Ty23 rfl (At_weirlaw3_Side_P a0) rfl ?_
      refine OJ.go 1 [(49, .pointer (some (pt b2 2)))] ?_
      refine OJ.kld (d := 50) (y := .tmp 49) (cd := (cI .i64)) (j := 1) (b := b2) (o := 2) a1.I (pend2 := []) Ty3 rfl (At_weirlaw3_Op_I a1) rfl ?_
      refine OJ.call (d := 51) (g := 24) (ats := #[23, 3]) (args := [.tmp 48, .tmp 50]) (owed := []) F24 (ring_Port_Release_ok a0.P a1.I) (fun r50 => ?_)
      refine OW.nil ?_
      refine OJ.go 1 [(9, .int .i64 r50)] ?_
      refine OJ.nil ?_
      refine SJ.sr 11 ?_
      refine OJ.go 1 [(53, .pointer (some (pt b1 1)))] ?_
      refine OJ.kld (d := 54) (y := .tmp 53) (cd := c_weirref3_Port) (j := 2) (b := b1) (o := 1) a0.R (pend2 := []) Ty59 rfl (At_weirlaw3_Side_R a0) rfl ?_
      refine OJ.go 1 [(55, .pointer (some (pt b2 2)))] ?_
      refine OJ.kld (d := 56) (y := .tmp 55) (cd := (cI .i64)) (j := 1) (b := b2) (o := 2) a1.I (pend2 := []) Ty3 rfl (At_weirlaw3_Op_I a1) rfl ?_
      refine OJ.call (d := 57) (g := 71) (ats := #[59, 3]) (args := [.tmp 54, .tmp 56]) (owed := []) F71 (weirref3_Release_ok a0.R a1.I) (fun r51 => ?_)
      refine OW.nil ?_
      refine OJ.go 3 [(59, .int .i64 r51.2), (58, c_weirref3_Port.val r51.1), (52, .tuple #[c_weirref3_Port.val r51.1, .int .i64 r51.2])] ?_
      refine OJ.slotOf (d := 10) (op := (.alloc 59)) (cd := c_weirref3_Port) (u := z_weirref3_Port) (owed := []) (alloc_run Ty59) (fun b52 => ?_)
      refine OW.nil ?_
      refine OJ.kst (y := .tmp 10) (z := .tmp 58) (cd := c_weirref3_Port) (u := r51.1) (j := 0) (b := b52) (o := 0) (c_weirref3_Port.enc r51.1) (owed := []) Ty59 rfl (Upd.whole ((Cod.len _ _).trans (Cod.len _ _).symm)) rfl ?_
      refine OW.nil ?_
      refine OJ.go 1 [(11, .int .i64 r51.2)] ?_
      refine OJ.nil ?_
      refine SJ.sr 3 ?_
      refine OJ.kld (d := 60) (y := .tmp 10) (cd := c_weirref3_Port) (j := 0) (b := b52) (o := 0) r51.1 (pend2 := []) Ty59 rfl (At.whole _) rfl ?_
      refine OJ.go 1 [(61, .pointer (some (pt b1 1)))] ?_
      refine OJ.kst (y := .tmp 61) (z := .tmp 60) (cd := c_weirref3_Port) (u := r51.1) (j := 3) (b := b1) (o := 1) (c_weirlaw3_Side.enc (⟨a0.P, r51.1, a0.W⟩ : weirlaw3_Side)) (owed := []) Ty59 rfl (Up_weirlaw3_Side_R a0 r51.1) rfl ?_
      refine OW.nil ?_
      refine OJ.nil ?_
      refine SJ.seq ?_
      refine SJ.draw (id := 11) (kd := [1, 0, 2, 0, 0, 2, 0]) (bef := [0, 0, 2, 0, 14, 7, 63]) (ord := [0, 1, 2, 3, 4, 5, 6]) mixed ?_
      refine OJ.kld (d := 62) (y := .tmp 2) (cd := c_weirlaw3_Side) (j := 3) (b := b1) (o := 0) (⟨a0.P, r51.1, a0.W⟩ : weirlaw3_Side) (pend2 := [⟨0, 62, (pt b1 0), c_weirlaw3_Side.val (⟨a0.P, r51.1, a0.W⟩ : weirlaw3_Side)⟩]) Ty62 rfl (At.whole _) rfl ?_
      refine OJ.go 1 [(63, .int .i64 r50)] ?_
      refine OJ.call (d := 64) (g := 14) (ats := #[24]) (args := [.tmp 63]) (owed := [⟨0, 62, (pt b1 0), c_weirlaw3_Side.val (⟨a0.P, r51.1, a0.W⟩ : weirlaw3_Side)⟩]) F14 (weirlaw3_num_ok r50) (fun r53 => ?_)
      refine OW.known (j := 3) (q := (⟨a0.P, r51.1, a0.W⟩ : weirlaw3_Side)) Ty62 rfl (At.whole _) ?_
      refine OW.nil ?_
      refine OJ.go 2 [(66, .bool (r53 == r51.2)), (65, .int .i64 r51.2)] ?_
      refine OJ.kst (y := .tmp 4) (z := .tmp 62) (cd := c_weirlaw3_Side) (u := (⟨a0.P, r51.1, a0.W⟩ : weirlaw3_Side)) (j := 1) (b := b3) (o := 0) (c_weirlaw3_Side.enc (⟨a0.P, r51.1, a0.W⟩ : weirlaw3_Side)) (owed := []) Ty62 rfl (Upd.whole ((Cod.len _ _).trans (Cod.len _ _).symm)) rfl ?_
      refine OW.nil ?_
      refine OJ.go 1 [(5, .bool (r53 == r51.2))] ?_
      refine OJ.nil ?_
      exact SJ.ret rfl (Res.run (ys := [c_weirlaw3_Side.val (⟨a0.P, r51.1, a0.W⟩ : weirlaw3_Side), .bool (r53 == r51.2)]) (.cell (j := 1) (b := b3) (cd := c_weirlaw3_Side) (q := (⟨a0.P, r51.1, a0.W⟩ : weirlaw3_Side)) (by kernel_rfl) rfl Ty62 (At.whole _) (.tmp (by kernel_rfl) .nil)) rfl)
    · refine SJ.sr 2 ?_
      refine OJ.go 2 [(67, .bool (a1.Kind == 7)), (68, .bool (a1.Kind == 7))] ?_
      refine OJ.nil ?_
      refine SJ.cond (t := (.tmp 67)) (b := (a1.Kind == 7)) beq_iff_eq (fun hc76 => ?_) (fun hc76 => ?_)
      · refine SJ.sr 8 ?_
        refine OJ.go 1 [(69, .pointer (some (pt b1 0)))] ?_
        refine OJ.kld (d := 70) (y := .tmp 69) (cd := cP) (j := 2) (b := b1) (o := 0) a0.P (pend2 := []) Ty23 rfl (At_weirlaw3_Side_P a0) rfl ?_
        refine OJ.go 1 [(71, .pointer (some (pt b2 2)))] ?_
        refine OJ.kld (d := 72) (y := .tmp 71) (cd := (cI .i64)) (j := 1) (b := b2) (o := 2) a1.I (pend2 := []) Ty3 rfl (At_weirlaw3_Op_I a1) rfl ?_
        refine OJ.go 1 [(73, .pointer (some (pt b2 3)))] ?_
        refine OJ.kld (d := 74) (y := .tmp 73) (cd := (cI .i64)) (j := 1) (b := b2) (o := 3) a1.N (pend2 := []) Ty3 rfl (At_weirlaw3_Op_N a1) rfl ?_
        refine OJ.call (d := 75) (g := 21) (ats := #[23, 3, 3]) (args := [.tmp 70, .tmp 72, .tmp 74]) (owed := []) F21 (ring_Port_Send_ok a0.P a1.I a1.N) (fun r58 => ?_)
        refine OW.nil ?_
        refine OJ.go 1 [(12, .int .i64 r58)] ?_
        refine OJ.nil ?_
        refine SJ.sr 13 ?_
        refine OJ.go 1 [(77, .pointer (some (pt b1 1)))] ?_
        refine OJ.kld (d := 78) (y := .tmp 77) (cd := c_weirref3_Port) (j := 2) (b := b1) (o := 1) a0.R (pend2 := []) Ty59 rfl (At_weirlaw3_Side_R a0) rfl ?_
        refine OJ.go 1 [(79, .pointer (some (pt b2 2)))] ?_
        refine OJ.kld (d := 80) (y := .tmp 79) (cd := (cI .i64)) (j := 1) (b := b2) (o := 2) a1.I (pend2 := []) Ty3 rfl (At_weirlaw3_Op_I a1) rfl ?_
        refine OJ.go 1 [(81, .pointer (some (pt b2 3)))] ?_
        refine OJ.kld (d := 82) (y := .tmp 81) (cd := (cI .i64)) (j := 1) (b := b2) (o := 3) a1.N (pend2 := []) Ty3 rfl (At_weirlaw3_Op_N a1) rfl ?_
        refine OJ.call (d := 83) (g := 72) (ats := #[59, 3, 3]) (args := [.tmp 78, .tmp 80, .tmp 82]) (owed := []) F72 (weirref3_Send_ok a0.R a1.I a1.N) (fun r59 => ?_)
        refine OW.nil ?_
        refine OJ.go 3 [(85, .int .i64 r59.2), (84, c_weirref3_Port.val r59.1), (76, .tuple #[c_weirref3_Port.val r59.1, .int .i64 r59.2])] ?_
        refine OJ.slotOf (d := 13) (op := (.alloc 59)) (cd := c_weirref3_Port) (u := z_weirref3_Port) (owed := []) (alloc_run Ty59) (fun b60 => ?_)
        refine OW.nil ?_
        refine OJ.kst (y := .tmp 13) (z := .tmp 84) (cd := c_weirref3_Port) (u := r59.1) (j := 0) (b := b60) (o := 0) (c_weirref3_Port.enc r59.1) (owed := []) Ty59 rfl (Upd.whole ((Cod.len _ _).trans (Cod.len _ _).symm)) rfl ?_
        refine OW.nil ?_
        refine OJ.go 1 [(14, .int .i64 r59.2)] ?_
        refine OJ.nil ?_
        refine SJ.sr 3 ?_
        refine OJ.kld (d := 86) (y := .tmp 13) (cd := c_weirref3_Port) (j := 0) (b := b60) (o := 0) r59.1 (pend2 := []) Ty59 rfl (At.whole _) rfl ?_
        refine OJ.go 1 [(87, .pointer (some (pt b1 1)))] ?_
        refine OJ.kst (y := .tmp 87) (z := .tmp 86) (cd := c_weirref3_Port) (u := r59.1) (j := 3) (b := b1) (o := 1) (c_weirlaw3_Side.enc (⟨a0.P, r59.1, a0.W⟩ : weirlaw3_Side)) (owed := []) Ty59 rfl (Up_weirlaw3_Side_R a0 r59.1) rfl ?_
        refine OW.nil ?_
        refine OJ.nil ?_
        refine SJ.seq ?_
        refine SJ.draw (id := 16) (kd := [1, 0, 2, 0, 0, 2, 0]) (bef := [0, 0, 2, 0, 14, 7, 63]) (ord := [0, 1, 2, 3, 4, 5, 6]) mixed ?_
        refine OJ.kld (d := 88) (y := .tmp 2) (cd := c_weirlaw3_Side) (j := 3) (b := b1) (o := 0) (⟨a0.P, r59.1, a0.W⟩ : weirlaw3_Side) (pend2 := [⟨0, 62, (pt b1 0), c_weirlaw3_Side.val (⟨a0.P, r59.1, a0.W⟩ : weirlaw3_Side)⟩]) Ty62 rfl (At.whole _) rfl ?_
        refine OJ.go 1 [(89, .int .i64 r58)] ?_
        refine OJ.call (d := 90) (g := 14) (ats := #[24]) (args := [.tmp 89]) (owed := [⟨0, 62, (pt b1 0), c_weirlaw3_Side.val (⟨a0.P, r59.1, a0.W⟩ : weirlaw3_Side)⟩]) F14 (weirlaw3_num_ok r58) (fun r61 => ?_)
        refine OW.known (j := 3) (q := (⟨a0.P, r59.1, a0.W⟩ : weirlaw3_Side)) Ty62 rfl (At.whole _) ?_
        refine OW.nil ?_
        refine OJ.go 2 [(92, .bool (r61 == r59.2)), (91, .int .i64 r59.2)] ?_
        refine OJ.kst (y := .tmp 4) (z := .tmp 88) (cd := c_weirlaw3_Side) (u := (⟨a0.P, r59.1, a0.W⟩ : weirlaw3_Side)) (j := 1) (b := b3) (o := 0) (c_weirlaw3_Side.enc (⟨a0.P, r59.1, a0.W⟩ : weirlaw3_Side)) (owed := []) Ty62 rfl (Upd.whole ((Cod.len _ _).trans (Cod.len _ _).symm)) rfl ?_
        refine OW.nil ?_
        refine OJ.go 1 [(5, .bool (r61 == r59.2))] ?_
        refine OJ.nil ?_
        exact SJ.ret rfl (Res.run (ys := [c_weirlaw3_Side.val (⟨a0.P, r59.1, a0.W⟩ : weirlaw3_Side), .bool (r61 == r59.2)]) (.cell (j := 1) (b := b3) (cd := c_weirlaw3_Side) (q := (⟨a0.P, r59.1, a0.W⟩ : weirlaw3_Side)) (by kernel_rfl) rfl Ty62 (At.whole _) (.tmp (by kernel_rfl) .nil)) rfl)
      · refine SJ.skip ?_
        refine SJ.inBlock ?_
        refine SJ.sr 8 ?_
        refine OJ.go 1 [(94, .pointer (some (pt b1 0)))] ?_
        refine OJ.kld (d := 95) (y := .tmp 94) (cd := cP) (j := 2) (b := b1) (o := 0) a0.P (pend2 := []) Ty23 rfl (At_weirlaw3_Side_P a0) rfl ?_
        refine OJ.call (d := 96) (g := 22) (ats := #[23]) (args := [.tmp 95]) (owed := []) F22 (ring_Port_Drain_ok a0.P) (fun r62 => ?_)
        refine OW.nil ?_
        refine OJ.go 5 [(16, .bool r62.2), (15, Sl.v r62.1), (98, .bool r62.2), (97, Sl.v r62.1), (93, .tuple #[Sl.v r62.1, .bool r62.2])] ?_
        refine OJ.nil ?_
        refine SJ.sr 11 ?_
        refine OJ.go 1 [(100, .pointer (some (pt b1 1)))] ?_
        refine OJ.kld (d := 101) (y := .tmp 100) (cd := c_weirref3_Port) (j := 2) (b := b1) (o := 1) a0.R (pend2 := []) Ty59 rfl (At_weirlaw3_Side_R a0) rfl ?_
        refine OJ.call (d := 102) (g := 73) (ats := #[59]) (args := [.tmp 101]) (owed := []) F73 (weirref3_Drain_ok a0.R) (fun r63 => ?_)
        refine OW.nil ?_
        refine OJ.go 4 [(105, .bool r63.2.2), (104, Sl.v r63.2.1), (103, c_weirref3_Port.val r63.1), (99, .tuple #[c_weirref3_Port.val r63.1, Sl.v r63.2.1, .bool r63.2.2])] ?_
        refine OJ.slotOf (d := 17) (op := (.alloc 59)) (cd := c_weirref3_Port) (u := z_weirref3_Port) (owed := []) (alloc_run Ty59) (fun b64 => ?_)
        refine OW.nil ?_
        refine OJ.kst (y := .tmp 17) (z := .tmp 103) (cd := c_weirref3_Port) (u := r63.1) (j := 0) (b := b64) (o := 0) (c_weirref3_Port.enc r63.1) (owed := []) Ty59 rfl (Upd.whole ((Cod.len _ _).trans (Cod.len _ _).symm)) rfl ?_
        refine OW.nil ?_
        refine OJ.go 2 [(19, .bool r63.2.2), (18, Sl.v r63.2.1)] ?_
        refine OJ.nil ?_
        refine SJ.sr 3 ?_
        refine OJ.kld (d := 106) (y := .tmp 17) (cd := c_weirref3_Port) (j := 0) (b := b64) (o := 0) r63.1 (pend2 := []) Ty59 rfl (At.whole _) rfl ?_
        refine OJ.go 1 [(107, .pointer (some (pt b1 1)))] ?_
        refine OJ.kst (y := .tmp 107) (z := .tmp 106) (cd := c_weirref3_Port) (u := r63.1) (j := 3) (b := b1) (o := 1) (c_weirlaw3_Side.enc (⟨a0.P, r63.1, a0.W⟩ : weirlaw3_Side)) (owed := []) Ty59 rfl (Up_weirlaw3_Side_R a0 r63.1) rfl ?_
        refine OW.nil ?_
        refine OJ.nil ?_
        refine SJ.sr 9 ?_
        refine OJ.go 4 [(111, .bool (r62.2 == r63.2.2)), (110, .bool (r62.2 == r63.2.2)), (109, .bool r63.2.2), (108, .bool r62.2)] ?_
        refine OJ.join (b := (r62.2 == r63.2.2)) [4, 5, 6, 7] [8] [2, 4, 15, 115] (fun y66 => [(2, .pointer (some (pt b1 0))), (4, .pointer (some (pt b3 0))), (15, Sl.v r62.1), (115, .bool y66)]) [] [] (t := 111) beq_iff_eq (fun hp_ => ?_) (fun hp_ => ?_) (fun _ _ _ _ _ _ h_ => h_) (fun y66 => ?_)
        · refine OJ.go 2 [(113, Sl.v r63.2.1), (112, Sl.v r62.1)] ?_
          refine OJ.call (d := 114) (g := 19) (ats := #[22, 22]) (args := [.tmp 112, .tmp 113]) (owed := []) F19 (weirlaw3_alike_ok r62.1 r63.2.1) (fun r65 => ?_)
          refine OW.nil ?_
          refine OJ.go 1 [(115, .bool r65)] ?_
          exact OJ.nil ⟨(Cov.mem Cov.nil), rfl, _, rfl, by kernel_rfl⟩
        · refine OJ.go 4 [(115, .bool false), (114, undef), (113, undef), (112, undef)] ?_
          exact OJ.nil ⟨(Cov.mem Cov.nil), rfl, _, rfl, by kernel_rfl⟩
        · refine OJ.go 1 [(20, .bool y66)] ?_
          refine OJ.nil ?_
          refine SJ.seq ?_
          refine SJ.sr 1 ?_
          refine OJ.go 1 [(21, .int .i64 0)] ?_
          refine OJ.nil ?_
          refine SJ.block (id := 1) ?_
          refine SJ.forget (List.Sublist.cons _ (List.Sublist.cons_cons _ (List.Sublist.cons _ (List.Sublist.cons_cons _ List.Sublist.slnil)))) ?_
          exact SJ.loop (fun s_ : Int => [(2, .pointer (some (pt b1 0))), (4, .pointer (some (pt b3 0))), (15, Sl.v r62.1), (20, .bool y66), (21, .int .i64 s_)]) (fun s_ : Int => [(b3, c_weirlaw3_Side.enc z_weirlaw3_Side), (b1, c_weirlaw3_Side.enc (⟨a0.P, r63.1, a0.W⟩ : weirlaw3_Side))]) [2, 4, 15, 20, 21] rfl (fun _ _ => rfl) (fun s_ => weirlaw3_moved.L1_ok a0 b1 b3 r62 r63 y66 s_)

/-! ### (*weir/ring.Port).Places: function 32 -/
noncomputable def ring_Port_Places.B : Code := (Try.f32.body).getD .skip
noncomputable def ring_Port_Places.cx : Fx := ⟨Try.prog, 32, Try.f32⟩
noncomputable def ring_Port_Places.out (r_ : Sl) : Value := Sl.v r_
noncomputable def ring_Port_Places.F0 (r_ : Sl) : Reach := .ret (ring_Port_Places.out r_)
noncomputable def ring_Port_Places (a0 : (Option Addr)) : M Sl :=
  nilck a0 >>= fun p1 =>
  ld cL (Addr.add p1 4) >>= fun x2 =>
  mkS (cI .i64) 3 8 0 (x2.len : Int) (x2.len : Int) >>= fun r3 =>
  nilck a0 >>= fun p4 =>
  ld cL (Addr.add p4 4) >>= fun x5 =>
  cpyS (cI .i64) r3 x5 >>= fun r6 =>
  pure r3
theorem ring_Port_Places_ok (a0 : (Option Addr)) : Ref Try.prog 32 [.pointer a0] (ring_Port_Places a0) ring_Port_Places.out := by
  refine Ref.of (cd := ring_Port_Places.B) Try.func32 ?_
  show SJ ring_Port_Places.cx [.code ring_Port_Places.B] [(0, .pointer a0)] [] (ring_Port_Places a0) ring_Port_Places.F0
  unfold ring_Port_Places
  refine SJ.sr 1 ?_
  refine OJ.go 1 [(2, Sl.v Sl.nil)] ?_
  refine OJ.nil ?_
  refine SJ.sr 7 ?_
  refine OJ.go 1 [(4, .pointer a0)] ?_
  refine OJ.nilck (d := 5) (y := .tmp 4) (fun p1 => ?_)
  refine OJ.go 1 [(6, .pointer (some (Addr.add p1 4)))] ?_
  refine OJ.ld (d := 7) (y := .tmp 6) (pend2 := fun x2 => []) Ty67 (fun _ => rfl) (fun x2 => ?_)
  refine OJ.go 1 [(8, .int .i64 (x2.len : Int))] ?_
  refine OJ.mk (d := 9) (t := 67) (lo := .tmp 8) (ko := .tmp 8) (k1 := .i64) (k2 := .i64) (owed := []) Ty3 (fun r3 => ?_)
  refine OW.nil ?_
  refine OJ.go 1 [(3, Sl.v r3)] ?_
  refine OJ.nil ?_
  refine SJ.sr 6 ?_
  refine OJ.go 2 [(11, .pointer a0), (10, Sl.v r3)] ?_
  refine OJ.nilck (d := 12) (y := .tmp 11) (fun p4 => ?_)
  refine OJ.go 1 [(13, .pointer (some (Addr.add p4 4)))] ?_
  refine OJ.ld (d := 14) (y := .tmp 13) (pend2 := fun x5 => []) Ty67 (fun _ => rfl) (fun x5 => ?_)
  refine OJ.cpy1 (n := 15) (t := 67) (u := 67) (so := .tmp 10) (xo := .tmp 14) (owed := []) Ty3 (fun r6 => ?_)
  refine OW.nil ?_
  refine OJ.nil ?_
  refine SJ.sr 2 ?_
  refine OJ.go 2 [(2, Sl.v r3), (16, Sl.v r3)] ?_
  refine OJ.nil ?_
  exact SJ.ret rfl (Res.run (ys := [Sl.v r3]) (.tmp (by kernel_rfl) .nil) rfl)

/-! ### weir/weirref3.Places: function 52 -/
noncomputable def weirref3_Places.B : Code := (Try.f52.body).getD .skip
noncomputable def weirref3_Places.cx : Fx := ⟨Try.prog, 52, Try.f52⟩
noncomputable def weirref3_Places.out (r_ : Sl) : Value := Sl.v r_
noncomputable def weirref3_Places.F0 (r_ : Sl) : Reach := .ret (weirref3_Places.out r_)
noncomputable def weirref3_Places.F1 (a0 : weirref3_Port) (b1 : Nat) : (LS (Sl × Int) Sl) → Reach := loopF [.inLoop (c1 (c1 (c2 (c1 (c2 (c2 weirref3_Places.B)))))), .inBlock 0, .code (c2 (c2 (c2 weirref3_Places.B)))] (fun s_ : (Sl × Int) => [(1, .pointer (some (pt b1 0))), (3, Sl.v s_.1), (4, .int .i64 s_.2)]) (fun s_ : (Sl × Int) => [(b1, c_weirref3_Port.enc a0)]) weirref3_Places.F0
noncomputable def weirref3_Places.L1 (a0 : weirref3_Port) (s2 : Sl) (s3 : Int) : M (LS (Sl × Int) Sl) :=
  if s3 < (a0.L.len : Int) then
    idx a0.L.a a0.L.len s3 4 >>= fun p9 =>
    ld (cI .i64) p9 >>= fun x10 =>
    slot 3 >>= fun b11 =>
    appl (cI .i64) 3 8 0 s2 [x10] >>= fun r12 =>
    pure (LS.next (r12, IntKind.wrap .i64 (s3 + 1)))
  else
    pure (LS.done s2)
theorem weirref3_Places.L1_ok (a0 : weirref3_Port) (b1 : Nat) (s2 : Sl) (s3 : Int) :
    SJ weirref3_Places.cx [.code (c1 (c1 (c2 (c1 (c2 (c2 weirref3_Places.B)))))), .inLoop (c1 (c1 (c2 (c1 (c2 (c2 weirref3_Places.B)))))), .inBlock 0, .code (c2 (c2 (c2 weirref3_Places.B)))] [(1, .pointer (some (pt b1 0))), (3, Sl.v s2), (4, .int .i64 s3)] [(b1, c_weirref3_Port.enc a0)] (weirref3_Places.L1 a0 s2 s3) (weirref3_Places.F1 a0 b1) := by
  unfold weirref3_Places.L1
  refine SJ.seq ?_
  refine SJ.sr 5 ?_
  refine OJ.go 2 [(6, .pointer (some (pt b1 3))), (5, .int .i64 s3)] ?_
  refine OJ.kld (d := 7) (y := .tmp 6) (cd := cL) (j := 0) (b := b1) (o := 3) a0.L (pend2 := []) Ty57 rfl (At_weirref3_Port_L a0) rfl ?_
  refine OJ.go 2 [(9, .bool (decide (s3 < (a0.L.len : Int)))), (8, .int .i64 (a0.L.len : Int))] ?_
  refine OJ.nil ?_
  refine SJ.cond (t := (.tmp 9)) (b := decide (s3 < (a0.L.len : Int))) decide_eq_true_iff (fun hc13 => ?_) (fun hc13 => ?_)
  · refine SJ.skip ?_
    refine SJ.seq ?_
    refine SJ.block (id := 1) ?_
    refine SJ.rg 10 ?_
    refine OJ.go 2 [(13, .pointer (some (pt b1 3))), (12, Sl.v s2)] ?_
    refine OJ.kld (d := 14) (y := .tmp 13) (cd := cL) (j := 0) (b := b1) (o := 3) a0.L (pend2 := []) Ty57 rfl (At_weirref3_Port_L a0) rfl ?_
    refine OJ.go 1 [(15, .int .i64 s3)] ?_
    refine OJ.idxS (d := 16) (T := 57) (y := .tmp 14) (j := .tmp 15) (E := 110) (cap := a0.L.cap) (k := .i64) (fun p9 => ?_)
    refine OJ.go 1 [(17, .pointer (some p9))] ?_
    refine OJ.ld (d := 18) (y := .tmp 17) (pend2 := fun x10 => []) Ty3 (fun _ => rfl) (fun x10 => ?_)
    refine OJ.rowSlot (d := 19) (t := 67) (parts := [(0, .tmp 18)]) (ps := [(0, (cI .i64).val x10)]) (cd := (cI .i64)) (⟨[x10], rfl⟩ : Vec Int 1) (owed := []) Ty3 (Filled.cons (cd := (cI .i64)) (q := x10) (o := 0) rfl (Upd.arr (i := 0) (by decide) (by decide)) Filled.nil) (fun b11 => ?_)
    refine OW.nil ?_
    refine OJ.appl (d := 20) (t := 67) (u := 67) (so := .tmp 12) (xo := .tmp 19) (j := 0) (b := b11) (l := ((cI .i64).arr 1).enc (⟨[x10], rfl⟩ : Vec Int 1)) (n := 1) (k := 1) [x10] (owed := []) Ty3 (by rfl) (Cod.arr_enc _ _ _) (by rfl) (fun r12 => ?_)
    refine OW.nil ?_
    refine OJ.go 1 [(3, Sl.v r12)] ?_
    refine OJ.nil ?_
    refine SJ.inBlock ?_
    refine SJ.rg 3 ?_
    refine OJ.go 3 [(4, .int .i64 (IntKind.wrap .i64 (s3 + 1))), (11, .int .i64 (IntKind.wrap .i64 (s3 + 1))), (10, .int .i64 s3)] ?_
    refine OJ.nil ?_
    refine SJ.forget (List.Sublist.cons _ (List.Sublist.cons_cons _ List.Sublist.slnil)) ?_
    exact SJ.at_ [1, 3, 4] rfl
  · refine SJ.exit (id := 0) (by rfl) ?_
    refine SJ.sr 2 ?_
    refine OJ.go 2 [(2, Sl.v s2), (21, Sl.v s2)] ?_
    refine OJ.nil ?_
    exact SJ.ret rfl (Res.run (ys := [Sl.v s2]) (.tmp (by kernel_rfl) .nil) rfl)
noncomputable def weirref3_Places (a0 : weirref3_Port) : M Sl :=
  slot 59 >>= fun b1 =>
  loopM (fun s_ : (Sl × Int) => weirref3_Places.L1 a0 s_.1 s_.2) (Sl.nil, 0)
theorem weirref3_Places_ok (a0 : weirref3_Port) : Ref Try.prog 52 [c_weirref3_Port.val a0] (weirref3_Places a0) weirref3_Places.out := by
  refine Ref.of (cd := weirref3_Places.B) Try.func52 ?_
  show SJ weirref3_Places.cx [.code weirref3_Places.B] [(0, c_weirref3_Port.val a0)] [] (weirref3_Places a0) weirref3_Places.F0
  unfold weirref3_Places
  refine SJ.sr 2 ?_
  refine OJ.slotOf (d := 1) (op := (.box 59 (.tmp 0))) (cd := c_weirref3_Port) (u := a0) (owed := []) (box_run (by kernel_rfl)) (fun b1 => ?_)
  refine OW.nil ?_
  refine OJ.go 1 [(2, Sl.v Sl.nil)] ?_
  refine OJ.nil ?_
  refine SJ.sr 1 ?_
  refine OJ.go 1 [(3, Sl.v Sl.nil)] ?_
  refine OJ.nil ?_
  refine SJ.seq ?_
  refine SJ.sr 1 ?_
  refine OJ.go 1 [(4, .int .i64 0)] ?_
  refine OJ.nil ?_
  refine SJ.block (id := 0) ?_
  exact SJ.loop (fun s_ : (Sl × Int) => [(1, .pointer (some (pt b1 0))), (3, Sl.v s_.1), (4, .int .i64 s_.2)]) (fun s_ : (Sl × Int) => [(b1, c_weirref3_Port.enc a0)]) [1, 3, 4] rfl (fun _ _ => rfl) (fun s_ => weirref3_Places.L1_ok a0 b1 s_.1 s_.2)

/-! ### (*weir/ring.Port).Stat: function 27 -/
noncomputable def ring_Port_Stat.B : Code := (Try.f27.body).getD .skip
noncomputable def ring_Port_Stat.cx : Fx := ⟨Try.prog, 27, Try.f27⟩
noncomputable def ring_Port_Stat.out (r_ : api_RingStat) : Value := c_api_RingStat.val r_
noncomputable def ring_Port_Stat.F0 (r_ : api_RingStat) : Reach := .ret (ring_Port_Stat.out r_)
noncomputable def ring_Port_Stat.K1 (s6 : (Vec Int 6)) : M api_RingStat :=
  pure (⟨(Vec.g s6 1 0), (Vec.g s6 2 0), (Vec.g s6 3 0), (Vec.g s6 4 0), (Vec.g s6 5 0)⟩ : api_RingStat)
theorem ring_Port_Stat.K1_ok (b1 : Nat) (b2 : Nat) (s6 : (Vec Int 6)) :
    SJ ring_Port_Stat.cx [.code (c2 (c2 (c2 ring_Port_Stat.B)))] [(2, .pointer (some (pt b1 0))), (3, .pointer (some (pt b2 0)))] [(b2, ((cI .i64).arr 6).enc s6), (b1, c_api_RingStat.enc z_api_RingStat)] (ring_Port_Stat.K1 s6) ring_Port_Stat.F0 := by
  unfold ring_Port_Stat.K1
  refine SJ.sr 12 ?_
  refine OJ.go 1 [(21, .pointer (some (pt b2 1)))] ?_
  refine OJ.kld (d := 22) (y := .tmp 21) (cd := (cI .i64)) (j := 0) (b := b2) (o := 1) (Vec.g s6 1 0) (pend2 := []) Ty3 rfl (At.zero (At.arr (z := 0) (by decide) (by decide))) rfl ?_
  refine OJ.go 1 [(23, .pointer (some (pt b2 2)))] ?_
  refine OJ.kld (d := 24) (y := .tmp 23) (cd := (cI .i64)) (j := 0) (b := b2) (o := 2) (Vec.g s6 2 0) (pend2 := []) Ty3 rfl (At.zero (At.arr (z := 0) (by decide) (by decide))) rfl ?_
  refine OJ.go 1 [(25, .pointer (some (pt b2 3)))] ?_
  refine OJ.kld (d := 26) (y := .tmp 25) (cd := (cI .i64)) (j := 0) (b := b2) (o := 3) (Vec.g s6 3 0) (pend2 := []) Ty3 rfl (At.zero (At.arr (z := 0) (by decide) (by decide))) rfl ?_
  refine OJ.go 1 [(27, .pointer (some (pt b2 4)))] ?_
  refine OJ.kld (d := 28) (y := .tmp 27) (cd := (cI .i64)) (j := 0) (b := b2) (o := 4) (Vec.g s6 4 0) (pend2 := []) Ty3 rfl (At.zero (At.arr (z := 0) (by decide) (by decide))) rfl ?_
  refine OJ.go 1 [(29, .pointer (some (pt b2 5)))] ?_
  refine OJ.kld (d := 30) (y := .tmp 29) (cd := (cI .i64)) (j := 0) (b := b2) (o := 5) (Vec.g s6 5 0) (pend2 := []) Ty3 rfl (At.zero (At.arr (z := 0) (by decide) (by decide))) rfl ?_
  refine OJ.build (d := 31) (T := 52) (parts := [(0, .tmp 22), (1, .tmp 24), (2, .tmp 26), (3, .tmp 28), (4, .tmp 30)]) (ps := [(0, (cI .i64).val (Vec.g s6 1 0)), (1, (cI .i64).val (Vec.g s6 2 0)), (2, (cI .i64).val (Vec.g s6 3 0)), (3, (cI .i64).val (Vec.g s6 4 0)), (4, (cI .i64).val (Vec.g s6 5 0))]) (cd := c_api_RingStat) (z0 := z_api_RingStat) (⟨(Vec.g s6 1 0), (Vec.g s6 2 0), (Vec.g s6 3 0), (Vec.g s6 4 0), (Vec.g s6 5 0)⟩ : api_RingStat) Ty52 rfl (Filled.cons (cd := (cI .i64)) (q := (Vec.g s6 1 0)) (o := 0) (by kernel_rfl) (Up_api_RingStat_Free z_api_RingStat (Vec.g s6 1 0)) (Filled.cons (cd := (cI .i64)) (q := (Vec.g s6 2 0)) (o := 1) (by kernel_rfl) (Up_api_RingStat_Posted (⟨(Vec.g s6 1 0), z_api_RingStat.Posted, z_api_RingStat.Filled, z_api_RingStat.Held, z_api_RingStat.Queued⟩ : api_RingStat) (Vec.g s6 2 0)) (Filled.cons (cd := (cI .i64)) (q := (Vec.g s6 3 0)) (o := 2) (by kernel_rfl) (Up_api_RingStat_Filled (⟨(Vec.g s6 1 0), (Vec.g s6 2 0), z_api_RingStat.Filled, z_api_RingStat.Held, z_api_RingStat.Queued⟩ : api_RingStat) (Vec.g s6 3 0)) (Filled.cons (cd := (cI .i64)) (q := (Vec.g s6 4 0)) (o := 3) (by kernel_rfl) (Up_api_RingStat_Held (⟨(Vec.g s6 1 0), (Vec.g s6 2 0), (Vec.g s6 3 0), z_api_RingStat.Held, z_api_RingStat.Queued⟩ : api_RingStat) (Vec.g s6 4 0)) (Filled.cons (cd := (cI .i64)) (q := (Vec.g s6 5 0)) (o := 4) (by kernel_rfl) (Up_api_RingStat_Queued (⟨(Vec.g s6 1 0), (Vec.g s6 2 0), (Vec.g s6 3 0), (Vec.g s6 4 0), z_api_RingStat.Queued⟩ : api_RingStat) (Vec.g s6 5 0)) Filled.nil))))) ?_
  refine OJ.kst (y := .tmp 2) (z := .tmp 31) (cd := c_api_RingStat) (u := (⟨(Vec.g s6 1 0), (Vec.g s6 2 0), (Vec.g s6 3 0), (Vec.g s6 4 0), (Vec.g s6 5 0)⟩ : api_RingStat)) (j := 1) (b := b1) (o := 0) (c_api_RingStat.enc (⟨(Vec.g s6 1 0), (Vec.g s6 2 0), (Vec.g s6 3 0), (Vec.g s6 4 0), (Vec.g s6 5 0)⟩ : api_RingStat)) (owed := []) Ty52 rfl (Upd.whole ((Cod.len _ _).trans (Cod.len _ _).symm)) rfl ?_
  refine OW.nil ?_
  refine OJ.nil ?_
  exact SJ.ret rfl (Res.run (ys := [c_api_RingStat.val (⟨(Vec.g s6 1 0), (Vec.g s6 2 0), (Vec.g s6 3 0), (Vec.g s6 4 0), (Vec.g s6 5 0)⟩ : api_RingStat)]) (.cell (j := 1) (b := b1) (cd := c_api_RingStat) (q := (⟨(Vec.g s6 1 0), (Vec.g s6 2 0), (Vec.g s6 3 0), (Vec.g s6 4 0), (Vec.g s6 5 0)⟩ : api_RingStat)) (by kernel_rfl) rfl Ty52 (At.whole _) .nil) rfl)
noncomputable def ring_Port_Stat.F1 (b1 : Nat) (b2 : Nat) (x4 : Sl) : (LS (Int × (Vec Int 6)) api_RingStat) → Reach := loopF [.inLoop (c1 (c1 (c2 (c1 (c2 (c2 ring_Port_Stat.B)))))), .inBlock 0, .code (c2 (c2 (c2 ring_Port_Stat.B)))] (fun s_ : (Int × (Vec Int 6)) => [(2, .pointer (some (pt b1 0))), (3, .pointer (some (pt b2 0))), (9, Sl.v x4), (10, .int .i64 (x4.len : Int)), (11, .int .i64 s_.1)]) (fun s_ : (Int × (Vec Int 6)) => [(b2, ((cI .i64).arr 6).enc s_.2), (b1, c_api_RingStat.enc z_api_RingStat)]) ring_Port_Stat.F0
noncomputable def ring_Port_Stat.L1 (x4 : Sl) (s5 : Int) (s6 : (Vec Int 6)) : M (LS (Int × (Vec Int 6)) api_RingStat) :=
  if s5 < (x4.len : Int) then
    idx x4.a x4.len s5 1 >>= fun p14 =>
    ld (cI .i64) p14 >>= fun x15 =>
    chk (0 ≤ x15 ∧ x15 < (6 : Nat)) >>= fun _ =>
    chk (0 ≤ x15 ∧ x15 < (6 : Nat)) >>= fun _ =>
    pure (LS.next (IntKind.wrap .i64 (s5 + 1), (Vec.s s6 x15 (IntKind.wrap .i64 ((Vec.g s6 x15 0) + 1)))))
  else
    (ring_Port_Stat.K1 s6) >>= fun b => pure (LS.done b)
theorem ring_Port_Stat.L1_ok (b1 : Nat) (b2 : Nat) (x4 : Sl) (s5 : Int) (s6 : (Vec Int 6)) :
    SJ ring_Port_Stat.cx [.code (c1 (c1 (c2 (c1 (c2 (c2 ring_Port_Stat.B)))))), .inLoop (c1 (c1 (c2 (c1 (c2 (c2 ring_Port_Stat.B)))))), .inBlock 0, .code (c2 (c2 (c2 ring_Port_Stat.B)))] [(2, .pointer (some (pt b1 0))), (3, .pointer (some (pt b2 0))), (9, Sl.v x4), (10, .int .i64 (x4.len : Int)), (11, .int .i64 s5)] [(b2, ((cI .i64).arr 6).enc s6), (b1, c_api_RingStat.enc z_api_RingStat)] (ring_Port_Stat.L1 x4 s5 s6) (ring_Port_Stat.F1 b1 b2 x4) := by
  unfold ring_Port_Stat.L1
  refine SJ.sr 1 ?_
  refine OJ.go 1 [(12, .bool (decide (s5 < (x4.len : Int))))] ?_
  refine OJ.nil ?_
  refine SJ.seq ?_
  refine SJ.cond (t := (.tmp 12)) (b := decide (s5 < (x4.len : Int))) decide_eq_true_iff (fun hc20 => ?_) (fun hc20 => ?_)
  · refine SJ.skip ?_
    refine SJ.seq ?_
    refine SJ.block (id := 1) ?_
    refine SJ.sr 3 ?_
    refine OJ.idxS (d := 13) (T := 67) (y := .tmp 9) (j := .tmp 11) (E := 3) (cap := x4.cap) (k := .i64) (fun p14 => ?_)
    refine OJ.ld (d := 14) (y := .tmp 13) (pend2 := fun x15 => []) Ty3 (fun _ => rfl) (fun x15 => ?_)
    refine OJ.go 1 [(5, .int .i64 x15)] ?_
    refine OJ.nil ?_
    refine SJ.rg 6 ?_
    refine OJ.go 1 [(15, .int .i64 x15)] ?_
    refine OJ.idxK (d := 16) (T := 94) (y := .tmp 3) (j := .tmp 15) (E := 3) (sz := 1) (b := b2) (o := 0) (k := .i64) (fun hb16 hb17 => ?_)
    refine OJ.kld (d := 17) (y := .tmp 16) (cd := (cI .i64)) (j := 0) (b := b2) (o := (0 + x15.toNat * 1)) (Vec.g s6 x15 0) (pend2 := []) Ty3 rfl (At.zero (At.arr (z := 0) hb16 hb17)) rfl ?_
    refine OJ.go 1 [(18, .int .i64 (IntKind.wrap .i64 ((Vec.g s6 x15 0) + 1)))] ?_
    refine OJ.idxK (d := 19) (T := 94) (y := .tmp 3) (j := .tmp 15) (E := 3) (sz := 1) (b := b2) (o := 0) (k := .i64) (fun hb18 hb19 => ?_)
    refine OJ.kst (y := .tmp 19) (z := .tmp 18) (cd := (cI .i64)) (u := (IntKind.wrap .i64 ((Vec.g s6 x15 0) + 1))) (j := 0) (b := b2) (o := (0 + x15.toNat * 1)) (((cI .i64).arr 6).enc (Vec.s s6 x15 (IntKind.wrap .i64 ((Vec.g s6 x15 0) + 1)))) (owed := []) Ty3 rfl (Upd.zero (Upd.arr hb18 hb19)) rfl ?_
    refine OW.nil ?_
    refine OJ.nil ?_
    refine SJ.inBlock ?_
    refine SJ.rg 2 ?_
    refine OJ.go 2 [(11, .int .i64 (IntKind.wrap .i64 (s5 + 1))), (20, .int .i64 (IntKind.wrap .i64 (s5 + 1)))] ?_
    refine OJ.nil ?_
    exact SJ.at_ [2, 3, 9, 10, 11] rfl
  · refine SJ.exit (id := 0) (by rfl) ?_
    refine SJ.less [2, 3] (m' := [(2, .pointer (some (pt b1 0))), (3, .pointer (some (pt b2 0)))]) ?_
    refine SJ.done ?_
    exact ring_Port_Stat.K1_ok b1 b2 s6
noncomputable def ring_Port_Stat (a0 : (Option Addr)) : M api_RingStat :=
  slot 52 >>= fun b1 =>
  slot 94 >>= fun b2 =>
  nilck a0 >>= fun p3 =>
  ld cL (Addr.add p3 4) >>= fun x4 =>
  loopM (fun s_ : (Int × (Vec Int 6)) => ring_Port_Stat.L1 x4 s_.1 s_.2) (0, (Vec.rep 6 0))
theorem ring_Port_Stat_ok (a0 : (Option Addr)) : Ref Try.prog 27 [.pointer a0] (ring_Port_Stat a0) ring_Port_Stat.out := by
  refine Ref.of (cd := ring_Port_Stat.B) Try.func27 ?_
  show SJ ring_Port_Stat.cx [.code ring_Port_Stat.B] [(0, .pointer a0)] [] (ring_Port_Stat a0) ring_Port_Stat.F0
  unfold ring_Port_Stat
  refine SJ.sr 1 ?_
  refine OJ.slotOf (d := 2) (op := (.alloc 52)) (cd := c_api_RingStat) (u := z_api_RingStat) (owed := []) (alloc_run Ty52) (fun b1 => ?_)
  refine OW.nil ?_
  refine OJ.nil ?_
  refine SJ.sr 1 ?_
  refine OJ.slotOf (d := 3) (op := (.alloc 94)) (cd := ((cI .i64).arr 6)) (u := (Vec.rep 6 0)) (owed := []) (alloc_run Ty94) (fun b2 => ?_)
  refine OW.nil ?_
  refine OJ.nil ?_
  refine SJ.seq ?_
  refine SJ.sr 6 ?_
  refine OJ.go 1 [(6, .pointer a0)] ?_
  refine OJ.nilck (d := 7) (y := .tmp 6) (fun p3 => ?_)
  refine OJ.go 1 [(8, .pointer (some (Addr.add p3 4)))] ?_
  refine OJ.ld (d := 9) (y := .tmp 8) (pend2 := fun x4 => []) Ty67 (fun _ => rfl) (fun x4 => ?_)
  refine OJ.go 2 [(11, .int .i64 0), (10, .int .i64 (x4.len : Int))] ?_
  refine OJ.nil ?_
  refine SJ.block (id := 0) ?_
  exact SJ.loop (fun s_ : (Int × (Vec Int 6)) => [(2, .pointer (some (pt b1 0))), (3, .pointer (some (pt b2 0))), (9, Sl.v x4), (10, .int .i64 (x4.len : Int)), (11, .int .i64 s_.1)]) (fun s_ : (Int × (Vec Int 6)) => [(b2, ((cI .i64).arr 6).enc s_.2), (b1, c_api_RingStat.enc z_api_RingStat)]) [2, 3, 9, 10, 11] rfl (fun _ _ => rfl) (fun s_ => ring_Port_Stat.L1_ok b1 b2 x4 s_.1 s_.2)

/-! ### weir/weirref3.Stat: function 53 -/
noncomputable def weirref3_Stat.B : Code := (Try.f53.body).getD .skip
noncomputable def weirref3_Stat.cx : Fx := ⟨Try.prog, 53, Try.f53⟩
noncomputable def weirref3_Stat.out (r_ : api_RingStat) : Value := c_api_RingStat.val r_
noncomputable def weirref3_Stat.F0 (r_ : api_RingStat) : Reach := .ret (weirref3_Stat.out r_)
noncomputable def weirref3_Stat (a0 : weirref3_Port) : M api_RingStat :=
  slot 59 >>= fun b1 =>
  slot 52 >>= fun b2 =>
  draw >>= fun _ =>
  weirref3_count a0 1 >>= fun r3 =>
  weirref3_count a0 2 >>= fun r4 =>
  weirref3_count a0 3 >>= fun r5 =>
  weirref3_count a0 4 >>= fun r6 =>
  weirref3_count a0 5 >>= fun r7 =>
  pure (⟨r3, r4, r5, r6, r7⟩ : api_RingStat)
theorem weirref3_Stat_ok (a0 : weirref3_Port) : Ref Try.prog 53 [c_weirref3_Port.val a0] (weirref3_Stat a0) weirref3_Stat.out := by
  refine Ref.of (cd := weirref3_Stat.B) Try.func53 ?_
  show SJ weirref3_Stat.cx [.code weirref3_Stat.B] [(0, c_weirref3_Port.val a0)] [] (weirref3_Stat a0) weirref3_Stat.F0
  unfold weirref3_Stat
  refine SJ.sr 2 ?_
  refine OJ.slotOf (d := 1) (op := (.box 59 (.tmp 0))) (cd := c_weirref3_Port) (u := a0) (owed := []) (box_run (by kernel_rfl)) (fun b1 => ?_)
  refine OW.nil ?_
  refine OJ.slotOf (d := 2) (op := (.alloc 52)) (cd := c_api_RingStat) (u := z_api_RingStat) (owed := []) (alloc_run Ty52) (fun b2 => ?_)
  refine OW.nil ?_
  refine OJ.nil ?_
  refine SJ.seq ?_
  refine SJ.draw (id := 1) (kd := [1, 2, 1, 2, 1, 2, 1, 2, 1, 2, 0, 2]) (bef := [0, 1, 0, 7, 0, 31, 0, 127, 0, 511, 1023, 2047]) (ord := [0, 2, 4, 6, 8, 1, 3, 5, 7, 9, 10, 11]) mixed ?_
  refine OJ.kld (d := 3) (y := .tmp 1) (cd := c_weirref3_Port) (j := 1) (b := b1) (o := 0) a0 (pend2 := [⟨0, 59, (pt b1 0), c_weirref3_Port.val a0⟩]) Ty59 rfl (At.whole _) rfl ?_
  refine OJ.kld (d := 5) (y := .tmp 1) (cd := c_weirref3_Port) (j := 1) (b := b1) (o := 0) a0 (pend2 := [⟨2, 59, (pt b1 0), c_weirref3_Port.val a0⟩, ⟨0, 59, (pt b1 0), c_weirref3_Port.val a0⟩]) Ty59 rfl (At.whole _) rfl ?_
  refine OJ.kld (d := 7) (y := .tmp 1) (cd := c_weirref3_Port) (j := 1) (b := b1) (o := 0) a0 (pend2 := [⟨4, 59, (pt b1 0), c_weirref3_Port.val a0⟩, ⟨2, 59, (pt b1 0), c_weirref3_Port.val a0⟩, ⟨0, 59, (pt b1 0), c_weirref3_Port.val a0⟩]) Ty59 rfl (At.whole _) rfl ?_
  refine OJ.kld (d := 9) (y := .tmp 1) (cd := c_weirref3_Port) (j := 1) (b := b1) (o := 0) a0 (pend2 := [⟨6, 59, (pt b1 0), c_weirref3_Port.val a0⟩, ⟨4, 59, (pt b1 0), c_weirref3_Port.val a0⟩, ⟨2, 59, (pt b1 0), c_weirref3_Port.val a0⟩, ⟨0, 59, (pt b1 0), c_weirref3_Port.val a0⟩]) Ty59 rfl (At.whole _) rfl ?_
  refine OJ.kld (d := 11) (y := .tmp 1) (cd := c_weirref3_Port) (j := 1) (b := b1) (o := 0) a0 (pend2 := [⟨8, 59, (pt b1 0), c_weirref3_Port.val a0⟩, ⟨6, 59, (pt b1 0), c_weirref3_Port.val a0⟩, ⟨4, 59, (pt b1 0), c_weirref3_Port.val a0⟩, ⟨2, 59, (pt b1 0), c_weirref3_Port.val a0⟩, ⟨0, 59, (pt b1 0), c_weirref3_Port.val a0⟩]) Ty59 rfl (At.whole _) rfl ?_
  refine OJ.call (d := 4) (g := 63) (ats := #[59, 3]) (args := [.tmp 3, .const (.int .i64 1)]) (owed := [⟨8, 59, (pt b1 0), c_weirref3_Port.val a0⟩, ⟨6, 59, (pt b1 0), c_weirref3_Port.val a0⟩, ⟨4, 59, (pt b1 0), c_weirref3_Port.val a0⟩, ⟨2, 59, (pt b1 0), c_weirref3_Port.val a0⟩]) F63 (weirref3_count_ok a0 1) (fun r3 => ?_)
  refine OW.known (j := 1) (q := a0) Ty59 rfl (At.whole _) ?_
  refine OW.known (j := 1) (q := a0) Ty59 rfl (At.whole _) ?_
  refine OW.known (j := 1) (q := a0) Ty59 rfl (At.whole _) ?_
  refine OW.known (j := 1) (q := a0) Ty59 rfl (At.whole _) ?_
  refine OW.nil ?_
  refine OJ.call (d := 6) (g := 63) (ats := #[59, 3]) (args := [.tmp 5, .const (.int .i64 2)]) (owed := [⟨8, 59, (pt b1 0), c_weirref3_Port.val a0⟩, ⟨6, 59, (pt b1 0), c_weirref3_Port.val a0⟩, ⟨4, 59, (pt b1 0), c_weirref3_Port.val a0⟩]) F63 (weirref3_count_ok a0 2) (fun r4 => ?_)
  refine OW.known (j := 1) (q := a0) Ty59 rfl (At.whole _) ?_
  refine OW.known (j := 1) (q := a0) Ty59 rfl (At.whole _) ?_
  refine OW.known (j := 1) (q := a0) Ty59 rfl (At.whole _) ?_
  refine OW.nil ?_
  refine OJ.call (d := 8) (g := 63) (ats := #[59, 3]) (args := [.tmp 7, .const (.int .i64 3)]) (owed := [⟨8, 59, (pt b1 0), c_weirref3_Port.val a0⟩, ⟨6, 59, (pt b1 0), c_weirref3_Port.val a0⟩]) F63 (weirref3_count_ok a0 3) (fun r5 => ?_)
  refine OW.known (j := 1) (q := a0) Ty59 rfl (At.whole _) ?_
  refine OW.known (j := 1) (q := a0) Ty59 rfl (At.whole _) ?_
  refine OW.nil ?_
  refine OJ.call (d := 10) (g := 63) (ats := #[59, 3]) (args := [.tmp 9, .const (.int .i64 4)]) (owed := [⟨8, 59, (pt b1 0), c_weirref3_Port.val a0⟩]) F63 (weirref3_count_ok a0 4) (fun r6 => ?_)
  refine OW.known (j := 1) (q := a0) Ty59 rfl (At.whole _) ?_
  refine OW.nil ?_
  refine OJ.call (d := 12) (g := 63) (ats := #[59, 3]) (args := [.tmp 11, .const (.int .i64 5)]) (owed := []) F63 (weirref3_count_ok a0 5) (fun r7 => ?_)
  refine OW.nil ?_
  refine OJ.build (d := 13) (T := 52) (parts := [(0, .tmp 4), (1, .tmp 6), (2, .tmp 8), (3, .tmp 10), (4, .tmp 12)]) (ps := [(0, (cI .i64).val r3), (1, (cI .i64).val r4), (2, (cI .i64).val r5), (3, (cI .i64).val r6), (4, (cI .i64).val r7)]) (cd := c_api_RingStat) (z0 := z_api_RingStat) (⟨r3, r4, r5, r6, r7⟩ : api_RingStat) Ty52 rfl (Filled.cons (cd := (cI .i64)) (q := r3) (o := 0) (by kernel_rfl) (Up_api_RingStat_Free z_api_RingStat r3) (Filled.cons (cd := (cI .i64)) (q := r4) (o := 1) (by kernel_rfl) (Up_api_RingStat_Posted (⟨r3, z_api_RingStat.Posted, z_api_RingStat.Filled, z_api_RingStat.Held, z_api_RingStat.Queued⟩ : api_RingStat) r4) (Filled.cons (cd := (cI .i64)) (q := r5) (o := 2) (by kernel_rfl) (Up_api_RingStat_Filled (⟨r3, r4, z_api_RingStat.Filled, z_api_RingStat.Held, z_api_RingStat.Queued⟩ : api_RingStat) r5) (Filled.cons (cd := (cI .i64)) (q := r6) (o := 3) (by kernel_rfl) (Up_api_RingStat_Held (⟨r3, r4, r5, z_api_RingStat.Held, z_api_RingStat.Queued⟩ : api_RingStat) r6) (Filled.cons (cd := (cI .i64)) (q := r7) (o := 4) (by kernel_rfl) (Up_api_RingStat_Queued (⟨r3, r4, r5, r6, z_api_RingStat.Queued⟩ : api_RingStat) r7) Filled.nil))))) ?_
  refine OJ.kst (y := .tmp 2) (z := .tmp 13) (cd := c_api_RingStat) (u := (⟨r3, r4, r5, r6, r7⟩ : api_RingStat)) (j := 0) (b := b2) (o := 0) (c_api_RingStat.enc (⟨r3, r4, r5, r6, r7⟩ : api_RingStat)) (owed := []) Ty52 rfl (Upd.whole ((Cod.len _ _).trans (Cod.len _ _).symm)) rfl ?_
  refine OW.nil ?_
  refine OJ.nil ?_
  exact SJ.ret rfl (Res.run (ys := [c_api_RingStat.val (⟨r3, r4, r5, r6, r7⟩ : api_RingStat)]) (.cell (j := 0) (b := b2) (cd := c_api_RingStat) (q := (⟨r3, r4, r5, r6, r7⟩ : api_RingStat)) (by kernel_rfl) rfl Ty52 (At.whole _) .nil) rfl)

/-! ### weir/weirlaw3.told: function 31 -/
noncomputable def weirlaw3_told.B : Code := (Try.f31.body).getD .skip
noncomputable def weirlaw3_told.cx : Fx := ⟨Try.prog, 31, Try.f31⟩
noncomputable def weirlaw3_told.out (r_ : Bool) : Value := .bool r_
noncomputable def weirlaw3_told.F0 (r_ : Bool) : Reach := .ret (weirlaw3_told.out r_)
noncomputable def weirlaw3_told.F1 (r2 : Sl) (r3 : Sl) : (LS Int Bool) → Reach := loopF [.inLoop (c1 (c1 (c2 (c1 (c2 (c2 (c2 (c2 weirlaw3_told.B)))))))), .inBlock 0, .code (c2 (c2 (c2 (c2 (c2 weirlaw3_told.B)))))] (fun s_ : Int => [(3, Sl.v r2), (4, Sl.v r3), (5, .int .i64 s_)]) (fun s_ : Int => []) weirlaw3_told.F0
noncomputable def weirlaw3_told.L1 (r2 : Sl) (r3 : Sl) (s7 : Int) : M (LS Int Bool) :=
  if s7 < (r2.len : Int) then
    draw >>= fun _ =>
    idx r2.a r2.len s7 1 >>= fun p15 =>
    ld (cI .i64) p15 >>= fun x16 =>
    idx r3.a r3.len s7 1 >>= fun p17 =>
    ld (cI .i64) p17 >>= fun x18 =>
    if x16 ≠ x18 then
      pure (LS.done false)
    else
      idx r2.a r2.len s7 1 >>= fun p19 =>
      st (cI .i64) p19 9 >>= fun _ =>
      pure (LS.next (IntKind.wrap .i64 (s7 + 1)))
  else
    pure (LS.done true)
theorem weirlaw3_told.L1_ok (r2 : Sl) (r3 : Sl) (s7 : Int) :
    SJ weirlaw3_told.cx [.code (c1 (c1 (c2 (c1 (c2 (c2 (c2 (c2 weirlaw3_told.B)))))))), .inLoop (c1 (c1 (c2 (c1 (c2 (c2 (c2 (c2 weirlaw3_told.B)))))))), .inBlock 0, .code (c2 (c2 (c2 (c2 (c2 weirlaw3_told.B)))))] [(3, Sl.v r2), (4, Sl.v r3), (5, .int .i64 s7)] [] (weirlaw3_told.L1 r2 r3 s7) (weirlaw3_told.F1 r2 r3) := by
  unfold weirlaw3_told.L1
  refine SJ.seq ?_
  refine SJ.sr 4 ?_
  refine OJ.go 4 [(29, .bool (decide (s7 < (r2.len : Int)))), (28, .int .i64 (r2.len : Int)), (27, Sl.v r2), (26, .int .i64 s7)] ?_
  refine OJ.nil ?_
  refine SJ.cond (t := (.tmp 29)) (b := decide (s7 < (r2.len : Int))) decide_eq_true_iff (fun hc21 => ?_) (fun hc21 => ?_)
  · refine SJ.skip ?_
    refine SJ.seq ?_
    refine SJ.block (id := 1) ?_
    refine SJ.seq ?_
    refine SJ.seq ?_
    refine SJ.draw (id := 8) (kd := [0, 0, 0, 1, 0, 0, 0, 1, 0]) (bef := [0, 0, 3, 7, 0, 0, 48, 112, 255]) (ord := [0, 1, 2, 3, 4, 5, 6, 7, 8]) mixed ?_
    refine OJ.go 2 [(33, .int .i64 s7), (32, Sl.v r2)] ?_
    refine OJ.idxS (d := 34) (T := 67) (y := .tmp 32) (j := .tmp 33) (E := 3) (cap := r2.cap) (k := .i64) (fun p15 => ?_)
    refine OJ.ld (d := 35) (y := .tmp 34) (pend2 := fun x16 => [⟨3, 3, p15, (cI .i64).val x16⟩]) Ty3 (fun _ => rfl) (fun x16 => ?_)
    refine OJ.go 2 [(37, .int .i64 s7), (36, Sl.v r3)] ?_
    refine OJ.idxS (d := 38) (T := 67) (y := .tmp 36) (j := .tmp 37) (E := 3) (cap := r3.cap) (k := .i64) (fun p17 => ?_)
    refine OJ.ld (d := 39) (y := .tmp 38) (pend2 := fun x18 => [⟨7, 3, p17, (cI .i64).val x18⟩, ⟨3, 3, p15, (cI .i64).val x16⟩]) Ty3 (fun _ => rfl) (fun x18 => ?_)
    refine OJ.go 1 [(40, .bool (x16 != x18))] ?_
    refine OJ.nil ?_
    refine SJ.cond (t := (.tmp 40)) (b := (x16 != x18)) bne_iff_ne (fun hc20 => ?_) (fun hc20 => ?_)
    · refine SJ.sr 1 ?_
      refine OJ.go 1 [(2, .bool false)] ?_
      refine OJ.nil ?_
      exact SJ.ret rfl (Res.run (ys := [.bool false]) (.tmp (by kernel_rfl) .nil) rfl)
    · refine SJ.skip ?_
      refine SJ.rg 4 ?_
      refine OJ.go 2 [(42, .int .i64 s7), (41, Sl.v r2)] ?_
      refine OJ.idxS (d := 43) (T := 67) (y := .tmp 41) (j := .tmp 42) (E := 3) (cap := r2.cap) (k := .i64) (fun p19 => ?_)
      refine OJ.st (y := .tmp 43) (z := .const (.int .i64 9)) (owed := []) Ty3 ?_
      refine OW.nil ?_
      refine OJ.nil ?_
      refine SJ.inBlock ?_
      refine SJ.rg 3 ?_
      refine OJ.go 3 [(5, .int .i64 (IntKind.wrap .i64 (s7 + 1))), (31, .int .i64 (IntKind.wrap .i64 (s7 + 1))), (30, .int .i64 s7)] ?_
      refine OJ.nil ?_
      exact SJ.at_ [3, 4, 5] rfl
  · refine SJ.exit (id := 0) (by rfl) ?_
    refine SJ.sr 1 ?_
    refine OJ.go 1 [(2, .bool true)] ?_
    refine OJ.nil ?_
    exact SJ.ret rfl (Res.run (ys := [.bool true]) (.tmp (by kernel_rfl) .nil) rfl)
noncomputable def weirlaw3_told (a0 : weirlaw3_Side) : M Bool :=
  slot 62 >>= fun b1 =>
  ring_Port_Places a0.P >>= fun r2 =>
  weirref3_Places a0.R >>= fun r3 =>
  draw >>= fun _ =>
  (if (r2.len : Int) ≠ (r3.len : Int) then
      pure true
    else
      ring_Port_Stat a0.P >>= fun r4 =>
      weirref3_Stat a0.R >>= fun r5 =>
      pure (!eqv r4 r5)) >>= fun y6 =>
  if y6 = true then
    pure false
  else
    loopM (fun s_ : Int => weirlaw3_told.L1 r2 r3 s_) 0
theorem weirlaw3_told_ok (a0 : weirlaw3_Side) : Ref Try.prog 31 [c_weirlaw3_Side.val a0] (weirlaw3_told a0) weirlaw3_told.out := by
  refine Ref.of (cd := weirlaw3_told.B) Try.func31 ?_
  show SJ weirlaw3_told.cx [.code weirlaw3_told.B] [(0, c_weirlaw3_Side.val a0)] [] (weirlaw3_told a0) weirlaw3_told.F0
  unfold weirlaw3_told
  refine SJ.sr 2 ?_
  refine OJ.slotOf (d := 1) (op := (.box 62 (.tmp 0))) (cd := c_weirlaw3_Side) (u := a0) (owed := []) (box_run (by kernel_rfl)) (fun b1 => ?_)
  refine OW.nil ?_
  refine OJ.go 1 [(2, .bool false)] ?_
  refine OJ.nil ?_
  refine SJ.sr 4 ?_
  refine OJ.go 1 [(6, .pointer (some (pt b1 0)))] ?_
  refine OJ.kld (d := 7) (y := .tmp 6) (cd := cP) (j := 0) (b := b1) (o := 0) a0.P (pend2 := []) Ty23 rfl (At_weirlaw3_Side_P a0) rfl ?_
  refine OJ.call (d := 8) (g := 32) (ats := #[23]) (args := [.tmp 7]) (owed := []) F32 (ring_Port_Places_ok a0.P) (fun r2 => ?_)
  refine OW.nil ?_
  refine OJ.go 1 [(3, Sl.v r2)] ?_
  refine OJ.nil ?_
  refine SJ.sr 4 ?_
  refine OJ.go 1 [(9, .pointer (some (pt b1 1)))] ?_
  refine OJ.kld (d := 10) (y := .tmp 9) (cd := c_weirref3_Port) (j := 0) (b := b1) (o := 1) a0.R (pend2 := []) Ty59 rfl (At_weirlaw3_Side_R a0) rfl ?_
  refine OJ.call (d := 11) (g := 52) (ats := #[59]) (args := [.tmp 10]) (owed := []) F52 (weirref3_Places_ok a0.R) (fun r3 => ?_)
  refine OW.nil ?_
  refine OJ.go 1 [(4, Sl.v r3)] ?_
  refine OJ.nil ?_
  refine SJ.seq ?_
  refine SJ.seq ?_
  refine SJ.draw (id := 3) (kd := [0, 0, 0, 0, 0, 0, 0, 1, 2, 0, 1, 2, 0, 0]) (bef := [0, 1, 0, 4, 15, 31, 63, 127, 255, 63, 575, 2047, 4095, 8191]) (ord := [0, 1, 2, 3, 4, 5, 6, 7, 9, 10, 8, 11, 12, 13]) mixed ?_
  refine OJ.go 6 [(17, .bool ((r2.len : Int) != (r3.len : Int))), (16, .bool ((r2.len : Int) != (r3.len : Int))), (15, .int .i64 (r3.len : Int)), (14, Sl.v r3), (13, .int .i64 (r2.len : Int)), (12, Sl.v r2)] ?_
  refine OJ.join (b := ((r2.len : Int) != (r3.len : Int))) [6, 7, 9, 10, 8, 11, 12, 13] [] [3, 4, 25] (fun y6 => [(3, Sl.v r2), (4, Sl.v r3), (25, .bool y6)]) [⟨10, 59, (pt b1 1), c_weirref3_Port.val a0.R⟩, ⟨7, 23, (pt b1 0), cP.val a0.P⟩] [] (t := 17) bne_iff_ne (fun hp_ => ?_) (fun hp_ => ?_) (fun _ _ _ _ _ _ h_ => h_) (fun y6 => ?_)
  · refine OJ.go 8 [(25, .bool true), (24, undef), (23, undef), (20, undef), (22, undef), (21, undef), (19, undef), (18, undef)] ?_
    exact OJ.nil ⟨(Cov.mem Cov.nil), rfl, _, rfl, by kernel_rfl⟩
  · refine OJ.go 1 [(18, .pointer (some (pt b1 0)))] ?_
    refine OJ.kld (d := 19) (y := .tmp 18) (cd := cP) (j := 0) (b := b1) (o := 0) a0.P (pend2 := [⟨7, 23, (pt b1 0), cP.val a0.P⟩]) Ty23 rfl (At_weirlaw3_Side_P a0) rfl ?_
    refine OJ.go 1 [(21, .pointer (some (pt b1 1)))] ?_
    refine OJ.kld (d := 22) (y := .tmp 21) (cd := c_weirref3_Port) (j := 0) (b := b1) (o := 1) a0.R (pend2 := [⟨10, 59, (pt b1 1), c_weirref3_Port.val a0.R⟩, ⟨7, 23, (pt b1 0), cP.val a0.P⟩]) Ty59 rfl (At_weirlaw3_Side_R a0) rfl ?_
    refine OJ.call (d := 20) (g := 27) (ats := #[23]) (args := [.tmp 19]) (owed := [⟨10, 59, (pt b1 1), c_weirref3_Port.val a0.R⟩]) F27 (ring_Port_Stat_ok a0.P) (fun r4 => ?_)
    refine OW.known (j := 0) (q := a0.R) Ty59 rfl (At_weirlaw3_Side_R a0) ?_
    refine OW.nil ?_
    refine OJ.call (d := 23) (g := 53) (ats := #[59]) (args := [.tmp 22]) (owed := []) F53 (weirref3_Stat_ok a0.R) (fun r5 => ?_)
    refine OW.nil ?_
    refine OJ.neq (d := 24) (T := 52) (yT := 52) (y := .tmp 20) (z := .tmp 23) (cd := c_api_RingStat) (p := r4) (q := r5) rfl Eq52 ?_
    refine OJ.go 1 [(25, .bool (!eqv r4 r5))] ?_
    exact OJ.nil ⟨(Cov.mem (Cov.keep (List.mem_of_getElem? (i := 0) rfl) (Cov.keep (List.mem_of_getElem? (i := 1) rfl) Cov.nil))), rfl, _, rfl, by kernel_rfl⟩
  · refine OJ.nil ?_
    refine SJ.cond (t := (.tmp 25)) (b := y6) Iff.rfl (fun hc22 => ?_) (fun hc22 => ?_)
    · refine SJ.sr 1 ?_
      refine OJ.go 1 [(2, .bool false)] ?_
      refine OJ.nil ?_
      exact SJ.ret rfl (Res.run (ys := [.bool false]) (.tmp (by kernel_rfl) .nil) rfl)
    · refine SJ.skip ?_
      refine SJ.seq ?_
      refine SJ.sr 1 ?_
      refine OJ.go 1 [(5, .int .i64 0)] ?_
      refine OJ.nil ?_
      refine SJ.block (id := 0) ?_
      refine SJ.forget (List.Sublist.cons _ List.Sublist.slnil) ?_
      exact SJ.loop (fun s_ : Int => [(3, Sl.v r2), (4, Sl.v r3), (5, .int .i64 s_)]) (fun s_ : Int => []) [3, 4, 5] rfl (fun _ _ => rfl) (fun s_ => weirlaw3_told.L1_ok r2 r3 s_)

/-! ### weir/weirlaw3.one: function 74 -/
noncomputable def weirlaw3_one.B : Code := (Try.f74.body).getD .skip
noncomputable def weirlaw3_one.cx : Fx := ⟨Try.prog, 74, Try.f74⟩
noncomputable def weirlaw3_one.out (r_ : Int) : Value := .int .i64 r_
noncomputable def weirlaw3_one.F0 (r_ : Int) : Reach := .ret (weirlaw3_one.out r_)
noncomputable def weirlaw3_one (a0 : weirlaw3_Side) (a1 : Int) : M Int :=
  slot 62 >>= fun b1 =>
  chk ((a0.W.len : Int) ≠ 0) >>= fun _ =>
  if (Int.tmod a1 (a0.W.len : Int)) < 0 then
    pure (IntKind.wrap .i64 ((Int.tmod a1 (a0.W.len : Int)) + (a0.W.len : Int)))
  else
    pure (Int.tmod a1 (a0.W.len : Int))
theorem weirlaw3_one_ok (a0 : weirlaw3_Side) (a1 : Int) : Ref Try.prog 74 [c_weirlaw3_Side.val a0, .int .i64 a1] (weirlaw3_one a0 a1) weirlaw3_one.out := by
  refine Ref.of (cd := weirlaw3_one.B) Try.func74 ?_
  show SJ weirlaw3_one.cx [.code weirlaw3_one.B] [(0, c_weirlaw3_Side.val a0), (1, .int .i64 a1)] [] (weirlaw3_one a0 a1) weirlaw3_one.F0
  unfold weirlaw3_one
  refine SJ.sr 2 ?_
  refine OJ.slotOf (d := 2) (op := (.box 62 (.tmp 0))) (cd := c_weirlaw3_Side) (u := a0) (owed := []) (box_run (by kernel_rfl)) (fun b1 => ?_)
  refine OW.nil ?_
  refine OJ.go 1 [(4, .int .i64 0)] ?_
  refine OJ.nil ?_
  refine SJ.sr 6 ?_
  refine OJ.go 2 [(7, .pointer (some (pt b1 6))), (6, .int .i64 a1)] ?_
  refine OJ.kld (d := 8) (y := .tmp 7) (cd := cL) (j := 0) (b := b1) (o := 6) a0.W (pend2 := []) Ty60 rfl (At_weirlaw3_Side_W a0) rfl ?_
  refine OJ.go 1 [(9, .int .i64 (a0.W.len : Int))] ?_
  refine OJ.rem (d := 10) (T := 3) (yT := 3) (y := .tmp 6) (z := .tmp 9) (p := a1) (q := (a0.W.len : Int)) (k := .i64) (fun hq3 => ?_)
  refine OJ.go 1 [(5, .int .i64 (Int.tmod a1 (a0.W.len : Int)))] ?_
  refine OJ.nil ?_
  refine SJ.seq ?_
  refine SJ.sr 2 ?_
  refine OJ.go 2 [(12, .bool (decide ((Int.tmod a1 (a0.W.len : Int)) < 0))), (11, .int .i64 (Int.tmod a1 (a0.W.len : Int)))] ?_
  refine OJ.nil ?_
  refine SJ.cond (t := (.tmp 12)) (b := decide ((Int.tmod a1 (a0.W.len : Int)) < 0)) decide_eq_true_iff (fun hc2 => ?_) (fun hc2 => ?_)
  · refine SJ.rg 6 ?_
    refine OJ.go 2 [(14, .pointer (some (pt b1 6))), (13, .int .i64 (Int.tmod a1 (a0.W.len : Int)))] ?_
    refine OJ.kld (d := 15) (y := .tmp 14) (cd := cL) (j := 0) (b := b1) (o := 6) a0.W (pend2 := []) Ty60 rfl (At_weirlaw3_Side_W a0) rfl ?_
    refine OJ.go 3 [(5, .int .i64 (IntKind.wrap .i64 ((Int.tmod a1 (a0.W.len : Int)) + (a0.W.len : Int)))), (17, .int .i64 (IntKind.wrap .i64 ((Int.tmod a1 (a0.W.len : Int)) + (a0.W.len : Int)))), (16, .int .i64 (a0.W.len : Int))] ?_
    refine OJ.nil ?_
    refine SJ.sr 2 ?_
    refine OJ.go 2 [(4, .int .i64 (IntKind.wrap .i64 ((Int.tmod a1 (a0.W.len : Int)) + (a0.W.len : Int)))), (18, .int .i64 (IntKind.wrap .i64 ((Int.tmod a1 (a0.W.len : Int)) + (a0.W.len : Int))))] ?_
    refine OJ.nil ?_
    exact SJ.ret rfl (Res.run (ys := [.int .i64 (IntKind.wrap .i64 ((Int.tmod a1 (a0.W.len : Int)) + (a0.W.len : Int)))]) (.tmp (by kernel_rfl) .nil) rfl)
  · refine SJ.skip ?_
    refine SJ.sr 2 ?_
    refine OJ.go 2 [(4, .int .i64 (Int.tmod a1 (a0.W.len : Int))), (18, .int .i64 (Int.tmod a1 (a0.W.len : Int)))] ?_
    refine OJ.nil ?_
    exact SJ.ret rfl (Res.run (ys := [.int .i64 (Int.tmod a1 (a0.W.len : Int))]) (.tmp (by kernel_rfl) .nil) rfl)

/-! ### weir/weirref3.Write: function 75 -/
noncomputable def weirref3_Write.B : Code := (Try.f75.body).getD .skip
noncomputable def weirref3_Write.cx : Fx := ⟨Try.prog, 75, Try.f75⟩
noncomputable def weirref3_Write.out (r_ : weirref3_Port) : Value := c_weirref3_Port.val r_
noncomputable def weirref3_Write.F0 (r_ : weirref3_Port) : Reach := .ret (weirref3_Write.out r_)
noncomputable def weirref3_Write.K1 (a0 : weirref3_Port) (a1 : Int) (a2 : Int) (a3 : Int) (x4 : weirref3_Buf) (j6 : Int) : M weirref3_Port :=
  weirref3_Bytes a0 a1 j6 >>= fun r7 =>
  idx r7.a r7.len a2 1 >>= fun p8 =>
  st (cI .u8) p8 a3 >>= fun _ =>
  weirref3_put a0 a1 (⟨x4.Place, x4.Since, x4.N, r7⟩ : weirref3_Buf) >>= fun r9 =>
  pure r9
theorem weirref3_Write.K1_ok (a0 : weirref3_Port) (a1 : Int) (a2 : Int) (a3 : Int) (b1 : Nat) (b2 : Nat) (x4 : weirref3_Buf) (b5 : Nat) (j6 : Int) :
    SJ weirref3_Write.cx [.code (c2 (c2 (c2 (c2 weirref3_Write.B))))] [(1, .int .i64 a1), (2, .int .i64 a2), (3, .int .u8 a3), (4, .pointer (some (pt b1 0))), (8, .pointer (some (pt b2 0))), (9, .pointer (some (pt b5 0))), (10, .int .i64 j6)] [(b5, c_weirref3_Buf.enc x4), (b2, c_weirref3_Port.enc z_weirref3_Port), (b1, c_weirref3_Port.enc a0)] (weirref3_Write.K1 a0 a1 a2 a3 x4 j6) weirref3_Write.F0 := by
  unfold weirref3_Write.K1
  refine SJ.sr 6 ?_
  refine OJ.kld (d := 25) (y := .tmp 4) (cd := c_weirref3_Port) (j := 2) (b := b1) (o := 0) a0 (pend2 := []) Ty59 rfl (At.whole _) rfl ?_
  refine OJ.go 2 [(27, .int .i64 j6), (26, .int .i64 a1)] ?_
  refine OJ.call (d := 28) (g := 76) (ats := #[59, 3, 3]) (args := [.tmp 25, .tmp 26, .tmp 27]) (owed := []) F76 (weirref3_Bytes_ok a0 a1 j6) (fun r7 => ?_)
  refine OW.nil ?_
  refine OJ.go 1 [(29, .pointer (some (pt b5 3)))] ?_
  refine OJ.kst (y := .tmp 29) (z := .tmp 28) (cd := cL) (u := r7) (j := 0) (b := b5) (o := 3) (c_weirref3_Buf.enc (⟨x4.Place, x4.Since, x4.N, r7⟩ : weirref3_Buf)) (owed := []) Ty22 rfl (Up_weirref3_Buf_Data x4 r7) rfl ?_
  refine OW.nil ?_
  refine OJ.nil ?_
  refine SJ.sr 6 ?_
  refine OJ.go 1 [(30, .pointer (some (pt b5 3)))] ?_
  refine OJ.kld (d := 31) (y := .tmp 30) (cd := cL) (j := 0) (b := b5) (o := 3) r7 (pend2 := []) Ty22 rfl (At_weirref3_Buf_Data (⟨x4.Place, x4.Since, x4.N, r7⟩ : weirref3_Buf)) rfl ?_
  refine OJ.go 2 [(33, .int .u8 a3), (32, .int .i64 a2)] ?_
  refine OJ.idxS (d := 34) (T := 22) (y := .tmp 31) (j := .tmp 32) (E := 5) (cap := r7.cap) (k := .i64) (fun p8 => ?_)
  refine OJ.st (y := .tmp 34) (z := .tmp 33) (owed := []) Ty5 ?_
  refine OW.nil ?_
  refine OJ.nil ?_
  refine SJ.sr 5 ?_
  refine OJ.kld (d := 35) (y := .tmp 4) (cd := c_weirref3_Port) (j := 2) (b := b1) (o := 0) a0 (pend2 := []) Ty59 rfl (At.whole _) rfl ?_
  refine OJ.go 1 [(36, .int .i64 a1)] ?_
  refine OJ.kld (d := 37) (y := .tmp 9) (cd := c_weirref3_Buf) (j := 0) (b := b5) (o := 0) (⟨x4.Place, x4.Since, x4.N, r7⟩ : weirref3_Buf) (pend2 := []) Ty110 rfl (At.whole _) rfl ?_
  refine OJ.call (d := 38) (g := 79) (ats := #[59, 3, 110]) (args := [.tmp 35, .tmp 36, .tmp 37]) (owed := []) F79 (weirref3_put_ok a0 a1 (⟨x4.Place, x4.Since, x4.N, r7⟩ : weirref3_Buf)) (fun r9 => ?_)
  refine OW.nil ?_
  refine OJ.kst (y := .tmp 8) (z := .tmp 38) (cd := c_weirref3_Port) (u := r9) (j := 1) (b := b2) (o := 0) (c_weirref3_Port.enc r9) (owed := []) Ty59 rfl (Upd.whole ((Cod.len _ _).trans (Cod.len _ _).symm)) rfl ?_
  refine OW.nil ?_
  refine OJ.nil ?_
  exact SJ.ret rfl (Res.run (ys := [c_weirref3_Port.val r9]) (.cell (j := 1) (b := b2) (cd := c_weirref3_Port) (q := r9) (by kernel_rfl) rfl Ty59 (At.whole _) .nil) rfl)
noncomputable def weirref3_Write (a0 : weirref3_Port) (a1 : Int) (a2 : Int) (a3 : Int) : M weirref3_Port :=
  slot 59 >>= fun b1 =>
  slot 59 >>= fun b2 =>
  idx a0.L.a a0.L.len a1 4 >>= fun p3 =>
  ld c_weirref3_Buf p3 >>= fun x4 =>
  slot 110 >>= fun b5 =>
  if (x4.Data.len : Int) < (IntKind.wrap .i64 (a2 + 1)) then
    weirref3_Write.K1 a0 a1 a2 a3 x4 (IntKind.wrap .i64 (a2 + 1))
  else
    weirref3_Write.K1 a0 a1 a2 a3 x4 (x4.Data.len : Int)
theorem weirref3_Write_ok (a0 : weirref3_Port) (a1 : Int) (a2 : Int) (a3 : Int) : Ref Try.prog 75 [c_weirref3_Port.val a0, .int .i64 a1, .int .i64 a2, .int .u8 a3] (weirref3_Write a0 a1 a2 a3) weirref3_Write.out := by
  refine Ref.of (cd := weirref3_Write.B) Try.func75 ?_
  show SJ weirref3_Write.cx [.code weirref3_Write.B] [(0, c_weirref3_Port.val a0), (1, .int .i64 a1), (2, .int .i64 a2), (3, .int .u8 a3)] [] (weirref3_Write a0 a1 a2 a3) weirref3_Write.F0
  unfold weirref3_Write
  refine SJ.sr 2 ?_
  refine OJ.slotOf (d := 4) (op := (.box 59 (.tmp 0))) (cd := c_weirref3_Port) (u := a0) (owed := []) (box_run (by kernel_rfl)) (fun b1 => ?_)
  refine OW.nil ?_
  refine OJ.slotOf (d := 8) (op := (.alloc 59)) (cd := c_weirref3_Port) (u := z_weirref3_Port) (owed := []) (alloc_run Ty59) (fun b2 => ?_)
  refine OW.nil ?_
  refine OJ.nil ?_
  refine SJ.sr 7 ?_
  refine OJ.go 1 [(11, .pointer (some (pt b1 3)))] ?_
  refine OJ.kld (d := 12) (y := .tmp 11) (cd := cL) (j := 1) (b := b1) (o := 3) a0.L (pend2 := []) Ty57 rfl (At_weirref3_Port_L a0) rfl ?_
  refine OJ.go 1 [(13, .int .i64 a1)] ?_
  refine OJ.idxS (d := 14) (T := 57) (y := .tmp 12) (j := .tmp 13) (E := 110) (cap := a0.L.cap) (k := .i64) (fun p3 => ?_)
  refine OJ.ld (d := 15) (y := .tmp 14) (pend2 := fun x4 => []) Ty110 (fun _ => rfl) (fun x4 => ?_)
  refine OJ.slotOf (d := 9) (op := (.alloc 110)) (cd := c_weirref3_Buf) (u := z_weirref3_Buf) (owed := []) (alloc_run Ty110) (fun b5 => ?_)
  refine OW.nil ?_
  refine OJ.kst (y := .tmp 9) (z := .tmp 15) (cd := c_weirref3_Buf) (u := x4) (j := 0) (b := b5) (o := 0) (c_weirref3_Buf.enc x4) (owed := []) Ty110 rfl (Upd.whole ((Cod.len _ _).trans (Cod.len _ _).symm)) rfl ?_
  refine OW.nil ?_
  refine OJ.nil ?_
  refine SJ.sr 4 ?_
  refine OJ.go 1 [(16, .pointer (some (pt b5 3)))] ?_
  refine OJ.kld (d := 17) (y := .tmp 16) (cd := cL) (j := 0) (b := b5) (o := 3) x4.Data (pend2 := []) Ty22 rfl (At_weirref3_Buf_Data x4) rfl ?_
  refine OJ.go 2 [(10, .int .i64 (x4.Data.len : Int)), (18, .int .i64 (x4.Data.len : Int))] ?_
  refine OJ.nil ?_
  refine SJ.seq ?_
  refine SJ.sr 4 ?_
  refine OJ.go 4 [(22, .bool (decide ((x4.Data.len : Int) < (IntKind.wrap .i64 (a2 + 1))))), (21, .int .i64 (IntKind.wrap .i64 (a2 + 1))), (20, .int .i64 a2), (19, .int .i64 (x4.Data.len : Int))] ?_
  refine OJ.nil ?_
  refine SJ.cond (t := (.tmp 22)) (b := decide ((x4.Data.len : Int) < (IntKind.wrap .i64 (a2 + 1)))) decide_eq_true_iff (fun hc10 => ?_) (fun hc10 => ?_)
  · refine SJ.rg 3 ?_
    refine OJ.go 3 [(10, .int .i64 (IntKind.wrap .i64 (a2 + 1))), (24, .int .i64 (IntKind.wrap .i64 (a2 + 1))), (23, .int .i64 a2)] ?_
    refine OJ.nil ?_
    refine SJ.less [1, 2, 3, 4, 8, 9, 10] (m' := [(1, .int .i64 a1), (2, .int .i64 a2), (3, .int .u8 a3), (4, .pointer (some (pt b1 0))), (8, .pointer (some (pt b2 0))), (9, .pointer (some (pt b5 0))), (10, .int .i64 (IntKind.wrap .i64 (a2 + 1)))]) ?_
    exact weirref3_Write.K1_ok a0 a1 a2 a3 b1 b2 x4 b5 (IntKind.wrap .i64 (a2 + 1))
  · refine SJ.skip ?_
    refine SJ.less [1, 2, 3, 4, 8, 9, 10] (m' := [(1, .int .i64 a1), (2, .int .i64 a2), (3, .int .u8 a3), (4, .pointer (some (pt b1 0))), (8, .pointer (some (pt b2 0))), (9, .pointer (some (pt b5 0))), (10, .int .i64 (x4.Data.len : Int))]) ?_
    exact weirref3_Write.K1_ok a0 a1 a2 a3 b1 b2 x4 b5 (x4.Data.len : Int)

/-! ### weir/weirlaw3.written: function 60 -/
noncomputable def weirlaw3_written.B : Code := (Try.f60.body).getD .skip
noncomputable def weirlaw3_written.cx : Fx := ⟨Try.prog, 60, Try.f60⟩
noncomputable def weirlaw3_written.out (r_ : weirlaw3_Side) : Value := c_weirlaw3_Side.val r_
noncomputable def weirlaw3_written.F0 (r_ : weirlaw3_Side) : Reach := .ret (weirlaw3_written.out r_)
noncomputable def weirlaw3_written.K1 (x6 : weirlaw3_Win) (s9 : weirlaw3_Side) : M weirlaw3_Side :=
  slot 5 >>= fun b25 =>
  appl (cI .u8) 5 1 0 x6.B [77, 78] >>= fun r26 =>
  if (r26.len : Int) > 0 then
    idx r26.a r26.len (IntKind.wrap .i64 ((r26.len : Int) - 1)) 1 >>= fun p28 =>
    st (cI .u8) p28 79 >>= fun _ =>
    pure s9
  else
    pure s9
theorem weirlaw3_written.K1_ok (b1 : Nat) (b3 : Nat) (x6 : weirlaw3_Win) (b7 : Nat) (s9 : weirlaw3_Side) :
    SJ weirlaw3_written.cx [.code (c2 (c2 (c2 (c2 weirlaw3_written.B))))] [(2, .pointer (some (pt b1 0))), (4, .pointer (some (pt b3 0))), (6, .pointer (some (pt b7 0)))] [(b7, c_weirlaw3_Win.enc x6), (b3, c_weirlaw3_Side.enc z_weirlaw3_Side), (b1, c_weirlaw3_Side.enc s9)] (weirlaw3_written.K1 x6 s9) weirlaw3_written.F0 := by
  unfold weirlaw3_written.K1
  refine SJ.sr 5 ?_
  refine OJ.go 1 [(60, .pointer (some (pt b7 0)))] ?_
  refine OJ.kld (d := 61) (y := .tmp 60) (cd := cL) (j := 0) (b := b7) (o := 0) x6.B (pend2 := []) Ty22 rfl (At_weirlaw3_Win_B x6) rfl ?_
  refine OJ.rowSlot (d := 62) (t := 22) (parts := [(0, .const (.int .u8 77)), (1, .const (.int .u8 78))]) (ps := [(0, (cI .u8).val 77), (1, (cI .u8).val 78)]) (cd := (cI .u8)) (⟨[77, 78], rfl⟩ : Vec Int 2) (owed := []) Ty5 (Filled.cons (cd := (cI .u8)) (q := 77) (o := 0) rfl (Upd.arr (i := 0) (by decide) (by decide)) (Filled.cons (cd := (cI .u8)) (q := 78) (o := 1) rfl (Upd.arr (i := 1) (by decide) (by decide)) Filled.nil)) (fun b25 => ?_)
  refine OW.nil ?_
  refine OJ.appl (d := 63) (t := 22) (u := 22) (so := .tmp 61) (xo := .tmp 62) (j := 0) (b := b25) (l := ((cI .u8).arr 2).enc (⟨[77, 78], rfl⟩ : Vec Int 2)) (n := 2) (k := 2) [77, 78] (owed := []) Ty5 (by rfl) (Cod.arr_enc _ _ _) (by rfl) (fun r26 => ?_)
  refine OW.nil ?_
  refine OJ.go 1 [(9, Sl.v r26)] ?_
  refine OJ.nil ?_
  refine SJ.seq ?_
  refine SJ.sr 3 ?_
  refine OJ.go 3 [(66, .bool (decide ((r26.len : Int) > 0))), (65, .int .i64 (r26.len : Int)), (64, Sl.v r26)] ?_
  refine OJ.nil ?_
  refine SJ.cond (t := (.tmp 66)) (b := decide ((r26.len : Int) > 0)) decide_eq_true_iff (fun hc29 => ?_) (fun hc29 => ?_)
  · refine SJ.rg 6 ?_
    refine OJ.go 4 [(70, .int .i64 (IntKind.wrap .i64 ((r26.len : Int) - 1))), (69, .int .i64 (r26.len : Int)), (68, Sl.v r26), (67, Sl.v r26)] ?_
    refine OJ.idxS (d := 71) (T := 22) (y := .tmp 67) (j := .tmp 70) (E := 5) (cap := r26.cap) (k := .i64) (fun p28 => ?_)
    refine OJ.st (y := .tmp 71) (z := .const (.int .u8 79)) (owed := []) Ty5 ?_
    refine OW.nil ?_
    refine OJ.nil ?_
    refine SJ.sr 2 ?_
    refine OJ.kld (d := 72) (y := .tmp 2) (cd := c_weirlaw3_Side) (j := 3) (b := b1) (o := 0) s9 (pend2 := []) Ty62 rfl (At.whole _) rfl ?_
    refine OJ.kst (y := .tmp 4) (z := .tmp 72) (cd := c_weirlaw3_Side) (u := s9) (j := 2) (b := b3) (o := 0) (c_weirlaw3_Side.enc s9) (owed := []) Ty62 rfl (Upd.whole ((Cod.len _ _).trans (Cod.len _ _).symm)) rfl ?_
    refine OW.nil ?_
    refine OJ.nil ?_
    exact SJ.ret rfl (Res.run (ys := [c_weirlaw3_Side.val s9]) (.cell (j := 2) (b := b3) (cd := c_weirlaw3_Side) (q := s9) (by kernel_rfl) rfl Ty62 (At.whole _) .nil) rfl)
  · refine SJ.skip ?_
    refine SJ.sr 2 ?_
    refine OJ.kld (d := 72) (y := .tmp 2) (cd := c_weirlaw3_Side) (j := 3) (b := b1) (o := 0) s9 (pend2 := []) Ty62 rfl (At.whole _) rfl ?_
    refine OJ.kst (y := .tmp 4) (z := .tmp 72) (cd := c_weirlaw3_Side) (u := s9) (j := 2) (b := b3) (o := 0) (c_weirlaw3_Side.enc s9) (owed := []) Ty62 rfl (Upd.whole ((Cod.len _ _).trans (Cod.len _ _).symm)) rfl ?_
    refine OW.nil ?_
    refine OJ.nil ?_
    exact SJ.ret rfl (Res.run (ys := [c_weirlaw3_Side.val s9]) (.cell (j := 2) (b := b3) (cd := c_weirlaw3_Side) (q := s9) (by kernel_rfl) rfl Ty62 (At.whole _) .nil) rfl)
noncomputable def weirlaw3_written.F1 (a1 : weirlaw3_Op) (b1 : Nat) (b2 : Nat) (b3 : Nat) (x6 : weirlaw3_Win) (b7 : Nat) : (LS (Int × weirlaw3_Side) weirlaw3_Side) → Reach := loopF [.inLoop (c1 (c1 (c2 (c1 (c2 (c2 (c2 weirlaw3_written.B))))))), .inBlock 0, .code (c2 (c2 (c2 (c2 weirlaw3_written.B))))] (fun s_ : (Int × weirlaw3_Side) => [(2, .pointer (some (pt b1 0))), (3, .pointer (some (pt b2 0))), (4, .pointer (some (pt b3 0))), (6, .pointer (some (pt b7 0))), (7, .int .i64 s_.1)]) (fun s_ : (Int × weirlaw3_Side) => [(b7, c_weirlaw3_Win.enc x6), (b3, c_weirlaw3_Side.enc z_weirlaw3_Side), (b2, c_weirlaw3_Op.enc a1), (b1, c_weirlaw3_Side.enc s_.2)]) weirlaw3_written.F0
noncomputable def weirlaw3_written.L1 (a1 : weirlaw3_Op) (x6 : weirlaw3_Win) (s8 : Int) (s9 : weirlaw3_Side) : M (LS (Int × weirlaw3_Side) weirlaw3_Side) :=
  if s8 < (a1.B.len : Int) then
    (if (IntKind.wrap .i64 (a1.N + s8)) ≥ 0 then
        pure (decide ((IntKind.wrap .i64 (a1.N + s8)) < (x6.B.len : Int)))
      else
        pure false) >>= fun y30 =>
    if y30 = true then
      draw >>= fun _ =>
      idx a1.B.a a1.B.len s8 1 >>= fun p37 =>
      ld (cI .u8) p37 >>= fun x38 =>
      idx x6.B.a x6.B.len (IntKind.wrap .i64 (a1.N + s8)) 1 >>= fun p39 =>
      st (cI .u8) p39 x38 >>= fun _ =>
      draw >>= fun _ =>
      idx a1.B.a a1.B.len s8 1 >>= fun p40 =>
      ld (cI .u8) p40 >>= fun x41 =>
      weirref3_Write s9.R x6.I (IntKind.wrap .i64 (a1.N + s8)) x41 >>= fun r42 =>
      pure (LS.next (IntKind.wrap .i64 (s8 + 1), (⟨s9.P, r42, s9.W⟩ : weirlaw3_Side)))
    else
      pure (LS.next (IntKind.wrap .i64 (s8 + 1), s9))
  else
    (weirlaw3_written.K1 x6 s9) >>= fun b => pure (LS.done b)
theorem weirlaw3_written.L1_ok (a1 : weirlaw3_Op) (b1 : Nat) (b2 : Nat) (b3 : Nat) (x6 : weirlaw3_Win) (b7 : Nat) (s8 : Int) (s9 : weirlaw3_Side) :
    SJ weirlaw3_written.cx [.code (c1 (c1 (c2 (c1 (c2 (c2 (c2 weirlaw3_written.B))))))), .inLoop (c1 (c1 (c2 (c1 (c2 (c2 (c2 weirlaw3_written.B))))))), .inBlock 0, .code (c2 (c2 (c2 (c2 weirlaw3_written.B))))] [(2, .pointer (some (pt b1 0))), (3, .pointer (some (pt b2 0))), (4, .pointer (some (pt b3 0))), (6, .pointer (some (pt b7 0))), (7, .int .i64 s8)] [(b7, c_weirlaw3_Win.enc x6), (b3, c_weirlaw3_Side.enc z_weirlaw3_Side), (b2, c_weirlaw3_Op.enc a1), (b1, c_weirlaw3_Side.enc s9)] (weirlaw3_written.L1 a1 x6 s8 s9) (weirlaw3_written.F1 a1 b1 b2 b3 x6 b7) := by
  unfold weirlaw3_written.L1
  refine SJ.seq ?_
  refine SJ.sr 5 ?_
  refine OJ.go 2 [(20, .pointer (some (pt b2 4))), (19, .int .i64 s8)] ?_
  refine OJ.kld (d := 21) (y := .tmp 20) (cd := cL) (j := 2) (b := b2) (o := 4) a1.B (pend2 := []) Ty22 rfl (At_weirlaw3_Op_B a1) rfl ?_
  refine OJ.go 2 [(23, .bool (decide (s8 < (a1.B.len : Int)))), (22, .int .i64 (a1.B.len : Int))] ?_
  refine OJ.nil ?_
  refine SJ.cond (t := (.tmp 23)) (b := decide (s8 < (a1.B.len : Int))) decide_eq_true_iff (fun hc44 => ?_) (fun hc44 => ?_)
  · refine SJ.skip ?_
    refine SJ.seq ?_
    refine SJ.block (id := 1) ?_
    refine SJ.sr 5 ?_
    refine OJ.go 1 [(26, .pointer (some (pt b2 3)))] ?_
    refine OJ.kld (d := 27) (y := .tmp 26) (cd := (cI .i64)) (j := 2) (b := b2) (o := 3) a1.N (pend2 := []) Ty3 rfl (At_weirlaw3_Op_N a1) rfl ?_
    refine OJ.go 3 [(8, .int .i64 (IntKind.wrap .i64 (a1.N + s8))), (29, .int .i64 (IntKind.wrap .i64 (a1.N + s8))), (28, .int .i64 s8)] ?_
    refine OJ.nil ?_
    refine SJ.sr 9 ?_
    refine OJ.go 3 [(32, .bool (decide ((IntKind.wrap .i64 (a1.N + s8)) ≥ 0))), (31, .bool (decide ((IntKind.wrap .i64 (a1.N + s8)) ≥ 0))), (30, .int .i64 (IntKind.wrap .i64 (a1.N + s8)))] ?_
    refine OJ.join (b := decide ((IntKind.wrap .i64 (a1.N + s8)) ≥ 0)) [3, 4, 5, 6, 7, 8] [] [2, 3, 4, 6, 7, 8, 38] (fun y30 => [(2, .pointer (some (pt b1 0))), (3, .pointer (some (pt b2 0))), (4, .pointer (some (pt b3 0))), (6, .pointer (some (pt b7 0))), (7, .int .i64 s8), (8, .int .i64 (IntKind.wrap .i64 (a1.N + s8))), (38, .bool y30)]) [] [] (t := 32) decide_eq_true_iff (fun hp_ => ?_) (fun hp_ => ?_) (fun _ _ _ _ _ _ h_ => h_) (fun y30 => ?_)
    · refine OJ.go 2 [(34, .pointer (some (pt b7 0))), (33, .int .i64 (IntKind.wrap .i64 (a1.N + s8)))] ?_
      refine OJ.kld (d := 35) (y := .tmp 34) (cd := cL) (j := 0) (b := b7) (o := 0) x6.B (pend2 := []) Ty22 rfl (At_weirlaw3_Win_B x6) rfl ?_
      refine OJ.go 3 [(38, .bool (decide ((IntKind.wrap .i64 (a1.N + s8)) < (x6.B.len : Int)))), (37, .bool (decide ((IntKind.wrap .i64 (a1.N + s8)) < (x6.B.len : Int)))), (36, .int .i64 (x6.B.len : Int))] ?_
      exact OJ.nil ⟨(Cov.mem Cov.nil), rfl, _, rfl, by kernel_rfl⟩
    · refine OJ.go 6 [(38, .bool false), (37, undef), (36, undef), (35, undef), (34, undef), (33, undef)] ?_
      exact OJ.nil ⟨(Cov.mem Cov.nil), rfl, _, rfl, by kernel_rfl⟩
    · refine OJ.nil ?_
      refine SJ.cond (t := (.tmp 38)) (b := y30) Iff.rfl (fun hc43 => ?_) (fun hc43 => ?_)
      · refine SJ.seq ?_
        refine SJ.draw (id := 8) (kd := [0, 1, 0, 0, 1, 0, 0, 1, 0, 2]) (bef := [0, 1, 0, 0, 8, 0, 56, 120, 255, 511]) (ord := [0, 1, 2, 3, 4, 5, 6, 7, 8, 9]) mixed ?_
        refine OJ.go 1 [(39, .pointer (some (pt b7 0)))] ?_
        refine OJ.kld (d := 40) (y := .tmp 39) (cd := cL) (j := 0) (b := b7) (o := 0) x6.B (pend2 := [⟨1, 22, (pt b7 0), cL.val x6.B⟩]) Ty22 rfl (At_weirlaw3_Win_B x6) rfl ?_
        refine OJ.go 2 [(42, .pointer (some (pt b2 4))), (41, .int .i64 (IntKind.wrap .i64 (a1.N + s8)))] ?_
        refine OJ.kld (d := 43) (y := .tmp 42) (cd := cL) (j := 2) (b := b2) (o := 4) a1.B (pend2 := [⟨4, 22, (pt b2 4), cL.val a1.B⟩, ⟨1, 22, (pt b7 0), cL.val x6.B⟩]) Ty22 rfl (At_weirlaw3_Op_B a1) rfl ?_
        refine OJ.go 1 [(44, .int .i64 s8)] ?_
        refine OJ.idxS (d := 45) (T := 22) (y := .tmp 43) (j := .tmp 44) (E := 5) (cap := a1.B.cap) (k := .i64) (fun p37 => ?_)
        refine OJ.ld (d := 46) (y := .tmp 45) (pend2 := fun x38 => [⟨7, 5, p37, (cI .u8).val x38⟩, ⟨4, 22, (pt b2 4), cL.val a1.B⟩, ⟨1, 22, (pt b7 0), cL.val x6.B⟩]) Ty5 (fun _ => rfl) (fun x38 => ?_)
        refine OJ.idxS (d := 47) (T := 22) (y := .tmp 40) (j := .tmp 41) (E := 5) (cap := x6.B.cap) (k := .i64) (fun p39 => ?_)
        refine OJ.st (y := .tmp 47) (z := .tmp 46) (owed := []) Ty5 ?_
        refine OW.nil ?_
        refine OJ.nil ?_
        refine SJ.draw (id := 9) (kd := [0, 1, 0, 1, 0, 0, 1, 0, 0, 1, 2, 0, 2]) (bef := [0, 1, 0, 4, 0, 0, 32, 0, 224, 480, 1023, 2047, 4095]) (ord := [0, 1, 2, 3, 4, 5, 6, 7, 8, 9, 10, 11, 12]) mixed ?_
        refine OJ.go 1 [(48, .pointer (some (pt b1 1)))] ?_
        refine OJ.kld (d := 49) (y := .tmp 48) (cd := c_weirref3_Port) (j := 3) (b := b1) (o := 1) s9.R (pend2 := [⟨1, 59, (pt b1 1), c_weirref3_Port.val s9.R⟩]) Ty59 rfl (At_weirlaw3_Side_R s9) rfl ?_
        refine OJ.go 1 [(50, .pointer (some (pt b7 1)))] ?_
        refine OJ.kld (d := 51) (y := .tmp 50) (cd := (cI .i64)) (j := 0) (b := b7) (o := 1) x6.I (pend2 := [⟨3, 3, (pt b7 1), (cI .i64).val x6.I⟩, ⟨1, 59, (pt b1 1), c_weirref3_Port.val s9.R⟩]) Ty3 rfl (At_weirlaw3_Win_I x6) rfl ?_
        refine OJ.go 2 [(53, .pointer (some (pt b2 4))), (52, .int .i64 (IntKind.wrap .i64 (a1.N + s8)))] ?_
        refine OJ.kld (d := 54) (y := .tmp 53) (cd := cL) (j := 2) (b := b2) (o := 4) a1.B (pend2 := [⟨6, 22, (pt b2 4), cL.val a1.B⟩, ⟨3, 3, (pt b7 1), (cI .i64).val x6.I⟩, ⟨1, 59, (pt b1 1), c_weirref3_Port.val s9.R⟩]) Ty22 rfl (At_weirlaw3_Op_B a1) rfl ?_
        refine OJ.go 1 [(55, .int .i64 s8)] ?_
        refine OJ.idxS (d := 56) (T := 22) (y := .tmp 54) (j := .tmp 55) (E := 5) (cap := a1.B.cap) (k := .i64) (fun p40 => ?_)
        refine OJ.ld (d := 57) (y := .tmp 56) (pend2 := fun x41 => [⟨9, 5, p40, (cI .u8).val x41⟩, ⟨6, 22, (pt b2 4), cL.val a1.B⟩, ⟨3, 3, (pt b7 1), (cI .i64).val x6.I⟩, ⟨1, 59, (pt b1 1), c_weirref3_Port.val s9.R⟩]) Ty5 (fun _ => rfl) (fun x41 => ?_)
        refine OJ.call (d := 58) (g := 75) (ats := #[59, 3, 3, 5]) (args := [.tmp 49, .tmp 51, .tmp 52, .tmp 57]) (owed := []) F75 (weirref3_Write_ok s9.R x6.I (IntKind.wrap .i64 (a1.N + s8)) x41) (fun r42 => ?_)
        refine OW.nil ?_
        refine OJ.go 1 [(59, .pointer (some (pt b1 1)))] ?_
        refine OJ.kst (y := .tmp 59) (z := .tmp 58) (cd := c_weirref3_Port) (u := r42) (j := 3) (b := b1) (o := 1) (c_weirlaw3_Side.enc (⟨s9.P, r42, s9.W⟩ : weirlaw3_Side)) (owed := []) Ty59 rfl (Up_weirlaw3_Side_R s9 r42) rfl ?_
        refine OW.nil ?_
        refine OJ.nil ?_
        refine SJ.inBlock ?_
        refine SJ.rg 3 ?_
        refine OJ.go 3 [(7, .int .i64 (IntKind.wrap .i64 (s8 + 1))), (25, .int .i64 (IntKind.wrap .i64 (s8 + 1))), (24, .int .i64 s8)] ?_
        refine OJ.nil ?_
        exact SJ.at_ [2, 3, 4, 6, 7] rfl
      · refine SJ.skip ?_
        refine SJ.inBlock ?_
        refine SJ.rg 3 ?_
        refine OJ.go 3 [(7, .int .i64 (IntKind.wrap .i64 (s8 + 1))), (25, .int .i64 (IntKind.wrap .i64 (s8 + 1))), (24, .int .i64 s8)] ?_
        refine OJ.nil ?_
        exact SJ.at_ [2, 3, 4, 6, 7] rfl
  · refine SJ.exit (id := 0) (by rfl) ?_
    refine SJ.forget (List.Sublist.cons_cons _ (List.Sublist.cons_cons _ (List.Sublist.cons _ (List.Sublist.cons_cons _ List.Sublist.slnil)))) ?_
    refine SJ.less [2, 4, 6] (m' := [(2, .pointer (some (pt b1 0))), (4, .pointer (some (pt b3 0))), (6, .pointer (some (pt b7 0)))]) ?_
    refine SJ.done ?_
    exact weirlaw3_written.K1_ok b1 b3 x6 b7 s9
noncomputable def weirlaw3_written (a0 : weirlaw3_Side) (a1 : weirlaw3_Op) : M weirlaw3_Side :=
  slot 62 >>= fun b1 =>
  slot 45 >>= fun b2 =>
  slot 62 >>= fun b3 =>
  weirlaw3_one a0 a1.I >>= fun r4 =>
  idx a0.W.a a0.W.len r4 2 >>= fun p5 =>
  ld c_weirlaw3_Win p5 >>= fun x6 =>
  slot 116 >>= fun b7 =>
  loopM (fun s_ : (Int × weirlaw3_Side) => weirlaw3_written.L1 a1 x6 s_.1 s_.2) (0, a0)
theorem weirlaw3_written_ok (a0 : weirlaw3_Side) (a1 : weirlaw3_Op) : Ref Try.prog 60 [c_weirlaw3_Side.val a0, c_weirlaw3_Op.val a1] (weirlaw3_written a0 a1) weirlaw3_written.out := by
  refine Ref.of (cd := weirlaw3_written.B) Try.func60 ?_
  show SJ weirlaw3_written.cx [.code weirlaw3_written.B] [(0, c_weirlaw3_Side.val a0), (1, c_weirlaw3_Op.val a1)] [] (weirlaw3_written a0 a1) weirlaw3_written.F0
  unfold weirlaw3_written
  refine SJ.sr 3 ?_
  refine OJ.slotOf (d := 2) (op := (.box 62 (.tmp 0))) (cd := c_weirlaw3_Side) (u := a0) (owed := []) (box_run (by kernel_rfl)) (fun b1 => ?_)
  refine OW.nil ?_
  refine OJ.slotOf (d := 3) (op := (.box 45 (.tmp 1))) (cd := c_weirlaw3_Op) (u := a1) (owed := []) (box_run (by kernel_rfl)) (fun b2 => ?_)
  refine OW.nil ?_
  refine OJ.slotOf (d := 4) (op := (.alloc 62)) (cd := c_weirlaw3_Side) (u := z_weirlaw3_Side) (owed := []) (alloc_run Ty62) (fun b3 => ?_)
  refine OW.nil ?_
  refine OJ.nil ?_
  refine SJ.sr 5 ?_
  refine OJ.kld (d := 10) (y := .tmp 2) (cd := c_weirlaw3_Side) (j := 2) (b := b1) (o := 0) a0 (pend2 := []) Ty62 rfl (At.whole _) rfl ?_
  refine OJ.go 1 [(11, .pointer (some (pt b2 2)))] ?_
  refine OJ.kld (d := 12) (y := .tmp 11) (cd := (cI .i64)) (j := 1) (b := b2) (o := 2) a1.I (pend2 := []) Ty3 rfl (At_weirlaw3_Op_I a1) rfl ?_
  refine OJ.call (d := 13) (g := 74) (ats := #[62, 3]) (args := [.tmp 10, .tmp 12]) (owed := []) F74 (weirlaw3_one_ok a0 a1.I) (fun r4 => ?_)
  refine OW.nil ?_
  refine OJ.go 1 [(5, .int .i64 r4)] ?_
  refine OJ.nil ?_
  refine SJ.sr 7 ?_
  refine OJ.go 1 [(14, .pointer (some (pt b1 6)))] ?_
  refine OJ.kld (d := 15) (y := .tmp 14) (cd := cL) (j := 2) (b := b1) (o := 6) a0.W (pend2 := []) Ty60 rfl (At_weirlaw3_Side_W a0) rfl ?_
  refine OJ.go 1 [(16, .int .i64 r4)] ?_
  refine OJ.idxS (d := 17) (T := 60) (y := .tmp 15) (j := .tmp 16) (E := 116) (cap := a0.W.cap) (k := .i64) (fun p5 => ?_)
  refine OJ.ld (d := 18) (y := .tmp 17) (pend2 := fun x6 => []) Ty116 (fun _ => rfl) (fun x6 => ?_)
  refine OJ.slotOf (d := 6) (op := (.alloc 116)) (cd := c_weirlaw3_Win) (u := z_weirlaw3_Win) (owed := []) (alloc_run Ty116) (fun b7 => ?_)
  refine OW.nil ?_
  refine OJ.kst (y := .tmp 6) (z := .tmp 18) (cd := c_weirlaw3_Win) (u := x6) (j := 0) (b := b7) (o := 0) (c_weirlaw3_Win.enc x6) (owed := []) Ty116 rfl (Upd.whole ((Cod.len _ _).trans (Cod.len _ _).symm)) rfl ?_
  refine OW.nil ?_
  refine OJ.nil ?_
  refine SJ.seq ?_
  refine SJ.sr 1 ?_
  refine OJ.go 1 [(7, .int .i64 0)] ?_
  refine OJ.nil ?_
  refine SJ.block (id := 0) ?_
  exact SJ.loop (fun s_ : (Int × weirlaw3_Side) => [(2, .pointer (some (pt b1 0))), (3, .pointer (some (pt b2 0))), (4, .pointer (some (pt b3 0))), (6, .pointer (some (pt b7 0))), (7, .int .i64 s_.1)]) (fun s_ : (Int × weirlaw3_Side) => [(b7, c_weirlaw3_Win.enc x6), (b3, c_weirlaw3_Side.enc z_weirlaw3_Side), (b2, c_weirlaw3_Op.enc a1), (b1, c_weirlaw3_Side.enc s_.2)]) [2, 3, 4, 6, 7] rfl (fun _ _ => rfl) (fun s_ => weirlaw3_written.L1_ok a1 b1 b2 b3 x6 b7 s_.1 s_.2)

/-! ### weir/weirlaw3.looked: function 61 -/
noncomputable def weirlaw3_looked.B : Code := (Try.f61.body).getD .skip
noncomputable def weirlaw3_looked.cx : Fx := ⟨Try.prog, 61, Try.f61⟩
noncomputable def weirlaw3_looked.out (r_ : Bool) : Value := .bool r_
noncomputable def weirlaw3_looked.F0 (r_ : Bool) : Reach := .ret (weirlaw3_looked.out r_)
noncomputable def weirlaw3_looked.K1 (a0 : weirlaw3_Side) (b12 : Nat) (j13 : weirlaw3_Win) : M Bool :=
  draw >>= fun _ =>
  weirref3_Bytes a0.R j13.I (j13.B.len : Int) >>= fun r14 =>
  weirlaw3_alike j13.B r14 >>= fun r15 =>
  pure r15
theorem weirlaw3_looked.K1_ok (a0 : weirlaw3_Side) (b1 : Nat) (b12 : Nat) (j13 : weirlaw3_Win) :
    SJ weirlaw3_looked.cx [.code (c2 (c2 weirlaw3_looked.B))] [(2, .pointer (some (pt b1 0))), (5, .pointer (some (pt b12 0)))] [(b12, c_weirlaw3_Win.enc j13), (b1, c_weirlaw3_Side.enc a0)] (weirlaw3_looked.K1 a0 b12 j13) weirlaw3_looked.F0 := by
  unfold weirlaw3_looked.K1
  refine SJ.seq ?_
  refine SJ.draw (id := 2) (kd := [0, 1, 0, 1, 0, 1, 0, 1, 0, 2, 2, 0]) (bef := [0, 1, 0, 4, 0, 16, 0, 64, 192, 508, 1023, 2047]) (ord := [0, 1, 2, 3, 4, 5, 6, 7, 8, 9, 10, 11]) mixed ?_
  refine OJ.go 1 [(13, .pointer (some (pt b12 0)))] ?_
  refine OJ.kld (d := 14) (y := .tmp 13) (cd := cL) (j := 0) (b := b12) (o := 0) j13.B (pend2 := [⟨1, 22, (pt b12 0), cL.val j13.B⟩]) Ty22 rfl (At_weirlaw3_Win_B j13) rfl ?_
  refine OJ.go 1 [(15, .pointer (some (pt b1 1)))] ?_
  refine OJ.kld (d := 16) (y := .tmp 15) (cd := c_weirref3_Port) (j := 1) (b := b1) (o := 1) a0.R (pend2 := [⟨3, 59, (pt b1 1), c_weirref3_Port.val a0.R⟩, ⟨1, 22, (pt b12 0), cL.val j13.B⟩]) Ty59 rfl (At_weirlaw3_Side_R a0) rfl ?_
  refine OJ.go 1 [(17, .pointer (some (pt b12 1)))] ?_
  refine OJ.kld (d := 18) (y := .tmp 17) (cd := (cI .i64)) (j := 0) (b := b12) (o := 1) j13.I (pend2 := [⟨5, 3, (pt b12 1), (cI .i64).val j13.I⟩, ⟨3, 59, (pt b1 1), c_weirref3_Port.val a0.R⟩, ⟨1, 22, (pt b12 0), cL.val j13.B⟩]) Ty3 rfl (At_weirlaw3_Win_I j13) rfl ?_
  refine OJ.go 1 [(19, .pointer (some (pt b12 0)))] ?_
  refine OJ.kld (d := 20) (y := .tmp 19) (cd := cL) (j := 0) (b := b12) (o := 0) j13.B (pend2 := [⟨7, 22, (pt b12 0), cL.val j13.B⟩, ⟨5, 3, (pt b12 1), (cI .i64).val j13.I⟩, ⟨3, 59, (pt b1 1), c_weirref3_Port.val a0.R⟩, ⟨1, 22, (pt b12 0), cL.val j13.B⟩]) Ty22 rfl (At_weirlaw3_Win_B j13) rfl ?_
  refine OJ.go 1 [(21, .int .i64 (j13.B.len : Int))] ?_
  refine OJ.call (d := 22) (g := 76) (ats := #[59, 3, 3]) (args := [.tmp 16, .tmp 18, .tmp 21]) (owed := [⟨1, 22, (pt b12 0), cL.val j13.B⟩]) F76 (weirref3_Bytes_ok a0.R j13.I (j13.B.len : Int)) (fun r14 => ?_)
  refine OW.known (j := 0) (q := j13.B) Ty22 rfl (At_weirlaw3_Win_B j13) ?_
  refine OW.nil ?_
  refine OJ.call (d := 23) (g := 19) (ats := #[22, 22]) (args := [.tmp 14, .tmp 22]) (owed := []) F19 (weirlaw3_alike_ok j13.B r14) (fun r15 => ?_)
  refine OW.nil ?_
  refine OJ.go 1 [(4, .bool r15)] ?_
  refine OJ.nil ?_
  exact SJ.ret rfl (Res.run (ys := [.bool r15]) (.tmp (by kernel_rfl) .nil) rfl)
noncomputable def weirlaw3_looked (a0 : weirlaw3_Side) (a1 : Int) : M Bool :=
  slot 62 >>= fun b1 =>
  draws 61 1 (opsOf (c1 (c2 weirlaw3_looked.B))) >>= fun o2 =>
  if bfr o2 4 7 = true then
    weirlaw3_one a0 a1 >>= fun r17 =>
    idx a0.W.a a0.W.len r17 2 >>= fun p18 =>
    ld c_weirlaw3_Win p18 >>= fun x19 =>
    slot 116 >>= fun b20 =>
    same c_weirlaw3_Win p18 x19 >>= fun _ =>
    weirlaw3_looked.K1 a0 b20 x19
  else
    slot 116 >>= fun b21 =>
    weirlaw3_one a0 a1 >>= fun r22 =>
    idx a0.W.a a0.W.len r22 2 >>= fun p23 =>
    ld c_weirlaw3_Win p23 >>= fun x24 =>
    weirlaw3_looked.K1 a0 b21 x24
theorem weirlaw3_looked_ok (a0 : weirlaw3_Side) (a1 : Int) : Ref Try.prog 61 [c_weirlaw3_Side.val a0, .int .i64 a1] (weirlaw3_looked a0 a1) weirlaw3_looked.out := by
  refine Ref.of (cd := weirlaw3_looked.B) Try.func61 ?_
  show SJ weirlaw3_looked.cx [.code weirlaw3_looked.B] [(0, c_weirlaw3_Side.val a0), (1, .int .i64 a1)] [] (weirlaw3_looked a0 a1) weirlaw3_looked.F0
  unfold weirlaw3_looked
  refine SJ.sr 2 ?_
  refine OJ.slotOf (d := 2) (op := (.box 62 (.tmp 0))) (cd := c_weirlaw3_Side) (u := a0) (owed := []) (box_run (by kernel_rfl)) (fun b1 => ?_)
  refine OW.nil ?_
  refine OJ.go 1 [(4, .bool false)] ?_
  refine OJ.nil ?_
  refine SJ.seq ?_
  refine SJ.draws (id := 1) (kd := [0, 1, 1, 0, 2, 0, 1, 2, 2]) (bef := [0, 1, 0, 0, 12, 31, 63, 0, 255]) (ord := [0, 1, 2, 3, 4, 5, 6, 7, 8]) (E := [(4, 7)]) mixed (fun o2 hg_ => ?_)
  refine SJ.bfr hg_ (by decide) (fun ho16 => ?_) (fun ho16 => ?_)
  · refine SJ.leaf hg_ (kd := [0, 1, 1, 0, 2, 0, 1, 2, 2]) (bef := [0, 1, 0, 0, 12, 31, 63, 0, 255]) (ord := [0, 1, 2, 3, 4, 5, 6, 7, 8]) (E := [(4, 7)]) (allB.cons ho16 allB.nil) ?_
    refine OJ.go 1 [(6, .pointer (some (pt b1 6)))] ?_
    refine OJ.kld (d := 7) (y := .tmp 6) (cd := cL) (j := 0) (b := b1) (o := 6) a0.W (pend2 := [⟨1, 60, (pt b1 6), cL.val a0.W⟩]) Ty60 rfl (At_weirlaw3_Side_W a0) rfl ?_
    refine OJ.kld (d := 8) (y := .tmp 2) (cd := c_weirlaw3_Side) (j := 0) (b := b1) (o := 0) a0 (pend2 := [⟨2, 62, (pt b1 0), c_weirlaw3_Side.val a0⟩, ⟨1, 60, (pt b1 6), cL.val a0.W⟩]) Ty62 rfl (At.whole _) rfl ?_
    refine OJ.go 1 [(9, .int .i64 a1)] ?_
    refine OJ.call (d := 10) (g := 74) (ats := #[62, 3]) (args := [.tmp 8, .tmp 9]) (owed := [⟨1, 60, (pt b1 6), cL.val a0.W⟩]) F74 (weirlaw3_one_ok a0 a1) (fun r17 => ?_)
    refine OW.known (j := 0) (q := a0.W) Ty60 rfl (At_weirlaw3_Side_W a0) ?_
    refine OW.nil ?_
    refine OJ.idxS (d := 11) (T := 60) (y := .tmp 7) (j := .tmp 10) (E := 116) (cap := a0.W.cap) (k := .i64) (fun p18 => ?_)
    refine OJ.ld (d := 12) (y := .tmp 11) (pend2 := fun x19 => [⟨6, 116, p18, c_weirlaw3_Win.val x19⟩, ⟨2, 62, (pt b1 0), c_weirlaw3_Side.val a0⟩, ⟨1, 60, (pt b1 6), cL.val a0.W⟩]) Ty116 (fun _ => rfl) (fun x19 => ?_)
    refine OJ.slotOf (d := 5) (op := (.alloc 116)) (cd := c_weirlaw3_Win) (u := z_weirlaw3_Win) (owed := [⟨6, 116, p18, c_weirlaw3_Win.val x19⟩, ⟨2, 62, (pt b1 0), c_weirlaw3_Side.val a0⟩, ⟨1, 60, (pt b1 6), cL.val a0.W⟩]) (alloc_run Ty116) (fun b20 => ?_)
    refine OW.same Ty116 ?_
    refine OW.known (j := 1) (q := a0) Ty62 rfl (At.whole _) ?_
    refine OW.known (j := 1) (q := a0.W) Ty60 rfl (At_weirlaw3_Side_W a0) ?_
    refine OW.nil ?_
    refine OJ.kst (y := .tmp 5) (z := .tmp 12) (cd := c_weirlaw3_Win) (u := x19) (j := 0) (b := b20) (o := 0) (c_weirlaw3_Win.enc x19) (owed := []) Ty116 rfl (Upd.whole ((Cod.len _ _).trans (Cod.len _ _).symm)) rfl ?_
    refine OW.nil ?_
    refine OJ.nil ?_
    refine SJ.less [2, 5] (m' := [(2, .pointer (some (pt b1 0))), (5, .pointer (some (pt b20 0)))]) ?_
    exact weirlaw3_looked.K1_ok a0 b1 b20 x19
  · refine SJ.leaf hg_ (kd := [0, 1, 1, 0, 2, 0, 1, 2, 2]) (bef := [0, 1, 0, 0, 12, 31, 63, 0, 255]) (ord := [0, 1, 2, 3, 7, 4, 5, 6, 8]) (E := [(7, 4), (7, 6)]) (allB.cons ho16 (allB.cons (bfr_trans (bfr_trans ho16 (hg_.dep' _ (x := 4) (y := 5) (by kernel_rfl))) (hg_.dep' _ (x := 5) (y := 6) (by kernel_rfl))) allB.nil)) ?_
    refine OJ.go 1 [(6, .pointer (some (pt b1 6)))] ?_
    refine OJ.kld (d := 7) (y := .tmp 6) (cd := cL) (j := 0) (b := b1) (o := 6) a0.W (pend2 := [⟨1, 60, (pt b1 6), cL.val a0.W⟩]) Ty60 rfl (At_weirlaw3_Side_W a0) rfl ?_
    refine OJ.kld (d := 8) (y := .tmp 2) (cd := c_weirlaw3_Side) (j := 0) (b := b1) (o := 0) a0 (pend2 := [⟨2, 62, (pt b1 0), c_weirlaw3_Side.val a0⟩, ⟨1, 60, (pt b1 6), cL.val a0.W⟩]) Ty62 rfl (At.whole _) rfl ?_
    refine OJ.go 1 [(9, .int .i64 a1)] ?_
    refine OJ.slotOf (d := 5) (op := (.alloc 116)) (cd := c_weirlaw3_Win) (u := z_weirlaw3_Win) (owed := [⟨2, 62, (pt b1 0), c_weirlaw3_Side.val a0⟩, ⟨1, 60, (pt b1 6), cL.val a0.W⟩]) (alloc_run Ty116) (fun b21 => ?_)
    refine OW.known (j := 1) (q := a0) Ty62 rfl (At.whole _) ?_
    refine OW.known (j := 1) (q := a0.W) Ty60 rfl (At_weirlaw3_Side_W a0) ?_
    refine OW.nil ?_
    refine OJ.call (d := 10) (g := 74) (ats := #[62, 3]) (args := [.tmp 8, .tmp 9]) (owed := [⟨1, 60, (pt b1 6), cL.val a0.W⟩]) F74 (weirlaw3_one_ok a0 a1) (fun r22 => ?_)
    refine OW.known (j := 1) (q := a0.W) Ty60 rfl (At_weirlaw3_Side_W a0) ?_
    refine OW.nil ?_
    refine OJ.idxS (d := 11) (T := 60) (y := .tmp 7) (j := .tmp 10) (E := 116) (cap := a0.W.cap) (k := .i64) (fun p23 => ?_)
    refine OJ.ld (d := 12) (y := .tmp 11) (pend2 := fun x24 => [⟨6, 116, p23, c_weirlaw3_Win.val x24⟩, ⟨2, 62, (pt b1 0), c_weirlaw3_Side.val a0⟩, ⟨1, 60, (pt b1 6), cL.val a0.W⟩]) Ty116 (fun _ => rfl) (fun x24 => ?_)
    refine OJ.kst (y := .tmp 5) (z := .tmp 12) (cd := c_weirlaw3_Win) (u := x24) (j := 0) (b := b21) (o := 0) (c_weirlaw3_Win.enc x24) (owed := []) Ty116 rfl (Upd.whole ((Cod.len _ _).trans (Cod.len _ _).symm)) rfl ?_
    refine OW.nil ?_
    refine OJ.nil ?_
    refine SJ.less [2, 5] (m' := [(2, .pointer (some (pt b1 0))), (5, .pointer (some (pt b21 0)))]) ?_
    exact weirlaw3_looked.K1_ok a0 b1 b21 x24

/-! ### weir/weirlaw3.step: function 50 -/
noncomputable def weirlaw3_step.B : Code := (Try.f50.body).getD .skip
noncomputable def weirlaw3_step.cx : Fx := ⟨Try.prog, 50, Try.f50⟩
noncomputable def weirlaw3_step.out (r_ : (weirlaw3_Side × Bool)) : Value := .tuple #[c_weirlaw3_Side.val r_.1, .bool r_.2]
noncomputable def weirlaw3_step.F0 (r_ : (weirlaw3_Side × Bool)) : Reach := .ret (weirlaw3_step.out r_)
noncomputable def weirlaw3_step.K1 (a0 : weirlaw3_Side) (a1 : weirlaw3_Op) (j299 : Bool) : M (weirlaw3_Side × Bool) :=
  if j299 = true then
    weirlaw3_moved a0 a1 >>= fun r338 =>
    pure (r338.1, r338.2)
  else
    if a1.Kind = 9 then
      weirlaw3_told a0 >>= fun r357 =>
      pure (a0, r357)
    else
      if a1.Kind = 10 then
        if (a0.W.len : Int) > 0 then
          weirlaw3_written a0 a1 >>= fun r367 =>
          pure (r367, true)
        else
          pure (a0, true)
      else
        if a1.Kind = 11 then
          (if (a0.W.len : Int) = 0 then
              pure true
            else
              weirlaw3_looked a0 a1.I >>= fun r371 =>
              pure r371) >>= fun y372 =>
          pure (a0, y372)
        else
          pure (a0, true)
theorem weirlaw3_step.K1_ok (a0 : weirlaw3_Side) (a1 : weirlaw3_Op) (b1 : Nat) (b2 : Nat) (b3 : Nat) (j299 : Bool) :
    SJ weirlaw3_step.cx [.code (c2 (c2 (c2 (c2 (c2 (c1 (c2 (c1 (c2 weirlaw3_step.B))))))))), .inBlock 0, .code (c2 (c2 weirlaw3_step.B))] [(2, .pointer (some (pt b1 0))), (3, .pointer (some (pt b2 0))), (4, .pointer (some (pt b3 0))), (9, .int .i64 a1.Kind), (27, .bool j299)] [(b3, c_weirlaw3_Side.enc z_weirlaw3_Side), (b2, c_weirlaw3_Op.enc a1), (b1, c_weirlaw3_Side.enc a0)] (weirlaw3_step.K1 a0 a1 j299) weirlaw3_step.F0 := by
  unfold weirlaw3_step.K1
  refine SJ.cond (t := (.tmp 27)) (b := j299) Iff.rfl (fun hc376 => ?_) (fun hc376 => ?_)
  · refine SJ.sr 7 ?_
    refine OJ.kld (d := 32) (y := .tmp 2) (cd := c_weirlaw3_Side) (j := 2) (b := b1) (o := 0) a0 (pend2 := []) Ty62 rfl (At.whole _) rfl ?_
    refine OJ.kld (d := 33) (y := .tmp 3) (cd := c_weirlaw3_Op) (j := 1) (b := b2) (o := 0) a1 (pend2 := []) Ty45 rfl (At.whole _) rfl ?_
    refine OJ.call (d := 34) (g := 59) (ats := #[62, 45]) (args := [.tmp 32, .tmp 33]) (owed := []) F59 (weirlaw3_moved_ok a0 a1) (fun r338 => ?_)
    refine OW.nil ?_
    refine OJ.go 2 [(36, .bool r338.2), (35, c_weirlaw3_Side.val r338.1)] ?_
    refine OJ.kst (y := .tmp 4) (z := .tmp 35) (cd := c_weirlaw3_Side) (u := r338.1) (j := 0) (b := b3) (o := 0) (c_weirlaw3_Side.enc r338.1) (owed := []) Ty62 rfl (Upd.whole ((Cod.len _ _).trans (Cod.len _ _).symm)) rfl ?_
    refine OW.nil ?_
    refine OJ.go 1 [(5, .bool r338.2)] ?_
    refine OJ.nil ?_
    exact SJ.ret rfl (Res.run (ys := [c_weirlaw3_Side.val r338.1, .bool r338.2]) (.cell (j := 0) (b := b3) (cd := c_weirlaw3_Side) (q := r338.1) (by kernel_rfl) rfl Ty62 (At.whole _) (.tmp (by kernel_rfl) .nil)) rfl)
  · refine SJ.sr 2 ?_
    refine OJ.go 2 [(37, .bool (a1.Kind == 9)), (38, .bool (a1.Kind == 9))] ?_
    refine OJ.nil ?_
    refine SJ.cond (t := (.tmp 37)) (b := (a1.Kind == 9)) beq_iff_eq (fun hc375 => ?_) (fun hc375 => ?_)
    · refine SJ.sr 3 ?_
      refine OJ.kld (d := 39) (y := .tmp 2) (cd := c_weirlaw3_Side) (j := 2) (b := b1) (o := 0) a0 (pend2 := []) Ty62 rfl (At.whole _) rfl ?_
      refine OJ.call (d := 40) (g := 31) (ats := #[62]) (args := [.tmp 39]) (owed := []) F31 (weirlaw3_told_ok a0) (fun r357 => ?_)
      refine OW.nil ?_
      refine OJ.go 1 [(6, .bool r357)] ?_
      refine OJ.nil ?_
      refine SJ.sr 4 ?_
      refine OJ.kld (d := 41) (y := .tmp 2) (cd := c_weirlaw3_Side) (j := 2) (b := b1) (o := 0) a0 (pend2 := []) Ty62 rfl (At.whole _) rfl ?_
      refine OJ.go 1 [(42, .bool r357)] ?_
      refine OJ.kst (y := .tmp 4) (z := .tmp 41) (cd := c_weirlaw3_Side) (u := a0) (j := 0) (b := b3) (o := 0) (c_weirlaw3_Side.enc a0) (owed := []) Ty62 rfl (Upd.whole ((Cod.len _ _).trans (Cod.len _ _).symm)) rfl ?_
      refine OW.nil ?_
      refine OJ.go 1 [(5, .bool r357)] ?_
      refine OJ.nil ?_
      exact SJ.ret rfl (Res.run (ys := [c_weirlaw3_Side.val a0, .bool r357]) (.cell (j := 0) (b := b3) (cd := c_weirlaw3_Side) (q := a0) (by kernel_rfl) rfl Ty62 (At.whole _) (.tmp (by kernel_rfl) .nil)) rfl)
    · refine SJ.sr 2 ?_
      refine OJ.go 2 [(43, .bool (a1.Kind == 10)), (44, .bool (a1.Kind == 10))] ?_
      refine OJ.nil ?_
      refine SJ.cond (t := (.tmp 43)) (b := (a1.Kind == 10)) beq_iff_eq (fun hc374 => ?_) (fun hc374 => ?_)
      · refine SJ.sr 4 ?_
        refine OJ.go 1 [(45, .pointer (some (pt b1 6)))] ?_
        refine OJ.kld (d := 46) (y := .tmp 45) (cd := cL) (j := 2) (b := b1) (o := 6) a0.W (pend2 := []) Ty60 rfl (At_weirlaw3_Side_W a0) rfl ?_
        refine OJ.go 2 [(48, .bool (decide ((a0.W.len : Int) > 0))), (47, .int .i64 (a0.W.len : Int))] ?_
        refine OJ.nil ?_
        refine SJ.cond (t := (.tmp 48)) (b := decide ((a0.W.len : Int) > 0)) decide_eq_true_iff (fun hc368 => ?_) (fun hc368 => ?_)
        · refine SJ.rg 4 ?_
          refine OJ.kld (d := 49) (y := .tmp 2) (cd := c_weirlaw3_Side) (j := 2) (b := b1) (o := 0) a0 (pend2 := []) Ty62 rfl (At.whole _) rfl ?_
          refine OJ.kld (d := 50) (y := .tmp 3) (cd := c_weirlaw3_Op) (j := 1) (b := b2) (o := 0) a1 (pend2 := []) Ty45 rfl (At.whole _) rfl ?_
          refine OJ.call (d := 51) (g := 60) (ats := #[62, 45]) (args := [.tmp 49, .tmp 50]) (owed := []) F60 (weirlaw3_written_ok a0 a1) (fun r367 => ?_)
          refine OW.nil ?_
          refine OJ.kst (y := .tmp 2) (z := .tmp 51) (cd := c_weirlaw3_Side) (u := r367) (j := 2) (b := b1) (o := 0) (c_weirlaw3_Side.enc r367) (owed := []) Ty62 rfl (Upd.whole ((Cod.len _ _).trans (Cod.len _ _).symm)) rfl ?_
          refine OW.nil ?_
          refine OJ.nil ?_
          refine SJ.inBlock ?_
          refine SJ.sr 3 ?_
          refine OJ.kld (d := 66) (y := .tmp 2) (cd := c_weirlaw3_Side) (j := 2) (b := b1) (o := 0) r367 (pend2 := []) Ty62 rfl (At.whole _) rfl ?_
          refine OJ.kst (y := .tmp 4) (z := .tmp 66) (cd := c_weirlaw3_Side) (u := r367) (j := 0) (b := b3) (o := 0) (c_weirlaw3_Side.enc r367) (owed := []) Ty62 rfl (Upd.whole ((Cod.len _ _).trans (Cod.len _ _).symm)) rfl ?_
          refine OW.nil ?_
          refine OJ.go 1 [(5, .bool true)] ?_
          refine OJ.nil ?_
          exact SJ.ret rfl (Res.run (ys := [c_weirlaw3_Side.val r367, .bool true]) (.cell (j := 0) (b := b3) (cd := c_weirlaw3_Side) (q := r367) (by kernel_rfl) rfl Ty62 (At.whole _) (.tmp (by kernel_rfl) .nil)) rfl)
        · refine SJ.skip ?_
          refine SJ.inBlock ?_
          refine SJ.sr 3 ?_
          refine OJ.kld (d := 66) (y := .tmp 2) (cd := c_weirlaw3_Side) (j := 2) (b := b1) (o := 0) a0 (pend2 := []) Ty62 rfl (At.whole _) rfl ?_
          refine OJ.kst (y := .tmp 4) (z := .tmp 66) (cd := c_weirlaw3_Side) (u := a0) (j := 0) (b := b3) (o := 0) (c_weirlaw3_Side.enc a0) (owed := []) Ty62 rfl (Upd.whole ((Cod.len _ _).trans (Cod.len _ _).symm)) rfl ?_
          refine OW.nil ?_
          refine OJ.go 1 [(5, .bool true)] ?_
          refine OJ.nil ?_
          exact SJ.ret rfl (Res.run (ys := [c_weirlaw3_Side.val a0, .bool true]) (.cell (j := 0) (b := b3) (cd := c_weirlaw3_Side) (q := a0) (by kernel_rfl) rfl Ty62 (At.whole _) (.tmp (by kernel_rfl) .nil)) rfl)
      · refine SJ.sr 2 ?_
        refine OJ.go 2 [(52, .bool (a1.Kind == 11)), (53, .bool (a1.Kind == 11))] ?_
        refine OJ.nil ?_
        refine SJ.cond (t := (.tmp 52)) (b := (a1.Kind == 11)) beq_iff_eq (fun hc373 => ?_) (fun hc373 => ?_)
        · refine SJ.sr 11 ?_
          refine OJ.go 1 [(54, .pointer (some (pt b1 6)))] ?_
          refine OJ.kld (d := 55) (y := .tmp 54) (cd := cL) (j := 2) (b := b1) (o := 6) a0.W (pend2 := []) Ty60 rfl (At_weirlaw3_Side_W a0) rfl ?_
          refine OJ.go 3 [(58, .bool ((a0.W.len : Int) == 0)), (57, .bool ((a0.W.len : Int) == 0)), (56, .int .i64 (a0.W.len : Int))] ?_
          refine OJ.join (b := ((a0.W.len : Int) == 0)) [5, 6, 7, 8, 9] [10] [2, 4, 63] (fun y372 => [(2, .pointer (some (pt b1 0))), (4, .pointer (some (pt b3 0))), (63, .bool y372)]) [] [] (t := 58) beq_iff_eq (fun hp_ => ?_) (fun hp_ => ?_) (fun _ _ _ _ _ _ h_ => h_) (fun y372 => ?_)
          · refine OJ.go 5 [(63, .bool true), (62, undef), (61, undef), (60, undef), (59, undef)] ?_
            exact OJ.nil ⟨(Cov.mem Cov.nil), rfl, _, rfl, by kernel_rfl⟩
          · refine OJ.kld (d := 59) (y := .tmp 2) (cd := c_weirlaw3_Side) (j := 2) (b := b1) (o := 0) a0 (pend2 := []) Ty62 rfl (At.whole _) rfl ?_
            refine OJ.go 1 [(60, .pointer (some (pt b2 2)))] ?_
            refine OJ.kld (d := 61) (y := .tmp 60) (cd := (cI .i64)) (j := 1) (b := b2) (o := 2) a1.I (pend2 := []) Ty3 rfl (At_weirlaw3_Op_I a1) rfl ?_
            refine OJ.call (d := 62) (g := 61) (ats := #[62, 3]) (args := [.tmp 59, .tmp 61]) (owed := []) F61 (weirlaw3_looked_ok a0 a1.I) (fun r371 => ?_)
            refine OW.nil ?_
            refine OJ.go 1 [(63, .bool r371)] ?_
            exact OJ.nil ⟨(Cov.mem Cov.nil), rfl, _, rfl, by kernel_rfl⟩
          · refine OJ.go 1 [(7, .bool y372)] ?_
            refine OJ.nil ?_
            refine SJ.sr 4 ?_
            refine OJ.kld (d := 64) (y := .tmp 2) (cd := c_weirlaw3_Side) (j := 2) (b := b1) (o := 0) a0 (pend2 := []) Ty62 rfl (At.whole _) rfl ?_
            refine OJ.go 1 [(65, .bool y372)] ?_
            refine OJ.kst (y := .tmp 4) (z := .tmp 64) (cd := c_weirlaw3_Side) (u := a0) (j := 0) (b := b3) (o := 0) (c_weirlaw3_Side.enc a0) (owed := []) Ty62 rfl (Upd.whole ((Cod.len _ _).trans (Cod.len _ _).symm)) rfl ?_
            refine OW.nil ?_
            refine OJ.go 1 [(5, .bool y372)] ?_
            refine OJ.nil ?_
            exact SJ.ret rfl (Res.run (ys := [c_weirlaw3_Side.val a0, .bool y372]) (.cell (j := 0) (b := b3) (cd := c_weirlaw3_Side) (q := a0) (by kernel_rfl) rfl Ty62 (At.whole _) (.tmp (by kernel_rfl) .nil)) rfl)
        · refine SJ.skip ?_
          refine SJ.inBlock ?_
          refine SJ.sr 3 ?_
          refine OJ.kld (d := 66) (y := .tmp 2) (cd := c_weirlaw3_Side) (j := 2) (b := b1) (o := 0) a0 (pend2 := []) Ty62 rfl (At.whole _) rfl ?_
          refine OJ.kst (y := .tmp 4) (z := .tmp 66) (cd := c_weirlaw3_Side) (u := a0) (j := 0) (b := b3) (o := 0) (c_weirlaw3_Side.enc a0) (owed := []) Ty62 rfl (Upd.whole ((Cod.len _ _).trans (Cod.len _ _).symm)) rfl ?_
          refine OW.nil ?_
          refine OJ.go 1 [(5, .bool true)] ?_
          refine OJ.nil ?_
          exact SJ.ret rfl (Res.run (ys := [c_weirlaw3_Side.val a0, .bool true]) (.cell (j := 0) (b := b3) (cd := c_weirlaw3_Side) (q := a0) (by kernel_rfl) rfl Ty62 (At.whole _) (.tmp (by kernel_rfl) .nil)) rfl)
noncomputable def weirlaw3_step.K2 (a0 : weirlaw3_Side) (a1 : weirlaw3_Op) (j379 : Bool) : M (weirlaw3_Side × Bool) :=
  weirlaw3_step.K1 a0 a1 j379
theorem weirlaw3_step.K2_ok (a0 : weirlaw3_Side) (a1 : weirlaw3_Op) (b1 : Nat) (b2 : Nat) (b3 : Nat) (j379 : Bool) :
    SJ weirlaw3_step.cx [.code (c2 (c2 (c2 (c2 (c2 (c1 (c2 (c1 (c2 weirlaw3_step.B))))))))), .inBlock 0, .code (c2 (c2 weirlaw3_step.B))] [(2, .pointer (some (pt b1 0))), (3, .pointer (some (pt b2 0))), (4, .pointer (some (pt b3 0))), (9, .int .i64 a1.Kind), (27, .bool j379)] [(b3, c_weirlaw3_Side.enc z_weirlaw3_Side), (b2, c_weirlaw3_Op.enc a1), (b1, c_weirlaw3_Side.enc a0)] (weirlaw3_step.K2 a0 a1 j379) weirlaw3_step.F0 := by
  unfold weirlaw3_step.K2
  refine SJ.less [2, 3, 4, 9, 27] (m' := [(2, .pointer (some (pt b1 0))), (3, .pointer (some (pt b2 0))), (4, .pointer (some (pt b3 0))), (9, .int .i64 a1.Kind), (27, .bool j379)]) ?_
  exact weirlaw3_step.K1_ok a0 a1 b1 b2 b3 j379
noncomputable def weirlaw3_step.K3 (a0 : weirlaw3_Side) (a1 : weirlaw3_Op) (j380 : Bool) : M (weirlaw3_Side × Bool) :=
  weirlaw3_step.K2 a0 a1 j380
theorem weirlaw3_step.K3_ok (a0 : weirlaw3_Side) (a1 : weirlaw3_Op) (b1 : Nat) (b2 : Nat) (b3 : Nat) (j380 : Bool) :
    SJ weirlaw3_step.cx [.code (c2 (c2 (c2 (c2 (c2 (c1 (c2 (c1 (c2 weirlaw3_step.B))))))))), .inBlock 0, .code (c2 (c2 weirlaw3_step.B))] [(2, .pointer (some (pt b1 0))), (3, .pointer (some (pt b2 0))), (4, .pointer (some (pt b3 0))), (9, .int .i64 a1.Kind), (27, .bool j380)] [(b3, c_weirlaw3_Side.enc z_weirlaw3_Side), (b2, c_weirlaw3_Op.enc a1), (b1, c_weirlaw3_Side.enc a0)] (weirlaw3_step.K3 a0 a1 j380) weirlaw3_step.F0 := by
  unfold weirlaw3_step.K3
  refine SJ.less [2, 3, 4, 9, 27] (m' := [(2, .pointer (some (pt b1 0))), (3, .pointer (some (pt b2 0))), (4, .pointer (some (pt b3 0))), (9, .int .i64 a1.Kind), (27, .bool j380)]) ?_
  exact weirlaw3_step.K2_ok a0 a1 b1 b2 b3 j380
noncomputable def weirlaw3_step.K4 (a0 : weirlaw3_Side) (a1 : weirlaw3_Op) (j199 : Bool) : M (weirlaw3_Side × Bool) :=
  if j199 = true then
    weirlaw3_answered a0 a1 >>= fun r292 =>
    pure (r292.1, r292.2)
  else
    if a1.Kind = 1 then
      weirlaw3_step.K1 a0 a1 (a1.Kind == 1)
    else
      if a1.Kind = 6 then
        weirlaw3_step.K2 a0 a1 (a1.Kind == 6)
      else
        if a1.Kind = 7 then
          weirlaw3_step.K3 a0 a1 (a1.Kind == 7)
        else
          weirlaw3_step.K3 a0 a1 (a1.Kind == 8)
theorem weirlaw3_step.K4_ok (a0 : weirlaw3_Side) (a1 : weirlaw3_Op) (b1 : Nat) (b2 : Nat) (b3 : Nat) (j199 : Bool) :
    SJ weirlaw3_step.cx [.code (c2 (c2 (c2 (c1 (c2 (c1 (c2 weirlaw3_step.B))))))), .inBlock 0, .code (c2 (c2 weirlaw3_step.B))] [(2, .pointer (some (pt b1 0))), (3, .pointer (some (pt b2 0))), (4, .pointer (some (pt b3 0))), (9, .int .i64 a1.Kind), (18, .bool j199)] [(b3, c_weirlaw3_Side.enc z_weirlaw3_Side), (b2, c_weirlaw3_Op.enc a1), (b1, c_weirlaw3_Side.enc a0)] (weirlaw3_step.K4 a0 a1 j199) weirlaw3_step.F0 := by
  unfold weirlaw3_step.K4
  refine SJ.cond (t := (.tmp 18)) (b := j199) Iff.rfl (fun hc384 => ?_) (fun hc384 => ?_)
  · refine SJ.sr 7 ?_
    refine OJ.kld (d := 22) (y := .tmp 2) (cd := c_weirlaw3_Side) (j := 2) (b := b1) (o := 0) a0 (pend2 := []) Ty62 rfl (At.whole _) rfl ?_
    refine OJ.kld (d := 23) (y := .tmp 3) (cd := c_weirlaw3_Op) (j := 1) (b := b2) (o := 0) a1 (pend2 := []) Ty45 rfl (At.whole _) rfl ?_
    refine OJ.call (d := 24) (g := 58) (ats := #[62, 45]) (args := [.tmp 22, .tmp 23]) (owed := []) F58 (weirlaw3_answered_ok a0 a1) (fun r292 => ?_)
    refine OW.nil ?_
    refine OJ.go 2 [(26, .bool r292.2), (25, c_weirlaw3_Side.val r292.1)] ?_
    refine OJ.kst (y := .tmp 4) (z := .tmp 25) (cd := c_weirlaw3_Side) (u := r292.1) (j := 0) (b := b3) (o := 0) (c_weirlaw3_Side.enc r292.1) (owed := []) Ty62 rfl (Upd.whole ((Cod.len _ _).trans (Cod.len _ _).symm)) rfl ?_
    refine OW.nil ?_
    refine OJ.go 1 [(5, .bool r292.2)] ?_
    refine OJ.nil ?_
    exact SJ.ret rfl (Res.run (ys := [c_weirlaw3_Side.val r292.1, .bool r292.2]) (.cell (j := 0) (b := b3) (cd := c_weirlaw3_Side) (q := r292.1) (by kernel_rfl) rfl Ty62 (At.whole _) (.tmp (by kernel_rfl) .nil)) rfl)
  · refine SJ.seq ?_
    refine SJ.sr 2 ?_
    refine OJ.go 2 [(27, .bool (a1.Kind == 1)), (28, .bool (a1.Kind == 1))] ?_
    refine OJ.nil ?_
    refine SJ.cond (t := (.tmp 27)) (b := (a1.Kind == 1)) beq_iff_eq (fun hc383 => ?_) (fun hc383 => ?_)
    · refine SJ.skip ?_
      refine SJ.less [2, 3, 4, 9, 27] (m' := [(2, .pointer (some (pt b1 0))), (3, .pointer (some (pt b2 0))), (4, .pointer (some (pt b3 0))), (9, .int .i64 a1.Kind), (27, .bool (a1.Kind == 1))]) ?_
      exact weirlaw3_step.K1_ok a0 a1 b1 b2 b3 (a1.Kind == 1)
    · refine SJ.sr 2 ?_
      refine OJ.go 2 [(27, .bool (a1.Kind == 6)), (29, .bool (a1.Kind == 6))] ?_
      refine OJ.nil ?_
      refine SJ.cond (t := (.tmp 27)) (b := (a1.Kind == 6)) beq_iff_eq (fun hc382 => ?_) (fun hc382 => ?_)
      · refine SJ.skip ?_
        refine SJ.less [2, 3, 4, 9, 27] (m' := [(2, .pointer (some (pt b1 0))), (3, .pointer (some (pt b2 0))), (4, .pointer (some (pt b3 0))), (9, .int .i64 a1.Kind), (27, .bool (a1.Kind == 6))]) ?_
        exact weirlaw3_step.K2_ok a0 a1 b1 b2 b3 (a1.Kind == 6)
      · refine SJ.sr 2 ?_
        refine OJ.go 2 [(27, .bool (a1.Kind == 7)), (30, .bool (a1.Kind == 7))] ?_
        refine OJ.nil ?_
        refine SJ.cond (t := (.tmp 27)) (b := (a1.Kind == 7)) beq_iff_eq (fun hc381 => ?_) (fun hc381 => ?_)
        · refine SJ.skip ?_
          refine SJ.less [2, 3, 4, 9, 27] (m' := [(2, .pointer (some (pt b1 0))), (3, .pointer (some (pt b2 0))), (4, .pointer (some (pt b3 0))), (9, .int .i64 a1.Kind), (27, .bool (a1.Kind == 7))]) ?_
          exact weirlaw3_step.K3_ok a0 a1 b1 b2 b3 (a1.Kind == 7)
        · refine SJ.rg 2 ?_
          refine OJ.go 2 [(27, .bool (a1.Kind == 8)), (31, .bool (a1.Kind == 8))] ?_
          refine OJ.nil ?_
          refine SJ.less [2, 3, 4, 9, 27] (m' := [(2, .pointer (some (pt b1 0))), (3, .pointer (some (pt b2 0))), (4, .pointer (some (pt b3 0))), (9, .int .i64 a1.Kind), (27, .bool (a1.Kind == 8))]) ?_
          exact weirlaw3_step.K3_ok a0 a1 b1 b2 b3 (a1.Kind == 8)
noncomputable def weirlaw3_step.K5 (a0 : weirlaw3_Side) (a1 : weirlaw3_Op) (j385 : Bool) : M (weirlaw3_Side × Bool) :=
  weirlaw3_step.K4 a0 a1 j385
theorem weirlaw3_step.K5_ok (a0 : weirlaw3_Side) (a1 : weirlaw3_Op) (b1 : Nat) (b2 : Nat) (b3 : Nat) (j385 : Bool) :
    SJ weirlaw3_step.cx [.code (c2 (c2 (c2 (c1 (c2 (c1 (c2 weirlaw3_step.B))))))), .inBlock 0, .code (c2 (c2 weirlaw3_step.B))] [(2, .pointer (some (pt b1 0))), (3, .pointer (some (pt b2 0))), (4, .pointer (some (pt b3 0))), (9, .int .i64 a1.Kind), (18, .bool j385)] [(b3, c_weirlaw3_Side.enc z_weirlaw3_Side), (b2, c_weirlaw3_Op.enc a1), (b1, c_weirlaw3_Side.enc a0)] (weirlaw3_step.K5 a0 a1 j385) weirlaw3_step.F0 := by
  unfold weirlaw3_step.K5
  refine SJ.less [2, 3, 4, 9, 18] (m' := [(2, .pointer (some (pt b1 0))), (3, .pointer (some (pt b2 0))), (4, .pointer (some (pt b3 0))), (9, .int .i64 a1.Kind), (18, .bool j385)]) ?_
  exact weirlaw3_step.K4_ok a0 a1 b1 b2 b3 j385
noncomputable def weirlaw3_step (a0 : weirlaw3_Side) (a1 : weirlaw3_Op) : M (weirlaw3_Side × Bool) :=
  slot 62 >>= fun b1 =>
  slot 45 >>= fun b2 =>
  slot 62 >>= fun b3 =>
  if a1.Kind = 2 then
    weirlaw3_arrived a0 a1.B >>= fun r196 =>
    pure (r196.1, r196.2)
  else
    if a1.Kind = 3 then
      weirlaw3_step.K4 a0 a1 (a1.Kind == 3)
    else
      if a1.Kind = 4 then
        weirlaw3_step.K5 a0 a1 (a1.Kind == 4)
      else
        weirlaw3_step.K5 a0 a1 (a1.Kind == 5)
theorem weirlaw3_step_ok (a0 : weirlaw3_Side) (a1 : weirlaw3_Op) : Ref Try.prog 50 [c_weirlaw3_Side.val a0, c_weirlaw3_Op.val a1] (weirlaw3_step a0 a1) weirlaw3_step.out := by
  refine Ref.of (cd := weirlaw3_step.B) Try.func50 ?_
  show SJ weirlaw3_step.cx [.code weirlaw3_step.B] [(0, c_weirlaw3_Side.val a0), (1, c_weirlaw3_Op.val a1)] [] (weirlaw3_step a0 a1) weirlaw3_step.F0
  unfold weirlaw3_step
  refine SJ.sr 4 ?_
  refine OJ.slotOf (d := 2) (op := (.box 62 (.tmp 0))) (cd := c_weirlaw3_Side) (u := a0) (owed := []) (box_run (by kernel_rfl)) (fun b1 => ?_)
  refine OW.nil ?_
  refine OJ.slotOf (d := 3) (op := (.box 45 (.tmp 1))) (cd := c_weirlaw3_Op) (u := a1) (owed := []) (box_run (by kernel_rfl)) (fun b2 => ?_)
  refine OW.nil ?_
  refine OJ.slotOf (d := 4) (op := (.alloc 62)) (cd := c_weirlaw3_Side) (u := z_weirlaw3_Side) (owed := []) (alloc_run Ty62) (fun b3 => ?_)
  refine OW.nil ?_
  refine OJ.go 1 [(5, .bool false)] ?_
  refine OJ.nil ?_
  refine SJ.seq ?_
  refine SJ.sr 2 ?_
  refine OJ.go 1 [(8, .pointer (some (pt b2 0)))] ?_
  refine OJ.kld (d := 9) (y := .tmp 8) (cd := (cI .i64)) (j := 1) (b := b2) (o := 0) a1.Kind (pend2 := []) Ty3 rfl (At_weirlaw3_Op_Kind a1) rfl ?_
  refine OJ.nil ?_
  refine SJ.block (id := 0) ?_
  refine SJ.sr 2 ?_
  refine OJ.go 2 [(10, .bool (a1.Kind == 2)), (11, .bool (a1.Kind == 2))] ?_
  refine OJ.nil ?_
  refine SJ.cond (t := (.tmp 10)) (b := (a1.Kind == 2)) beq_iff_eq (fun hc388 => ?_) (fun hc388 => ?_)
  · refine SJ.sr 8 ?_
    refine OJ.kld (d := 12) (y := .tmp 2) (cd := c_weirlaw3_Side) (j := 2) (b := b1) (o := 0) a0 (pend2 := []) Ty62 rfl (At.whole _) rfl ?_
    refine OJ.go 1 [(13, .pointer (some (pt b2 4)))] ?_
    refine OJ.kld (d := 14) (y := .tmp 13) (cd := cL) (j := 1) (b := b2) (o := 4) a1.B (pend2 := []) Ty22 rfl (At_weirlaw3_Op_B a1) rfl ?_
    refine OJ.call (d := 15) (g := 57) (ats := #[62, 22]) (args := [.tmp 12, .tmp 14]) (owed := []) F57 (weirlaw3_arrived_ok a0 a1.B) (fun r196 => ?_)
    refine OW.nil ?_
    refine OJ.go 2 [(17, .bool r196.2), (16, c_weirlaw3_Side.val r196.1)] ?_
    refine OJ.kst (y := .tmp 4) (z := .tmp 16) (cd := c_weirlaw3_Side) (u := r196.1) (j := 0) (b := b3) (o := 0) (c_weirlaw3_Side.enc r196.1) (owed := []) Ty62 rfl (Upd.whole ((Cod.len _ _).trans (Cod.len _ _).symm)) rfl ?_
    refine OW.nil ?_
    refine OJ.go 1 [(5, .bool r196.2)] ?_
    refine OJ.nil ?_
    exact SJ.ret rfl (Res.run (ys := [c_weirlaw3_Side.val r196.1, .bool r196.2]) (.cell (j := 0) (b := b3) (cd := c_weirlaw3_Side) (q := r196.1) (by kernel_rfl) rfl Ty62 (At.whole _) (.tmp (by kernel_rfl) .nil)) rfl)
  · refine SJ.seq ?_
    refine SJ.sr 2 ?_
    refine OJ.go 2 [(18, .bool (a1.Kind == 3)), (19, .bool (a1.Kind == 3))] ?_
    refine OJ.nil ?_
    refine SJ.cond (t := (.tmp 18)) (b := (a1.Kind == 3)) beq_iff_eq (fun hc387 => ?_) (fun hc387 => ?_)
    · refine SJ.skip ?_
      refine SJ.less [2, 3, 4, 9, 18] (m' := [(2, .pointer (some (pt b1 0))), (3, .pointer (some (pt b2 0))), (4, .pointer (some (pt b3 0))), (9, .int .i64 a1.Kind), (18, .bool (a1.Kind == 3))]) ?_
      exact weirlaw3_step.K4_ok a0 a1 b1 b2 b3 (a1.Kind == 3)
    · refine SJ.sr 2 ?_
      refine OJ.go 2 [(18, .bool (a1.Kind == 4)), (20, .bool (a1.Kind == 4))] ?_
      refine OJ.nil ?_
      refine SJ.cond (t := (.tmp 18)) (b := (a1.Kind == 4)) beq_iff_eq (fun hc386 => ?_) (fun hc386 => ?_)
      · refine SJ.skip ?_
        refine SJ.less [2, 3, 4, 9, 18] (m' := [(2, .pointer (some (pt b1 0))), (3, .pointer (some (pt b2 0))), (4, .pointer (some (pt b3 0))), (9, .int .i64 a1.Kind), (18, .bool (a1.Kind == 4))]) ?_
        exact weirlaw3_step.K5_ok a0 a1 b1 b2 b3 (a1.Kind == 4)
      · refine SJ.rg 2 ?_
        refine OJ.go 2 [(18, .bool (a1.Kind == 5)), (21, .bool (a1.Kind == 5))] ?_
        refine OJ.nil ?_
        refine SJ.less [2, 3, 4, 9, 18] (m' := [(2, .pointer (some (pt b1 0))), (3, .pointer (some (pt b2 0))), (4, .pointer (some (pt b3 0))), (9, .int .i64 a1.Kind), (18, .bool (a1.Kind == 5))]) ?_
        exact weirlaw3_step.K5_ok a0 a1 b1 b2 b3 (a1.Kind == 5)

/-! ### weir/weirlaw3.started: function 29 -/
noncomputable def weirlaw3_started.B : Code := (Try.f29.body).getD .skip
noncomputable def weirlaw3_started.cx : Fx := ⟨Try.prog, 29, Try.f29⟩
noncomputable def weirlaw3_started.out (r_ : Bool) : Value := .bool r_
noncomputable def weirlaw3_started.F0 (r_ : Bool) : Reach := .ret (weirlaw3_started.out r_)
noncomputable def weirlaw3_started.K1 (s8 : Bool) (s10 : weirlaw3_Side) : M Bool :=
  (if s8 = true then
      pure ((s10.W.len : Int) == 1)
    else
      pure false) >>= fun y16 =>
  pure y16
theorem weirlaw3_started.K1_ok (b2 : Nat) (s8 : Bool) (s10 : weirlaw3_Side) :
    SJ weirlaw3_started.cx [.code (c2 (c2 (c2 (c2 weirlaw3_started.B))))] [(1, .pointer (some (pt b2 0))), (2, .bool s8)] [(b2, c_weirlaw3_Side.enc s10)] (weirlaw3_started.K1 s8 s10) weirlaw3_started.F0 := by
  unfold weirlaw3_started.K1
  refine SJ.sr 8 ?_
  refine OJ.go 2 [(38, .bool s8), (37, .bool s8)] ?_
  refine OJ.join (b := s8) [2, 3, 4, 5, 6] [7] [43] (fun y16 => [(43, .bool y16)]) [] [] (t := 38) Iff.rfl (fun hp_ => ?_) (fun hp_ => ?_) (fun _ _ _ _ _ _ h_ => h_) (fun y16 => ?_)
  · refine OJ.go 1 [(39, .pointer (some (pt b2 6)))] ?_
    refine OJ.kld (d := 40) (y := .tmp 39) (cd := cL) (j := 0) (b := b2) (o := 6) s10.W (pend2 := []) Ty60 rfl (At_weirlaw3_Side_W s10) rfl ?_
    refine OJ.go 3 [(43, .bool ((s10.W.len : Int) == 1)), (42, .bool ((s10.W.len : Int) == 1)), (41, .int .i64 (s10.W.len : Int))] ?_
    exact OJ.nil ⟨(Cov.mem Cov.nil), rfl, _, rfl, by kernel_rfl⟩
  · refine OJ.go 5 [(43, .bool false), (42, undef), (41, undef), (40, undef), (39, undef)] ?_
    exact OJ.nil ⟨(Cov.mem Cov.nil), rfl, _, rfl, by kernel_rfl⟩
  · refine OJ.go 1 [(0, .bool y16)] ?_
    refine OJ.nil ?_
    exact SJ.ret rfl (Res.run (ys := [.bool y16]) (.tmp (by kernel_rfl) .nil) rfl)
noncomputable def weirlaw3_started.F1 (b2 : Nat) (r4 : Sl) (r6 : Sl) (b7 : Nat) : (LS (Bool × Int × weirlaw3_Side) Bool) → Reach := loopF [.inLoop (c1 (c1 (c2 (c1 (c2 (c2 (c2 weirlaw3_started.B))))))), .inBlock 0, .code (c2 (c2 (c2 (c2 weirlaw3_started.B))))] (fun s_ : (Bool × Int × weirlaw3_Side) => [(1, .pointer (some (pt b2 0))), (2, .bool s_.1), (3, .pointer (some (pt b7 0))), (4, .int .i64 s_.2.1)]) (fun s_ : (Bool × Int × weirlaw3_Side) => [(b7, (c_weirlaw3_Op.arr 8).enc (⟨[(⟨1, z_weirlaw3_Op.Two, z_weirlaw3_Op.I, 1, z_weirlaw3_Op.B⟩ : weirlaw3_Op), (⟨2, z_weirlaw3_Op.Two, z_weirlaw3_Op.I, z_weirlaw3_Op.N, r4⟩ : weirlaw3_Op), (⟨3, z_weirlaw3_Op.Two, z_weirlaw3_Op.I, z_weirlaw3_Op.N, z_weirlaw3_Op.B⟩ : weirlaw3_Op), (⟨10, z_weirlaw3_Op.Two, z_weirlaw3_Op.I, z_weirlaw3_Op.N, r6⟩ : weirlaw3_Op), (⟨7, z_weirlaw3_Op.Two, z_weirlaw3_Op.I, 3, z_weirlaw3_Op.B⟩ : weirlaw3_Op), (⟨11, z_weirlaw3_Op.Two, z_weirlaw3_Op.I, z_weirlaw3_Op.N, z_weirlaw3_Op.B⟩ : weirlaw3_Op), (⟨9, z_weirlaw3_Op.Two, z_weirlaw3_Op.I, z_weirlaw3_Op.N, z_weirlaw3_Op.B⟩ : weirlaw3_Op), (⟨8, z_weirlaw3_Op.Two, z_weirlaw3_Op.I, z_weirlaw3_Op.N, z_weirlaw3_Op.B⟩ : weirlaw3_Op)], rfl⟩ : (Vec weirlaw3_Op 8))), (b2, c_weirlaw3_Side.enc s_.2.2)]) weirlaw3_started.F0
noncomputable def weirlaw3_started.L1 (r4 : Sl) (r6 : Sl) (s8 : Bool) (s9 : Int) (s10 : weirlaw3_Side) : M (LS (Bool × Int × weirlaw3_Side) Bool) :=
  (if s9 < 8 then
      pure s8
    else
      pure false) >>= fun y17 =>
  if y17 = true then
    draw >>= fun _ =>
    chk (0 ≤ s9 ∧ s9 < (8 : Nat)) >>= fun _ =>
    weirlaw3_step s10 (Vec.g (⟨[(⟨1, z_weirlaw3_Op.Two, z_weirlaw3_Op.I, 1, z_weirlaw3_Op.B⟩ : weirlaw3_Op), (⟨2, z_weirlaw3_Op.Two, z_weirlaw3_Op.I, z_weirlaw3_Op.N, r4⟩ : weirlaw3_Op), (⟨3, z_weirlaw3_Op.Two, z_weirlaw3_Op.I, z_weirlaw3_Op.N, z_weirlaw3_Op.B⟩ : weirlaw3_Op), (⟨10, z_weirlaw3_Op.Two, z_weirlaw3_Op.I, z_weirlaw3_Op.N, r6⟩ : weirlaw3_Op), (⟨7, z_weirlaw3_Op.Two, z_weirlaw3_Op.I, 3, z_weirlaw3_Op.B⟩ : weirlaw3_Op), (⟨11, z_weirlaw3_Op.Two, z_weirlaw3_Op.I, z_weirlaw3_Op.N, z_weirlaw3_Op.B⟩ : weirlaw3_Op), (⟨9, z_weirlaw3_Op.Two, z_weirlaw3_Op.I, z_weirlaw3_Op.N, z_weirlaw3_Op.B⟩ : weirlaw3_Op), (⟨8, z_weirlaw3_Op.Two, z_weirlaw3_Op.I, z_weirlaw3_Op.N, z_weirlaw3_Op.B⟩ : weirlaw3_Op)], rfl⟩ : (Vec weirlaw3_Op 8)) s9 z_weirlaw3_Op) >>= fun r20 =>
    pure (LS.next (r20.2, IntKind.wrap .i64 (s9 + 1), r20.1))
  else
    (weirlaw3_started.K1 s8 s10) >>= fun b => pure (LS.done b)
theorem weirlaw3_started.L1_ok (b2 : Nat) (r4 : Sl) (r6 : Sl) (b7 : Nat) (s8 : Bool) (s9 : Int) (s10 : weirlaw3_Side) :
    SJ weirlaw3_started.cx [.code (c1 (c1 (c2 (c1 (c2 (c2 (c2 weirlaw3_started.B))))))), .inLoop (c1 (c1 (c2 (c1 (c2 (c2 (c2 weirlaw3_started.B))))))), .inBlock 0, .code (c2 (c2 (c2 (c2 weirlaw3_started.B))))] [(1, .pointer (some (pt b2 0))), (2, .bool s8), (3, .pointer (some (pt b7 0))), (4, .int .i64 s9)] [(b7, (c_weirlaw3_Op.arr 8).enc (⟨[(⟨1, z_weirlaw3_Op.Two, z_weirlaw3_Op.I, 1, z_weirlaw3_Op.B⟩ : weirlaw3_Op), (⟨2, z_weirlaw3_Op.Two, z_weirlaw3_Op.I, z_weirlaw3_Op.N, r4⟩ : weirlaw3_Op), (⟨3, z_weirlaw3_Op.Two, z_weirlaw3_Op.I, z_weirlaw3_Op.N, z_weirlaw3_Op.B⟩ : weirlaw3_Op), (⟨10, z_weirlaw3_Op.Two, z_weirlaw3_Op.I, z_weirlaw3_Op.N, r6⟩ : weirlaw3_Op), (⟨7, z_weirlaw3_Op.Two, z_weirlaw3_Op.I, 3, z_weirlaw3_Op.B⟩ : weirlaw3_Op), (⟨11, z_weirlaw3_Op.Two, z_weirlaw3_Op.I, z_weirlaw3_Op.N, z_weirlaw3_Op.B⟩ : weirlaw3_Op), (⟨9, z_weirlaw3_Op.Two, z_weirlaw3_Op.I, z_weirlaw3_Op.N, z_weirlaw3_Op.B⟩ : weirlaw3_Op), (⟨8, z_weirlaw3_Op.Two, z_weirlaw3_Op.I, z_weirlaw3_Op.N, z_weirlaw3_Op.B⟩ : weirlaw3_Op)], rfl⟩ : (Vec weirlaw3_Op 8))), (b2, c_weirlaw3_Side.enc s10)] (weirlaw3_started.L1 r4 r6 s8 s9 s10) (weirlaw3_started.F1 b2 r4 r6 b7) := by
  unfold weirlaw3_started.L1
  refine SJ.seq ?_
  refine SJ.sr 5 ?_
  refine OJ.go 3 [(24, .bool (decide (s9 < 8))), (23, .bool (decide (s9 < 8))), (22, .int .i64 s9)] ?_
  refine OJ.join (b := decide (s9 < 8)) [3, 4] [] [1, 2, 3, 4, 26] (fun y17 => [(1, .pointer (some (pt b2 0))), (2, .bool s8), (3, .pointer (some (pt b7 0))), (4, .int .i64 s9), (26, .bool y17)]) [] [] (t := 24) decide_eq_true_iff (fun hp_ => ?_) (fun hp_ => ?_) (fun _ _ _ _ _ _ h_ => h_) (fun y17 => ?_)
  · refine OJ.go 2 [(26, .bool s8), (25, .bool s8)] ?_
    exact OJ.nil ⟨(Cov.mem Cov.nil), rfl, _, rfl, by kernel_rfl⟩
  · refine OJ.go 2 [(26, .bool false), (25, undef)] ?_
    exact OJ.nil ⟨(Cov.mem Cov.nil), rfl, _, rfl, by kernel_rfl⟩
  · refine OJ.nil ?_
    refine SJ.cond (t := (.tmp 26)) (b := y17) Iff.rfl (fun hc21 => ?_) (fun hc21 => ?_)
    · refine SJ.skip ?_
      refine SJ.seq ?_
      refine SJ.block (id := 1) ?_
      refine SJ.draw (id := 6) (kd := [1, 0, 0, 1, 2, 0, 0, 0, 2, 0]) (bef := [0, 0, 2, 6, 15, 31, 63, 63, 127, 511]) (ord := [0, 1, 2, 3, 4, 5, 6, 7, 8, 9]) mixed ?_
      refine OJ.kld (d := 30) (y := .tmp 1) (cd := c_weirlaw3_Side) (j := 1) (b := b2) (o := 0) s10 (pend2 := [⟨0, 62, (pt b2 0), c_weirlaw3_Side.val s10⟩]) Ty62 rfl (At.whole _) rfl ?_
      refine OJ.go 1 [(31, .int .i64 s9)] ?_
      refine OJ.idxK (d := 32) (T := 96) (y := .tmp 3) (j := .tmp 31) (E := 45) (sz := 5) (b := b7) (o := 0) (k := .i64) (fun hb18 hb19 => ?_)
      refine OJ.kld (d := 33) (y := .tmp 32) (cd := c_weirlaw3_Op) (j := 0) (b := b7) (o := (0 + s9.toNat * 5)) (Vec.g (⟨[(⟨1, z_weirlaw3_Op.Two, z_weirlaw3_Op.I, 1, z_weirlaw3_Op.B⟩ : weirlaw3_Op), (⟨2, z_weirlaw3_Op.Two, z_weirlaw3_Op.I, z_weirlaw3_Op.N, r4⟩ : weirlaw3_Op), (⟨3, z_weirlaw3_Op.Two, z_weirlaw3_Op.I, z_weirlaw3_Op.N, z_weirlaw3_Op.B⟩ : weirlaw3_Op), (⟨10, z_weirlaw3_Op.Two, z_weirlaw3_Op.I, z_weirlaw3_Op.N, r6⟩ : weirlaw3_Op), (⟨7, z_weirlaw3_Op.Two, z_weirlaw3_Op.I, 3, z_weirlaw3_Op.B⟩ : weirlaw3_Op), (⟨11, z_weirlaw3_Op.Two, z_weirlaw3_Op.I, z_weirlaw3_Op.N, z_weirlaw3_Op.B⟩ : weirlaw3_Op), (⟨9, z_weirlaw3_Op.Two, z_weirlaw3_Op.I, z_weirlaw3_Op.N, z_weirlaw3_Op.B⟩ : weirlaw3_Op), (⟨8, z_weirlaw3_Op.Two, z_weirlaw3_Op.I, z_weirlaw3_Op.N, z_weirlaw3_Op.B⟩ : weirlaw3_Op)], rfl⟩ : (Vec weirlaw3_Op 8)) s9 z_weirlaw3_Op) (pend2 := [⟨3, 45, (pt b7 (0 + s9.toNat * 5)), c_weirlaw3_Op.val (Vec.g (⟨[(⟨1, z_weirlaw3_Op.Two, z_weirlaw3_Op.I, 1, z_weirlaw3_Op.B⟩ : weirlaw3_Op), (⟨2, z_weirlaw3_Op.Two, z_weirlaw3_Op.I, z_weirlaw3_Op.N, r4⟩ : weirlaw3_Op), (⟨3, z_weirlaw3_Op.Two, z_weirlaw3_Op.I, z_weirlaw3_Op.N, z_weirlaw3_Op.B⟩ : weirlaw3_Op), (⟨10, z_weirlaw3_Op.Two, z_weirlaw3_Op.I, z_weirlaw3_Op.N, r6⟩ : weirlaw3_Op), (⟨7, z_weirlaw3_Op.Two, z_weirlaw3_Op.I, 3, z_weirlaw3_Op.B⟩ : weirlaw3_Op), (⟨11, z_weirlaw3_Op.Two, z_weirlaw3_Op.I, z_weirlaw3_Op.N, z_weirlaw3_Op.B⟩ : weirlaw3_Op), (⟨9, z_weirlaw3_Op.Two, z_weirlaw3_Op.I, z_weirlaw3_Op.N, z_weirlaw3_Op.B⟩ : weirlaw3_Op), (⟨8, z_weirlaw3_Op.Two, z_weirlaw3_Op.I, z_weirlaw3_Op.N, z_weirlaw3_Op.B⟩ : weirlaw3_Op)], rfl⟩ : (Vec weirlaw3_Op 8)) s9 z_weirlaw3_Op)⟩, ⟨0, 62, (pt b2 0), c_weirlaw3_Side.val s10⟩]) Ty45 rfl (At.zero (At.arr (z := z_weirlaw3_Op) hb18 hb19)) rfl ?_
      refine OJ.call (d := 34) (g := 50) (ats := #[62, 45]) (args := [.tmp 30, .tmp 33]) (owed := []) F50 (weirlaw3_step_ok s10 (Vec.g (⟨[(⟨1, z_weirlaw3_Op.Two, z_weirlaw3_Op.I, 1, z_weirlaw3_Op.B⟩ : weirlaw3_Op), (⟨2, z_weirlaw3_Op.Two, z_weirlaw3_Op.I, z_weirlaw3_Op.N, r4⟩ : weirlaw3_Op), (⟨3, z_weirlaw3_Op.Two, z_weirlaw3_Op.I, z_weirlaw3_Op.N, z_weirlaw3_Op.B⟩ : weirlaw3_Op), (⟨10, z_weirlaw3_Op.Two, z_weirlaw3_Op.I, z_weirlaw3_Op.N, r6⟩ : weirlaw3_Op), (⟨7, z_weirlaw3_Op.Two, z_weirlaw3_Op.I, 3, z_weirlaw3_Op.B⟩ : weirlaw3_Op), (⟨11, z_weirlaw3_Op.Two, z_weirlaw3_Op.I, z_weirlaw3_Op.N, z_weirlaw3_Op.B⟩ : weirlaw3_Op), (⟨9, z_weirlaw3_Op.Two, z_weirlaw3_Op.I, z_weirlaw3_Op.N, z_weirlaw3_Op.B⟩ : weirlaw3_Op), (⟨8, z_weirlaw3_Op.Two, z_weirlaw3_Op.I, z_weirlaw3_Op.N, z_weirlaw3_Op.B⟩ : weirlaw3_Op)], rfl⟩ : (Vec weirlaw3_Op 8)) s9 z_weirlaw3_Op)) (fun r20 => ?_)
      refine OW.nil ?_
      refine OJ.go 3 [(36, .bool r20.2), (35, c_weirlaw3_Side.val r20.1), (29, .tuple #[c_weirlaw3_Side.val r20.1, .bool r20.2])] ?_
      refine OJ.kst (y := .tmp 1) (z := .tmp 35) (cd := c_weirlaw3_Side) (u := r20.1) (j := 1) (b := b2) (o := 0) (c_weirlaw3_Side.enc r20.1) (owed := []) Ty62 rfl (Upd.whole ((Cod.len _ _).trans (Cod.len _ _).symm)) rfl ?_
      refine OW.nil ?_
      refine OJ.go 1 [(2, .bool r20.2)] ?_
      refine OJ.nil ?_
      refine SJ.inBlock ?_
      refine SJ.rg 3 ?_
      refine OJ.go 3 [(4, .int .i64 (IntKind.wrap .i64 (s9 + 1))), (28, .int .i64 (IntKind.wrap .i64 (s9 + 1))), (27, .int .i64 s9)] ?_
      refine OJ.nil ?_
      exact SJ.at_ [1, 2, 3, 4] rfl
    · refine SJ.exit (id := 0) (by rfl) ?_
      refine SJ.forget (List.Sublist.cons _ (List.Sublist.cons_cons _ List.Sublist.slnil)) ?_
      refine SJ.less [1, 2] (m' := [(1, .pointer (some (pt b2 0))), (2, .bool s8)]) ?_
      refine SJ.done ?_
      exact weirlaw3_started.K1_ok b2 s8 s10
noncomputable def weirlaw3_started  : M Bool :=
  weirlaw3_made 1 1 2 64 >>= fun r1 =>
  slot 62 >>= fun b2 =>
  newv 5 ((cI .u8).arr 3) (⟨[97, 98, 99], rfl⟩ : Vec Int 3) >>= fun b3 =>
  markS (⟨some (pt b3 0), 3, 3⟩ : Sl) >>= fun r4 =>
  newv 5 ((cI .u8).arr 1) (⟨[122], rfl⟩ : Vec Int 1) >>= fun b5 =>
  markS (⟨some (pt b5 0), 1, 1⟩ : Sl) >>= fun r6 =>
  slot 96 >>= fun b7 =>
  loopM (fun s_ : (Bool × Int × weirlaw3_Side) => weirlaw3_started.L1 r4 r6 s_.1 s_.2.1 s_.2.2) (r1.2, 0, r1.1)
theorem weirlaw3_started_ok  : Ref Try.prog 29 [] (weirlaw3_started) weirlaw3_started.out := by
  refine Ref.of (cd := weirlaw3_started.B) Try.func29 ?_
  show SJ weirlaw3_started.cx [.code weirlaw3_started.B] [] [] (weirlaw3_started) weirlaw3_started.F0
  unfold weirlaw3_started
  refine SJ.sr 1 ?_
  refine OJ.go 1 [(0, .bool false)] ?_
  refine OJ.nil ?_
  refine SJ.sr 7 ?_
  refine OJ.call (d := 6) (g := 30) (ats := #[3, 3, 3, 3]) (args := [.const (.int .i64 1), .const (.int .i64 1), .const (.int .i64 2), .const (.int .i64 64)]) (owed := []) F30 (weirlaw3_made_ok 1 1 2 64) (fun r1 => ?_)
  refine OW.nil ?_
  refine OJ.go 3 [(8, .bool r1.2), (7, c_weirlaw3_Side.val r1.1), (5, .tuple #[c_weirlaw3_Side.val r1.1, .bool r1.2])] ?_
  refine OJ.slotOf (d := 1) (op := (.alloc 62)) (cd := c_weirlaw3_Side) (u := z_weirlaw3_Side) (owed := []) (alloc_run Ty62) (fun b2 => ?_)
  refine OW.nil ?_
  refine OJ.kst (y := .tmp 1) (z := .tmp 7) (cd := c_weirlaw3_Side) (u := r1.1) (j := 0) (b := b2) (o := 0) (c_weirlaw3_Side.enc r1.1) (owed := []) Ty62 rfl (Upd.whole ((Cod.len _ _).trans (Cod.len _ _).symm)) rfl ?_
  refine OW.nil ?_
  refine OJ.go 1 [(2, .bool r1.2)] ?_
  refine OJ.nil ?_
  refine SJ.sr 15 ?_
  refine OJ.build (d := 9) (T := 45) (parts := [(0, .const (.int .i64 1)), (3, .const (.int .i64 1))]) (ps := [(0, (cI .i64).val 1), (3, (cI .i64).val 1)]) (cd := c_weirlaw3_Op) (z0 := z_weirlaw3_Op) (⟨1, z_weirlaw3_Op.Two, z_weirlaw3_Op.I, 1, z_weirlaw3_Op.B⟩ : weirlaw3_Op) Ty45 rfl (Filled.cons (cd := (cI .i64)) (q := 1) (o := 0) (by kernel_rfl) (Up_weirlaw3_Op_Kind z_weirlaw3_Op 1) (Filled.cons (cd := (cI .i64)) (q := 1) (o := 3) (by kernel_rfl) (Up_weirlaw3_Op_N (⟨1, z_weirlaw3_Op.Two, z_weirlaw3_Op.I, z_weirlaw3_Op.N, z_weirlaw3_Op.B⟩ : weirlaw3_Op) 1) Filled.nil)) ?_
  refine OJ.rowNew (d := 10) (t := 22) (parts := [(0, .const (.int .u8 97)), (1, .const (.int .u8 98)), (2, .const (.int .u8 99))]) (ps := [(0, (cI .u8).val 97), (1, (cI .u8).val 98), (2, (cI .u8).val 99)]) (cd := (cI .u8)) (owed := []) Ty5 (Filled.cons (cd := (cI .u8)) (q := 97) (o := 0) rfl (Upd.arr (i := 0) (by decide) (by decide)) (Filled.cons (cd := (cI .u8)) (q := 98) (o := 1) rfl (Upd.arr (i := 1) (by decide) (by decide)) (Filled.cons (cd := (cI .u8)) (q := 99) (o := 2) rfl (Upd.arr (i := 2) (by decide) (by decide)) Filled.nil))) (fun b3 => ?_)
  refine OW.nil ?_
  refine OJ.markS (d := 11) (t := 22) (E := 5) (x := .tmp 10) (owed := []) (fun r4 => ?_)
  refine OW.nil ?_
  refine OJ.build (d := 12) (T := 45) (parts := [(0, .const (.int .i64 2)), (4, .tmp 11)]) (ps := [(0, (cI .i64).val 2), (4, cL.val r4)]) (cd := c_weirlaw3_Op) (z0 := z_weirlaw3_Op) (⟨2, z_weirlaw3_Op.Two, z_weirlaw3_Op.I, z_weirlaw3_Op.N, r4⟩ : weirlaw3_Op) Ty45 rfl (Filled.cons (cd := (cI .i64)) (q := 2) (o := 0) (by kernel_rfl) (Up_weirlaw3_Op_Kind z_weirlaw3_Op 2) (Filled.cons (cd := cL) (q := r4) (o := 4) (by kernel_rfl) (Up_weirlaw3_Op_B (⟨2, z_weirlaw3_Op.Two, z_weirlaw3_Op.I, z_weirlaw3_Op.N, z_weirlaw3_Op.B⟩ : weirlaw3_Op) r4) Filled.nil)) ?_
  refine OJ.build (d := 13) (T := 45) (parts := [(0, .const (.int .i64 3))]) (ps := [(0, (cI .i64).val 3)]) (cd := c_weirlaw3_Op) (z0 := z_weirlaw3_Op) (⟨3, z_weirlaw3_Op.Two, z_weirlaw3_Op.I, z_weirlaw3_Op.N, z_weirlaw3_Op.B⟩ : weirlaw3_Op) Ty45 rfl (Filled.cons (cd := (cI .i64)) (q := 3) (o := 0) (by kernel_rfl) (Up_weirlaw3_Op_Kind z_weirlaw3_Op 3) Filled.nil) ?_
  refine OJ.rowNew (d := 14) (t := 22) (parts := [(0, .const (.int .u8 122))]) (ps := [(0, (cI .u8).val 122)]) (cd := (cI .u8)) (owed := []) Ty5 (Filled.cons (cd := (cI .u8)) (q := 122) (o := 0) rfl (Upd.arr (i := 0) (by decide) (by decide)) Filled.nil) (fun b5 => ?_)
  refine OW.nil ?_
  refine OJ.markS (d := 15) (t := 22) (E := 5) (x := .tmp 14) (owed := []) (fun r6 => ?_)
  refine OW.nil ?_
  refine OJ.build (d := 16) (T := 45) (parts := [(0, .const (.int .i64 10)), (4, .tmp 15)]) (ps := [(0, (cI .i64).val 10), (4, cL.val r6)]) (cd := c_weirlaw3_Op) (z0 := z_weirlaw3_Op) (⟨10, z_weirlaw3_Op.Two, z_weirlaw3_Op.I, z_weirlaw3_Op.N, r6⟩ : weirlaw3_Op) Ty45 rfl (Filled.cons (cd := (cI .i64)) (q := 10) (o := 0) (by kernel_rfl) (Up_weirlaw3_Op_Kind z_weirlaw3_Op 10) (Filled.cons (cd := cL) (q := r6) (o := 4) (by kernel_rfl) (Up_weirlaw3_Op_B (⟨10, z_weirlaw3_Op.Two, z_weirlaw3_Op.I, z_weirlaw3_Op.N, z_weirlaw3_Op.B⟩ : weirlaw3_Op) r6) Filled.nil)) ?_
  refine OJ.build (d := 17) (T := 45) (parts := [(0, .const (.int .i64 7)), (3, .const (.int .i64 3))]) (ps := [(0, (cI .i64).val 7), (3, (cI .i64).val 3)]) (cd := c_weirlaw3_Op) (z0 := z_weirlaw3_Op) (⟨7, z_weirlaw3_Op.Two, z_weirlaw3_Op.I, 3, z_weirlaw3_Op.B⟩ : weirlaw3_Op) Ty45 rfl (Filled.cons (cd := (cI .i64)) (q := 7) (o := 0) (by kernel_rfl) (Up_weirlaw3_Op_Kind z_weirlaw3_Op 7) (Filled.cons (cd := (cI .i64)) (q := 3) (o := 3) (by kernel_rfl) (Up_weirlaw3_Op_N (⟨7, z_weirlaw3_Op.Two, z_weirlaw3_Op.I, z_weirlaw3_Op.N, z_weirlaw3_Op.B⟩ : weirlaw3_Op) 3) Filled.nil)) ?_
  refine OJ.build (d := 18) (T := 45) (parts := [(0, .const (.int .i64 11))]) (ps := [(0, (cI .i64).val 11)]) (cd := c_weirlaw3_Op) (z0 := z_weirlaw3_Op) (⟨11, z_weirlaw3_Op.Two, z_weirlaw3_Op.I, z_weirlaw3_Op.N, z_weirlaw3_Op.B⟩ : weirlaw3_Op) Ty45 rfl (Filled.cons (cd := (cI .i64)) (q := 11) (o := 0) (by kernel_rfl) (Up_weirlaw3_Op_Kind z_weirlaw3_Op 11) Filled.nil) ?_
  refine OJ.build (d := 19) (T := 45) (parts := [(0, .const (.int .i64 9))]) (ps := [(0, (cI .i64).val 9)]) (cd := c_weirlaw3_Op) (z0 := z_weirlaw3_Op) (⟨9, z_weirlaw3_Op.Two, z_weirlaw3_Op.I, z_weirlaw3_Op.N, z_weirlaw3_Op.B⟩ : weirlaw3_Op) Ty45 rfl (Filled.cons (cd := (cI .i64)) (q := 9) (o := 0) (by kernel_rfl) (Up_weirlaw3_Op_Kind z_weirlaw3_Op 9) Filled.nil) ?_
  refine OJ.build (d := 20) (T := 45) (parts := [(0, .const (.int .i64 8))]) (ps := [(0, (cI .i64).val 8)]) (cd := c_weirlaw3_Op) (z0 := z_weirlaw3_Op) (⟨8, z_weirlaw3_Op.Two, z_weirlaw3_Op.I, z_weirlaw3_Op.N, z_weirlaw3_Op.B⟩ : weirlaw3_Op) Ty45 rfl (Filled.cons (cd := (cI .i64)) (q := 8) (o := 0) (by kernel_rfl) (Up_weirlaw3_Op_Kind z_weirlaw3_Op 8) Filled.nil) ?_
  refine OJ.build (d := 21) (T := 96) (parts := [(0, .tmp 9), (1, .tmp 12), (2, .tmp 13), (3, .tmp 16), (4, .tmp 17), (5, .tmp 18), (6, .tmp 19), (7, .tmp 20)]) (ps := [(0, c_weirlaw3_Op.val (⟨1, z_weirlaw3_Op.Two, z_weirlaw3_Op.I, 1, z_weirlaw3_Op.B⟩ : weirlaw3_Op)), (1, c_weirlaw3_Op.val (⟨2, z_weirlaw3_Op.Two, z_weirlaw3_Op.I, z_weirlaw3_Op.N, r4⟩ : weirlaw3_Op)), (2, c_weirlaw3_Op.val (⟨3, z_weirlaw3_Op.Two, z_weirlaw3_Op.I, z_weirlaw3_Op.N, z_weirlaw3_Op.B⟩ : weirlaw3_Op)), (3, c_weirlaw3_Op.val (⟨10, z_weirlaw3_Op.Two, z_weirlaw3_Op.I, z_weirlaw3_Op.N, r6⟩ : weirlaw3_Op)), (4, c_weirlaw3_Op.val (⟨7, z_weirlaw3_Op.Two, z_weirlaw3_Op.I, 3, z_weirlaw3_Op.B⟩ : weirlaw3_Op)), (5, c_weirlaw3_Op.val (⟨11, z_weirlaw3_Op.Two, z_weirlaw3_Op.I, z_weirlaw3_Op.N, z_weirlaw3_Op.B⟩ : weirlaw3_Op)), (6, c_weirlaw3_Op.val (⟨9, z_weirlaw3_Op.Two, z_weirlaw3_Op.I, z_weirlaw3_Op.N, z_weirlaw3_Op.B⟩ : weirlaw3_Op)), (7, c_weirlaw3_Op.val (⟨8, z_weirlaw3_Op.Two, z_weirlaw3_Op.I, z_weirlaw3_Op.N, z_weirlaw3_Op.B⟩ : weirlaw3_Op))]) (cd := (c_weirlaw3_Op.arr 8)) (z0 := (Vec.rep 8 z_weirlaw3_Op)) (⟨[(⟨1, z_weirlaw3_Op.Two, z_weirlaw3_Op.I, 1, z_weirlaw3_Op.B⟩ : weirlaw3_Op), (⟨2, z_weirlaw3_Op.Two, z_weirlaw3_Op.I, z_weirlaw3_Op.N, r4⟩ : weirlaw3_Op), (⟨3, z_weirlaw3_Op.Two, z_weirlaw3_Op.I, z_weirlaw3_Op.N, z_weirlaw3_Op.B⟩ : weirlaw3_Op), (⟨10, z_weirlaw3_Op.Two, z_weirlaw3_Op.I, z_weirlaw3_Op.N, r6⟩ : weirlaw3_Op), (⟨7, z_weirlaw3_Op.Two, z_weirlaw3_Op.I, 3, z_weirlaw3_Op.B⟩ : weirlaw3_Op), (⟨11, z_weirlaw3_Op.Two, z_weirlaw3_Op.I, z_weirlaw3_Op.N, z_weirlaw3_Op.B⟩ : weirlaw3_Op), (⟨9, z_weirlaw3_Op.Two, z_weirlaw3_Op.I, z_weirlaw3_Op.N, z_weirlaw3_Op.B⟩ : weirlaw3_Op), (⟨8, z_weirlaw3_Op.Two, z_weirlaw3_Op.I, z_weirlaw3_Op.N, z_weirlaw3_Op.B⟩ : weirlaw3_Op)], rfl⟩ : (Vec weirlaw3_Op 8)) Ty96 rfl (Filled.cons (cd := c_weirlaw3_Op) (q := (⟨1, z_weirlaw3_Op.Two, z_weirlaw3_Op.I, 1, z_weirlaw3_Op.B⟩ : weirlaw3_Op)) (o := 0) (by kernel_rfl) (Upd.arr (i := 0) (by decide) (by decide)) (Filled.cons (cd := c_weirlaw3_Op) (q := (⟨2, z_weirlaw3_Op.Two, z_weirlaw3_Op.I, z_weirlaw3_Op.N, r4⟩ : weirlaw3_Op)) (o := 5) (by kernel_rfl) (Upd.arr (i := 1) (by decide) (by decide)) (Filled.cons (cd := c_weirlaw3_Op) (q := (⟨3, z_weirlaw3_Op.Two, z_weirlaw3_Op.I, z_weirlaw3_Op.N, z_weirlaw3_Op.B⟩ : weirlaw3_Op)) (o := 10) (by kernel_rfl) (Upd.arr (i := 2) (by decide) (by decide)) (Filled.cons (cd := c_weirlaw3_Op) (q := (⟨10, z_weirlaw3_Op.Two, z_weirlaw3_Op.I, z_weirlaw3_Op.N, r6⟩ : weirlaw3_Op)) (o := 15) (by kernel_rfl) (Upd.arr (i := 3) (by decide) (by decide)) (Filled.cons (cd := c_weirlaw3_Op) (q := (⟨7, z_weirlaw3_Op.Two, z_weirlaw3_Op.I, 3, z_weirlaw3_Op.B⟩ : weirlaw3_Op)) (o := 20) (by kernel_rfl) (Upd.arr (i := 4) (by decide) (by decide)) (Filled.cons (cd := c_weirlaw3_Op) (q := (⟨11, z_weirlaw3_Op.Two, z_weirlaw3_Op.I, z_weirlaw3_Op.N, z_weirlaw3_Op.B⟩ : weirlaw3_Op)) (o := 25) (by kernel_rfl) (Upd.arr (i := 5) (by decide) (by decide)) (Filled.cons (cd := c_weirlaw3_Op) (q := (⟨9, z_weirlaw3_Op.Two, z_weirlaw3_Op.I, z_weirlaw3_Op.N, z_weirlaw3_Op.B⟩ : weirlaw3_Op)) (o := 30) (by kernel_rfl) (Upd.arr (i := 6) (by decide) (by decide)) (Filled.cons (cd := c_weirlaw3_Op) (q := (⟨8, z_weirlaw3_Op.Two, z_weirlaw3_Op.I, z_weirlaw3_Op.N, z_weirlaw3_Op.B⟩ : weirlaw3_Op)) (o := 35) (by kernel_rfl) (Upd.arr (i := 7) (by decide) (by decide)) Filled.nil)))))))) ?_
  refine OJ.slotOf (d := 3) (op := (.alloc 96)) (cd := (c_weirlaw3_Op.arr 8)) (u := (Vec.rep 8 z_weirlaw3_Op)) (owed := []) (alloc_run Ty96) (fun b7 => ?_)
  refine OW.nil ?_
  refine OJ.kst (y := .tmp 3) (z := .tmp 21) (cd := (c_weirlaw3_Op.arr 8)) (u := (⟨[(⟨1, z_weirlaw3_Op.Two, z_weirlaw3_Op.I, 1, z_weirlaw3_Op.B⟩ : weirlaw3_Op), (⟨2, z_weirlaw3_Op.Two, z_weirlaw3_Op.I, z_weirlaw3_Op.N, r4⟩ : weirlaw3_Op), (⟨3, z_weirlaw3_Op.Two, z_weirlaw3_Op.I, z_weirlaw3_Op.N, z_weirlaw3_Op.B⟩ : weirlaw3_Op), (⟨10, z_weirlaw3_Op.Two, z_weirlaw3_Op.I, z_weirlaw3_Op.N, r6⟩ : weirlaw3_Op), (⟨7, z_weirlaw3_Op.Two, z_weirlaw3_Op.I, 3, z_weirlaw3_Op.B⟩ : weirlaw3_Op), (⟨11, z_weirlaw3_Op.Two, z_weirlaw3_Op.I, z_weirlaw3_Op.N, z_weirlaw3_Op.B⟩ : weirlaw3_Op), (⟨9, z_weirlaw3_Op.Two, z_weirlaw3_Op.I, z_weirlaw3_Op.N, z_weirlaw3_Op.B⟩ : weirlaw3_Op), (⟨8, z_weirlaw3_Op.Two, z_weirlaw3_Op.I, z_weirlaw3_Op.N, z_weirlaw3_Op.B⟩ : weirlaw3_Op)], rfl⟩ : (Vec weirlaw3_Op 8))) (j := 0) (b := b7) (o := 0) ((c_weirlaw3_Op.arr 8).enc (⟨[(⟨1, z_weirlaw3_Op.Two, z_weirlaw3_Op.I, 1, z_weirlaw3_Op.B⟩ : weirlaw3_Op), (⟨2, z_weirlaw3_Op.Two, z_weirlaw3_Op.I, z_weirlaw3_Op.N, r4⟩ : weirlaw3_Op), (⟨3, z_weirlaw3_Op.Two, z_weirlaw3_Op.I, z_weirlaw3_Op.N, z_weirlaw3_Op.B⟩ : weirlaw3_Op), (⟨10, z_weirlaw3_Op.Two, z_weirlaw3_Op.I, z_weirlaw3_Op.N, r6⟩ : weirlaw3_Op), (⟨7, z_weirlaw3_Op.Two, z_weirlaw3_Op.I, 3, z_weirlaw3_Op.B⟩ : weirlaw3_Op), (⟨11, z_weirlaw3_Op.Two, z_weirlaw3_Op.I, z_weirlaw3_Op.N, z_weirlaw3_Op.B⟩ : weirlaw3_Op), (⟨9, z_weirlaw3_Op.Two, z_weirlaw3_Op.I, z_weirlaw3_Op.N, z_weirlaw3_Op.B⟩ : weirlaw3_Op), (⟨8, z_weirlaw3_Op.Two, z_weirlaw3_Op.I, z_weirlaw3_Op.N, z_weirlaw3_Op.B⟩ : weirlaw3_Op)], rfl⟩ : (Vec weirlaw3_Op 8))) (owed := []) Ty96 rfl (Upd.whole ((Cod.len _ _).trans (Cod.len _ _).symm)) rfl ?_
  refine OW.nil ?_
  refine OJ.nil ?_
  refine SJ.seq ?_
  refine SJ.sr 1 ?_
  refine OJ.go 1 [(4, .int .i64 0)] ?_
  refine OJ.nil ?_
  refine SJ.block (id := 0) ?_
  exact SJ.loop (fun s_ : (Bool × Int × weirlaw3_Side) => [(1, .pointer (some (pt b2 0))), (2, .bool s_.1), (3, .pointer (some (pt b7 0))), (4, .int .i64 s_.2.1)]) (fun s_ : (Bool × Int × weirlaw3_Side) => [(b7, (c_weirlaw3_Op.arr 8).enc (⟨[(⟨1, z_weirlaw3_Op.Two, z_weirlaw3_Op.I, 1, z_weirlaw3_Op.B⟩ : weirlaw3_Op), (⟨2, z_weirlaw3_Op.Two, z_weirlaw3_Op.I, z_weirlaw3_Op.N, r4⟩ : weirlaw3_Op), (⟨3, z_weirlaw3_Op.Two, z_weirlaw3_Op.I, z_weirlaw3_Op.N, z_weirlaw3_Op.B⟩ : weirlaw3_Op), (⟨10, z_weirlaw3_Op.Two, z_weirlaw3_Op.I, z_weirlaw3_Op.N, r6⟩ : weirlaw3_Op), (⟨7, z_weirlaw3_Op.Two, z_weirlaw3_Op.I, 3, z_weirlaw3_Op.B⟩ : weirlaw3_Op), (⟨11, z_weirlaw3_Op.Two, z_weirlaw3_Op.I, z_weirlaw3_Op.N, z_weirlaw3_Op.B⟩ : weirlaw3_Op), (⟨9, z_weirlaw3_Op.Two, z_weirlaw3_Op.I, z_weirlaw3_Op.N, z_weirlaw3_Op.B⟩ : weirlaw3_Op), (⟨8, z_weirlaw3_Op.Two, z_weirlaw3_Op.I, z_weirlaw3_Op.N, z_weirlaw3_Op.B⟩ : weirlaw3_Op)], rfl⟩ : (Vec weirlaw3_Op 8))), (b2, c_weirlaw3_Side.enc s_.2.2)]) [1, 2, 3, 4] rfl (fun _ _ => rfl) (fun s_ => weirlaw3_started.L1_ok b2 r4 r6 b7 s_.1 s_.2.1 s_.2.2)

/-! ### weir/weirlaw3.mark: function 56 -/
noncomputable def weirlaw3_mark.B : Code := (Try.f56.body).getD .skip
noncomputable def weirlaw3_mark.cx : Fx := ⟨Try.prog, 56, Try.f56⟩
noncomputable def weirlaw3_mark.out (r_ : Int) : Value := .int .u8 r_
noncomputable def weirlaw3_mark.F0 (r_ : Int) : Reach := .ret (weirlaw3_mark.out r_)
noncomputable def weirlaw3_mark (a0 : Int) : M Int :=
  pure (IntKind.wrap .u8 (IntKind.wrap .i64 (203 - (IntKind.wrap .i64 (5 * a0)))))
theorem weirlaw3_mark_ok (a0 : Int) : Ref Try.prog 56 [.int .i64 a0] (weirlaw3_mark a0) weirlaw3_mark.out := by
  refine Ref.of (cd := weirlaw3_mark.B) Try.func56 ?_
  show SJ weirlaw3_mark.cx [.code weirlaw3_mark.B] [(0, .int .i64 a0)] [] (weirlaw3_mark a0) weirlaw3_mark.F0
  unfold weirlaw3_mark
  refine SJ.sr 1 ?_
  refine OJ.go 1 [(2, .int .u8 0)] ?_
  refine OJ.nil ?_
  refine SJ.sr 5 ?_
  refine OJ.go 5 [(2, .int .u8 (IntKind.wrap .u8 (IntKind.wrap .i64 (203 - (IntKind.wrap .i64 (5 * a0)))))), (6, .int .u8 (IntKind.wrap .u8 (IntKind.wrap .i64 (203 - (IntKind.wrap .i64 (5 * a0)))))), (5, .int .i64 (IntKind.wrap .i64 (203 - (IntKind.wrap .i64 (5 * a0))))), (4, .int .i64 (IntKind.wrap .i64 (5 * a0))), (3, .int .i64 a0)] ?_
  refine OJ.nil ?_
  exact SJ.ret rfl (Res.run (ys := [.int .u8 (IntKind.wrap .u8 (IntKind.wrap .i64 (203 - (IntKind.wrap .i64 (5 * a0)))))]) (.tmp (by kernel_rfl) .nil) rfl)
end Go.Proofs.Ytoddkagehbcfjaa.Lx
