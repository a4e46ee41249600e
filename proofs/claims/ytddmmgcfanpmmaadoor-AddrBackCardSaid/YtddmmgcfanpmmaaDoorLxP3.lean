/- Programs of the M-world for Go functions, each with the proof that the Go text does what it says. Printed by lxgen.py. -/
import Derived.Test.YtddmmgcfanpmmaaDoorLxT
import Derived.Test.YtddmmgcfanpmmaaDoorLxP0
import Derived.Test.YtddmmgcfanpmmaaDoorLxP1
import Derived.Test.YtddmmgcfanpmmaaDoorLxP2
set_option linter.unusedVariables false
set_option linter.unusedSimpArgs false
namespace Go.Proofs.YtddmmgcfanpmmaaDoor.Lx
open Go Go.Proofs
/-! ### weir/addr.Class: function 25 -/
noncomputable def addr_Class.B : Code := (Tryd.f25.body).getD .skip
noncomputable def addr_Class.cx : Fx := ⟨Tryd.prog, 25, Tryd.f25⟩
noncomputable def addr_Class.out (r_ : Int) : Value := .int .i64 r_
noncomputable def addr_Class.F0 (r_ : Int) : Reach := .ret (addr_Class.out r_)
noncomputable def addr_Class.F1 (a0 : api_IP) (b1 : Nat) (x3 : (Vec addr_net 12)) : (LS Int Int) → Reach := loopF [.inLoop (c1 (c1 (c2 (c1 (c2 (c2 addr_Class.B)))))), .inBlock 0, .code (c2 (c2 (c2 addr_Class.B)))] (fun s_ : Int => [(1, .pointer (some (pt b1 0))), (8, (c_addr_net.arr 12).val x3), (9, .int .i64 s_)]) (fun s_ : Int => [(b1, c_api_IP.enc a0)]) addr_Class.F0
noncomputable def addr_Class.L1 (a0 : api_IP) (x3 : (Vec addr_net 12)) (s4 : Int) : M (LS Int Int) :=
  if s4 < 12 then
    chk ((0 : Int) ≤ s4 ∧ s4 < (12 : Nat)) >>= fun _ =>
    slot 95 >>= fun b14 =>
    draw >>= fun _ =>
    (if ((Vec.g x3 s4 z_addr_net).v) = a0.V then
        addr_masked a0.A ((Vec.g x3 s4 z_addr_net).bits) >>= fun r15 =>
        pure (eqv r15 ((Vec.g x3 s4 z_addr_net).a))
      else
        pure false) >>= fun y16 =>
    if y16 = true then
      pure (LS.done ((Vec.g x3 s4 z_addr_net).class_))
    else
      pure (LS.next (IntKind.wrap .i64 (s4 + 1)))
  else
    pure (LS.done 7)
theorem addr_Class.L1_ok (a0 : api_IP) (b1 : Nat) (x3 : (Vec addr_net 12)) (s4 : Int) :
    SJ addr_Class.cx [.code (c1 (c1 (c2 (c1 (c2 (c2 addr_Class.B)))))), .inLoop (c1 (c1 (c2 (c1 (c2 (c2 addr_Class.B)))))), .inBlock 0, .code (c2 (c2 (c2 addr_Class.B)))] [(1, .pointer (some (pt b1 0))), (8, (c_addr_net.arr 12).val x3), (9, .int .i64 s4)] [(b1, c_api_IP.enc a0)] (addr_Class.L1 a0 x3 s4) (addr_Class.F1 a0 b1 x3) := by
  unfold addr_Class.L1
  refine SJ.sr 1 ?_
  refine OJ.go 1 [(10, .bool (decide (s4 < 12)))] ?_
  refine OJ.nil ?_
  refine SJ.seq ?_
  refine SJ.cond (t := (.tmp 10)) (b := decide (s4 < 12)) decide_eq_true_iff (fun hc18 => ?_) (fun hc18 => ?_)
  · refine SJ.skip ?_
    refine SJ.seq ?_
    refine SJ.block (id := 1) ?_
    refine SJ.sr 3 ?_
    refine OJ.idxV (d := 11) (T := 96) (E := 95) (y := .tmp 8) (j := .tmp 9) (k := .i64) (v0 := x3) Ty95 (fun hb12 hb13 => ?_)
    refine OJ.slotOf (d := 4) (op := (.alloc 95)) (cd := c_addr_net) (u := z_addr_net) (owed := []) (alloc_run Ty95) (fun b14 => ?_)
    refine OW.nil ?_
    refine OJ.kst (y := .tmp 4) (z := .tmp 11) (cd := c_addr_net) (u := (Vec.g x3 s4 z_addr_net)) (j := 0) (b := b14) (o := 0) (c_addr_net.enc (Vec.g x3 s4 z_addr_net)) (owed := []) Ty95 rfl (Upd.whole ((Cod.len _ _).trans (Cod.len _ _).symm)) rfl ?_
    refine OW.nil ?_
    refine OJ.nil ?_
    refine SJ.seq ?_
    refine SJ.draw (id := 6) (kd := [0, 1, 0, 1, 0, 0, 0, 1, 0, 1, 2, 0, 1, 0, 0]) (bef := [0, 1, 0, 4, 15, 31, 63, 127, 63, 319, 1023, 63, 2111, 8191, 16383]) (ord := [0, 1, 2, 3, 4, 5, 6, 7, 8, 9, 11, 12, 10, 13, 14]) mixed ?_
    refine OJ.go 1 [(12, .pointer (some (pt b14 0)))] ?_
    refine OJ.kld (d := 13) (y := .tmp 12) (cd := (cI .i64)) (j := 0) (b := b14) (o := 0) ((Vec.g x3 s4 z_addr_net).v) (pend2 := [⟨1, 3, (pt b14 0), (cI .i64).val ((Vec.g x3 s4 z_addr_net).v)⟩]) Ty3 rfl (At_addr_net_v (Vec.g x3 s4 z_addr_net)) rfl ?_
    refine OJ.go 1 [(14, .pointer (some (pt b1 0)))] ?_
    refine OJ.kld (d := 15) (y := .tmp 14) (cd := (cI .i64)) (j := 1) (b := b1) (o := 0) a0.V (pend2 := [⟨3, 3, (pt b1 0), (cI .i64).val a0.V⟩, ⟨1, 3, (pt b14 0), (cI .i64).val ((Vec.g x3 s4 z_addr_net).v)⟩]) Ty3 rfl (At_api_IP_V a0) rfl ?_
    refine OJ.go 2 [(17, .bool (((Vec.g x3 s4 z_addr_net).v) == a0.V)), (16, .bool (((Vec.g x3 s4 z_addr_net).v) == a0.V))] ?_
    refine OJ.join (b := (((Vec.g x3 s4 z_addr_net).v) == a0.V)) [6, 7, 8, 9, 11, 12, 10, 13, 14] [] [1, 8, 9, 4, 26] (fun y16 => [(1, .pointer (some (pt b1 0))), (8, (c_addr_net.arr 12).val x3), (9, .int .i64 s4), (4, .pointer (some (pt b14 0))), (26, .bool y16)]) [⟨12, 22, (pt b14 1), ((cI .u8).arr 16).val ((Vec.g x3 s4 z_addr_net).a)⟩, ⟨9, 3, (pt b14 17), (cI .i64).val ((Vec.g x3 s4 z_addr_net).bits)⟩, ⟨7, 22, (pt b1 1), ((cI .u8).arr 16).val a0.A⟩, ⟨3, 3, (pt b1 0), (cI .i64).val a0.V⟩, ⟨1, 3, (pt b14 0), (cI .i64).val ((Vec.g x3 s4 z_addr_net).v)⟩] [] (t := 17) beq_iff_eq (fun hp_ => ?_) (fun hp_ => ?_) (fun _ _ _ _ _ _ h_ => h_) (fun y16 => ?_)
    · refine OJ.go 1 [(18, .pointer (some (pt b1 1)))] ?_
      refine OJ.kld (d := 19) (y := .tmp 18) (cd := ((cI .u8).arr 16)) (j := 1) (b := b1) (o := 1) a0.A (pend2 := [⟨7, 22, (pt b1 1), ((cI .u8).arr 16).val a0.A⟩, ⟨3, 3, (pt b1 0), (cI .i64).val a0.V⟩, ⟨1, 3, (pt b14 0), (cI .i64).val ((Vec.g x3 s4 z_addr_net).v)⟩]) Ty22 rfl (At_api_IP_A a0) rfl ?_
      refine OJ.go 1 [(20, .pointer (some (pt b14 17)))] ?_
      refine OJ.kld (d := 21) (y := .tmp 20) (cd := (cI .i64)) (j := 0) (b := b14) (o := 17) ((Vec.g x3 s4 z_addr_net).bits) (pend2 := [⟨9, 3, (pt b14 17), (cI .i64).val ((Vec.g x3 s4 z_addr_net).bits)⟩, ⟨7, 22, (pt b1 1), ((cI .u8).arr 16).val a0.A⟩, ⟨3, 3, (pt b1 0), (cI .i64).val a0.V⟩, ⟨1, 3, (pt b14 0), (cI .i64).val ((Vec.g x3 s4 z_addr_net).v)⟩]) Ty3 rfl (At_addr_net_bits (Vec.g x3 s4 z_addr_net)) rfl ?_
      refine OJ.go 1 [(23, .pointer (some (pt b14 1)))] ?_
      refine OJ.kld (d := 24) (y := .tmp 23) (cd := ((cI .u8).arr 16)) (j := 0) (b := b14) (o := 1) ((Vec.g x3 s4 z_addr_net).a) (pend2 := [⟨12, 22, (pt b14 1), ((cI .u8).arr 16).val ((Vec.g x3 s4 z_addr_net).a)⟩, ⟨9, 3, (pt b14 17), (cI .i64).val ((Vec.g x3 s4 z_addr_net).bits)⟩, ⟨7, 22, (pt b1 1), ((cI .u8).arr 16).val a0.A⟩, ⟨3, 3, (pt b1 0), (cI .i64).val a0.V⟩, ⟨1, 3, (pt b14 0), (cI .i64).val ((Vec.g x3 s4 z_addr_net).v)⟩]) Ty22 rfl (At_addr_net_a (Vec.g x3 s4 z_addr_net)) rfl ?_
      refine OJ.call (d := 22) (g := 27) (ats := #[22, 3]) (args := [.tmp 19, .tmp 21]) (owed := [⟨12, 22, (pt b14 1), ((cI .u8).arr 16).val ((Vec.g x3 s4 z_addr_net).a)⟩]) F27 (addr_masked_ok a0.A ((Vec.g x3 s4 z_addr_net).bits)) (fun r15 => ?_)
      refine OW.known (j := 0) (q := ((Vec.g x3 s4 z_addr_net).a)) Ty22 rfl (At_addr_net_a (Vec.g x3 s4 z_addr_net)) ?_
      refine OW.nil ?_
      refine OJ.eql (d := 25) (T := 22) (yT := 22) (y := .tmp 22) (z := .tmp 24) (cd := ((cI .u8).arr 16)) (p := r15) (q := ((Vec.g x3 s4 z_addr_net).a)) rfl Eq22 ?_
      refine OJ.go 1 [(26, .bool (eqv r15 ((Vec.g x3 s4 z_addr_net).a)))] ?_
      exact OJ.nil ⟨(Cov.mem (Cov.keep (List.mem_of_getElem? (i := 0) rfl) (Cov.keep (List.mem_of_getElem? (i := 1) rfl) (Cov.keep (List.mem_of_getElem? (i := 2) rfl) (Cov.keep (List.mem_of_getElem? (i := 3) rfl) (Cov.keep (List.mem_of_getElem? (i := 4) rfl) Cov.nil)))))), rfl, _, rfl, by kernel_rfl⟩
    · refine OJ.go 9 [(26, .bool false), (25, undef), (22, undef), (24, undef), (23, undef), (21, undef), (20, undef), (19, undef), (18, undef)] ?_
      exact OJ.nil ⟨(Cov.mem (Cov.keep (List.mem_of_getElem? (i := 3) rfl) (Cov.keep (List.mem_of_getElem? (i := 4) rfl) Cov.nil))), rfl, _, rfl, by kernel_rfl⟩
    · refine OJ.nil ?_
      refine SJ.cond (t := (.tmp 26)) (b := y16) Iff.rfl (fun hc17 => ?_) (fun hc17 => ?_)
      · refine SJ.sr 3 ?_
        refine OJ.go 1 [(27, .pointer (some (pt b14 18)))] ?_
        refine OJ.kld (d := 28) (y := .tmp 27) (cd := (cI .i64)) (j := 0) (b := b14) (o := 18) ((Vec.g x3 s4 z_addr_net).class_) (pend2 := []) Ty3 rfl (At_addr_net_class_ (Vec.g x3 s4 z_addr_net)) rfl ?_
        refine OJ.go 1 [(2, .int .i64 ((Vec.g x3 s4 z_addr_net).class_))] ?_
        refine OJ.nil ?_
        exact SJ.ret rfl (Res.run (ys := [.int .i64 ((Vec.g x3 s4 z_addr_net).class_)]) (.tmp (by kernel_rfl) .nil) rfl)
      · refine SJ.skip ?_
        refine SJ.inBlock ?_
        refine SJ.rg 2 ?_
        refine OJ.go 2 [(9, .int .i64 (IntKind.wrap .i64 (s4 + 1))), (29, .int .i64 (IntKind.wrap .i64 (s4 + 1)))] ?_
        refine OJ.nil ?_
        refine SJ.forget (List.Sublist.cons _ (List.Sublist.cons_cons _ List.Sublist.slnil)) ?_
        exact SJ.at_ [1, 8, 9] rfl
  · refine SJ.exit (id := 0) (by rfl) ?_
    refine SJ.sr 1 ?_
    refine OJ.go 1 [(2, .int .i64 7)] ?_
    refine OJ.nil ?_
    exact SJ.ret rfl (Res.run (ys := [.int .i64 7]) (.tmp (by kernel_rfl) .nil) rfl)
noncomputable def addr_Class (a0 : api_IP) : M Int :=
  slot 27 >>= fun b1 =>
  addr_Valid a0 >>= fun r2 =>
  if ¬ (r2 = true) then
    pure 0
  else
    ld (c_addr_net.arr 12) ⟨0, 0, none⟩ >>= fun x3 =>
    loopM (fun s_ : Int => addr_Class.L1 a0 x3 s_) 0
theorem addr_Class_ok (a0 : api_IP) : Ref Tryd.prog 25 [c_api_IP.val a0] (addr_Class a0) addr_Class.out := by
  refine Ref.of (cd := addr_Class.B) Tryd.func25 ?_
  show SJ addr_Class.cx [.code addr_Class.B] [(0, c_api_IP.val a0)] [] (addr_Class a0) addr_Class.F0
  unfold addr_Class
  refine SJ.sr 2 ?_
  refine OJ.slotOf (d := 1) (op := (.box 27 (.tmp 0))) (cd := c_api_IP) (u := a0) (owed := []) (box_run (by kernel_rfl)) (fun b1 => ?_)
  refine OW.nil ?_
  refine OJ.go 1 [(2, .int .i64 0)] ?_
  refine OJ.nil ?_
  refine SJ.seq ?_
  refine SJ.sr 3 ?_
  refine OJ.kld (d := 5) (y := .tmp 1) (cd := c_api_IP) (j := 0) (b := b1) (o := 0) a0 (pend2 := []) Ty27 rfl (At.whole _) rfl ?_
  refine OJ.call (d := 6) (g := 19) (ats := #[27]) (args := [.tmp 5]) (owed := []) F19 (addr_Valid_ok a0) (fun r2 => ?_)
  refine OW.nil ?_
  refine OJ.go 1 [(7, .bool (!r2))] ?_
  refine OJ.nil ?_
  refine SJ.cond (t := (.tmp 7)) (b := (!r2)) (bnot_iff Iff.rfl) (fun hc19 => ?_) (fun hc19 => ?_)
  · refine SJ.sr 1 ?_
    refine OJ.go 1 [(2, .int .i64 0)] ?_
    refine OJ.nil ?_
    exact SJ.ret rfl (Res.run (ys := [.int .i64 0]) (.tmp (by kernel_rfl) .nil) rfl)
  · refine SJ.skip ?_
    refine SJ.seq ?_
    refine SJ.sr 2 ?_
    refine OJ.ld (d := 8) (y := .global 0) (pend2 := fun x3 => []) Ty96 (fun _ => rfl) (fun x3 => ?_)
    refine OJ.go 1 [(9, .int .i64 0)] ?_
    refine OJ.nil ?_
    refine SJ.block (id := 0) ?_
    exact SJ.loop (fun s_ : Int => [(1, .pointer (some (pt b1 0))), (8, (c_addr_net.arr 12).val x3), (9, .int .i64 s_)]) (fun s_ : Int => [(b1, c_api_IP.enc a0)]) [1, 8, 9] rfl (fun _ _ => rfl) (fun s_ => addr_Class.L1_ok a0 b1 x3 s_)

/-! ### weir/weirlaw4.started: function 11 -/
noncomputable def weirlaw4_started.B : Code := (Tryd.f11.body).getD .skip
noncomputable def weirlaw4_started.cx : Fx := ⟨Tryd.prog, 11, Tryd.f11⟩
noncomputable def weirlaw4_started.out (r_ : Bool) : Value := .bool r_
noncomputable def weirlaw4_started.F0 (r_ : Bool) : Reach := .ret (weirlaw4_started.out r_)
noncomputable def weirlaw4_started  : M Bool :=
  addr_ParseIP str12 >>= fun r1 =>
  slot 27 >>= fun b2 =>
  weirlaw4_loop >>= fun r3 =>
  addr_PrintIP r3 >>= fun r4 =>
  weirlaw4_loop >>= fun r5 =>
  addr_Class r5 >>= fun r6 =>
  draw >>= fun _ =>
  weirlaw4_loop >>= fun r7 =>
  (if r1.1 = r7 then
      weirlaw4_num r1.2.1 >>= fun r8 =>
      pure (r8 == 0)
    else
      pure false) >>= fun y9 =>
  (if y9 = true then
      pure (r1.2.2 == 0)
    else
      pure false) >>= fun y10 =>
  (if y10 = true then
      pure (r4.1.toList == str12.toList)
    else
      pure false) >>= fun y11 =>
  (if y11 = true then
      weirlaw4_num r4.2 >>= fun r12 =>
      pure (r12 == 0)
    else
      pure false) >>= fun y13 =>
  (if y13 = true then
      pure (r6 == 2)
    else
      pure false) >>= fun y14 =>
  pure y14
theorem weirlaw4_started_ok  : Ref Tryd.prog 11 [] (weirlaw4_started) weirlaw4_started.out := by
  refine Ref.of (cd := weirlaw4_started.B) Tryd.func11 ?_
  show SJ weirlaw4_started.cx [.code weirlaw4_started.B] [] [] (weirlaw4_started) weirlaw4_started.F0
  unfold weirlaw4_started
  refine SJ.sr 1 ?_
  refine OJ.go 1 [(0, .bool false)] ?_
  refine OJ.nil ?_
  refine SJ.sr 9 ?_
  refine OJ.call (d := 8) (g := 10) (ats := #[9]) (args := [.const (.string str12)]) (owed := []) F10 (addr_ParseIP_ok str12) (fun r1 => ?_)
  refine OW.nil ?_
  refine OJ.go 4 [(11, .int .i64 r1.2.2), (10, .int .i64 r1.2.1), (9, c_api_IP.val r1.1), (7, .tuple #[c_api_IP.val r1.1, .int .i64 r1.2.1, .int .i64 r1.2.2])] ?_
  refine OJ.slotOf (d := 1) (op := (.alloc 27)) (cd := c_api_IP) (u := z_api_IP) (owed := []) (alloc_run Ty27) (fun b2 => ?_)
  refine OW.nil ?_
  refine OJ.kst (y := .tmp 1) (z := .tmp 9) (cd := c_api_IP) (u := r1.1) (j := 0) (b := b2) (o := 0) (c_api_IP.enc r1.1) (owed := []) Ty27 rfl (Upd.whole ((Cod.len _ _).trans (Cod.len _ _).symm)) rfl ?_
  refine OW.nil ?_
  refine OJ.go 2 [(3, .int .i64 r1.2.2), (2, .int .i64 r1.2.1)] ?_
  refine OJ.nil ?_
  refine SJ.sr 7 ?_
  refine OJ.call (d := 13) (g := 24) (ats := #[]) (args := []) (owed := []) F24 (weirlaw4_loop_ok ) (fun r3 => ?_)
  refine OW.nil ?_
  refine OJ.call (d := 14) (g := 16) (ats := #[27]) (args := [.tmp 13]) (owed := []) F16 (addr_PrintIP_ok r3) (fun r4 => ?_)
  refine OW.nil ?_
  refine OJ.go 5 [(5, .int .i64 r4.2), (4, .string r4.1), (16, .int .i64 r4.2), (15, .string r4.1), (12, .tuple #[.string r4.1, .int .i64 r4.2])] ?_
  refine OJ.nil ?_
  refine SJ.sr 3 ?_
  refine OJ.call (d := 17) (g := 24) (ats := #[]) (args := []) (owed := []) F24 (weirlaw4_loop_ok ) (fun r5 => ?_)
  refine OW.nil ?_
  refine OJ.call (d := 18) (g := 25) (ats := #[27]) (args := [.tmp 17]) (owed := []) F25 (addr_Class_ok r5) (fun r6 => ?_)
  refine OW.nil ?_
  refine OJ.go 1 [(6, .int .i64 r6)] ?_
  refine OJ.nil ?_
  refine SJ.seq ?_
  refine SJ.draw (id := 4) (kd := [1, 2, 0, 0, 0, 2, 0, 0, 0, 0, 0, 0, 0, 0, 0, 0, 0, 0, 2, 0, 0, 0, 0, 0, 0, 0]) (bef := [0, 0, 3, 7, 15, 31, 63, 127, 255, 511, 1023, 2047, 4095, 8191, 16383, 32767, 65535, 131071, 262143, 524287, 1048575, 2097151, 4194303, 8388607, 16777215, 33554431]) (ord := [0, 1, 2, 3, 4, 5, 6, 7, 8, 9, 10, 11, 12, 13, 14, 15, 16, 17, 18, 19, 20, 21, 22, 23, 24, 25]) mixed ?_
  refine OJ.kld (d := 19) (y := .tmp 1) (cd := c_api_IP) (j := 0) (b := b2) (o := 0) r1.1 (pend2 := [⟨0, 27, (pt b2 0), c_api_IP.val r1.1⟩]) Ty27 rfl (At.whole _) rfl ?_
  refine OJ.call (d := 20) (g := 24) (ats := #[]) (args := []) (owed := [⟨0, 27, (pt b2 0), c_api_IP.val r1.1⟩]) F24 (weirlaw4_loop_ok ) (fun r7 => ?_)
  refine OW.known (j := 0) (q := r1.1) Ty27 rfl (At.whole _) ?_
  refine OW.nil ?_
  refine OJ.eql (d := 21) (T := 27) (yT := 27) (y := .tmp 19) (z := .tmp 20) (cd := c_api_IP) (p := r1.1) (q := r7) rfl Eq27 ?_
  refine OJ.go 1 [(22, .bool (eqv r1.1 r7))] ?_
  refine OJ.join (b := (eqv r1.1 r7)) [4, 5, 6, 7] [8, 9, 10, 11, 12, 13, 14, 15, 16, 17, 18, 19, 20, 21, 22, 23, 24, 25] [3, 4, 5, 6, 26] (fun y9 => [(3, .int .i64 r1.2.2), (4, .string r4.1), (5, .int .i64 r4.2), (6, .int .i64 r6), (26, .bool y9)]) [⟨0, 27, (pt b2 0), c_api_IP.val r1.1⟩] [] (t := 22) eqv_iff (fun hp_ => ?_) (fun hp_ => ?_) (fun _ _ _ _ _ _ h_ => h_) (fun y9 => ?_)
  · refine OJ.go 1 [(23, .int .i64 r1.2.1)] ?_
    refine OJ.call (d := 24) (g := 12) (ats := #[28]) (args := [.tmp 23]) (owed := []) F12 (weirlaw4_num_ok r1.2.1) (fun r8 => ?_)
    refine OW.nil ?_
    refine OJ.go 2 [(26, .bool (r8 == 0)), (25, .bool (r8 == 0))] ?_
    exact OJ.nil ⟨(Cov.mem (Cov.keep (List.mem_of_getElem? (i := 0) rfl) Cov.nil)), rfl, _, rfl, by kernel_rfl⟩
  · refine OJ.go 4 [(26, .bool false), (25, undef), (24, undef), (23, undef)] ?_
    exact OJ.nil ⟨(Cov.mem (Cov.keep (List.mem_of_getElem? (i := 0) rfl) Cov.nil)), rfl, _, rfl, by kernel_rfl⟩
  · refine OJ.go 1 [(27, .bool y9)] ?_
    refine OJ.join (b := y9) [9, 10, 11] [12, 13, 14, 15, 16, 17, 18, 19, 20, 21, 22, 23, 24, 25] [4, 5, 6, 30] (fun y10 => [(4, .string r4.1), (5, .int .i64 r4.2), (6, .int .i64 r6), (30, .bool y10)]) [⟨0, 27, (pt b2 0), c_api_IP.val r1.1⟩] [] (t := 27) Iff.rfl (fun hp_ => ?_) (fun hp_ => ?_) (fun _ _ _ _ _ _ h_ => h_) (fun y10 => ?_)
    · refine OJ.go 3 [(30, .bool (r1.2.2 == 0)), (29, .bool (r1.2.2 == 0)), (28, .int .i64 r1.2.2)] ?_
      exact OJ.nil ⟨(Cov.mem (Cov.keep (List.mem_of_getElem? (i := 0) rfl) Cov.nil)), rfl, _, rfl, by kernel_rfl⟩
    · refine OJ.go 3 [(30, .bool false), (29, undef), (28, undef)] ?_
      exact OJ.nil ⟨(Cov.mem (Cov.keep (List.mem_of_getElem? (i := 0) rfl) Cov.nil)), rfl, _, rfl, by kernel_rfl⟩
    · refine OJ.go 1 [(31, .bool y10)] ?_
      refine OJ.join (b := y10) [13, 14, 15] [16, 17, 18, 19, 20, 21, 22, 23, 24, 25] [5, 6, 34] (fun y11 => [(5, .int .i64 r4.2), (6, .int .i64 r6), (34, .bool y11)]) [⟨0, 27, (pt b2 0), c_api_IP.val r1.1⟩] [] (t := 31) Iff.rfl (fun hp_ => ?_) (fun hp_ => ?_) (fun _ _ _ _ _ _ h_ => h_) (fun y11 => ?_)
      · refine OJ.go 3 [(34, .bool (r4.1.toList == str12.toList)), (33, .bool (r4.1.toList == str12.toList)), (32, .string r4.1)] ?_
        exact OJ.nil ⟨(Cov.mem (Cov.keep (List.mem_of_getElem? (i := 0) rfl) Cov.nil)), rfl, _, rfl, by kernel_rfl⟩
      · refine OJ.go 3 [(34, .bool false), (33, undef), (32, undef)] ?_
        exact OJ.nil ⟨(Cov.mem (Cov.keep (List.mem_of_getElem? (i := 0) rfl) Cov.nil)), rfl, _, rfl, by kernel_rfl⟩
      · refine OJ.go 1 [(35, .bool y11)] ?_
        refine OJ.join (b := y11) [17, 18, 19, 20] [21, 22, 23, 24, 25] [6, 39] (fun y13 => [(6, .int .i64 r6), (39, .bool y13)]) [⟨0, 27, (pt b2 0), c_api_IP.val r1.1⟩] [] (t := 35) Iff.rfl (fun hp_ => ?_) (fun hp_ => ?_) (fun _ _ _ _ _ _ h_ => h_) (fun y13 => ?_)
        · refine OJ.go 1 [(36, .int .i64 r4.2)] ?_
          refine OJ.call (d := 37) (g := 12) (ats := #[28]) (args := [.tmp 36]) (owed := []) F12 (weirlaw4_num_ok r4.2) (fun r12 => ?_)
          refine OW.nil ?_
          refine OJ.go 2 [(39, .bool (r12 == 0)), (38, .bool (r12 == 0))] ?_
          exact OJ.nil ⟨(Cov.mem (Cov.keep (List.mem_of_getElem? (i := 0) rfl) Cov.nil)), rfl, _, rfl, by kernel_rfl⟩
        · refine OJ.go 4 [(39, .bool false), (38, undef), (37, undef), (36, undef)] ?_
          exact OJ.nil ⟨(Cov.mem (Cov.keep (List.mem_of_getElem? (i := 0) rfl) Cov.nil)), rfl, _, rfl, by kernel_rfl⟩
        · refine OJ.go 1 [(40, .bool y13)] ?_
          refine OJ.join (b := y13) [22, 23, 24] [25] [43] (fun y14 => [(43, .bool y14)]) [⟨0, 27, (pt b2 0), c_api_IP.val r1.1⟩] [] (t := 40) Iff.rfl (fun hp_ => ?_) (fun hp_ => ?_) (fun _ _ _ _ _ _ h_ => h_) (fun y14 => ?_)
          · refine OJ.go 3 [(43, .bool (r6 == 2)), (42, .bool (r6 == 2)), (41, .int .i64 r6)] ?_
            exact OJ.nil ⟨(Cov.mem (Cov.keep (List.mem_of_getElem? (i := 0) rfl) Cov.nil)), rfl, _, rfl, by kernel_rfl⟩
          · refine OJ.go 3 [(43, .bool false), (42, undef), (41, undef)] ?_
            exact OJ.nil ⟨(Cov.mem (Cov.keep (List.mem_of_getElem? (i := 0) rfl) Cov.nil)), rfl, _, rfl, by kernel_rfl⟩
          · refine OJ.go 1 [(0, .bool y14)] ?_
            refine OJ.nil ?_
            exact SJ.ret rfl (Res.run (ys := [.bool y14]) (.tmp (by kernel_rfl) .nil) rfl)

/-! ### weir/weirlaw4.AddrBack: function 6 -/
noncomputable def weirlaw4_AddrBack.B : Code := (Tryd.f6.body).getD .skip
noncomputable def weirlaw4_AddrBack.cx : Fx := ⟨Tryd.prog, 6, Tryd.f6⟩
noncomputable def weirlaw4_AddrBack.out (r_ : Bool) : Value := .bool r_
noncomputable def weirlaw4_AddrBack.F0 (r_ : Bool) : Reach := .ret (weirlaw4_AddrBack.out r_)
noncomputable def weirlaw4_AddrBack.K1 (a2 : (Vec Int 6)) : M Bool :=
  addr_PrintMac a2 >>= fun r31 =>
  addr_ParseMac r31 >>= fun r32 =>
  slot 42 >>= fun b33 =>
  weirlaw4_started >>= fun r34 =>
  (if r34 = true then
      pure (eqv r32.1 a2)
    else
      pure false) >>= fun y35 =>
  (if y35 = true then
      weirlaw4_num r32.2.1 >>= fun r36 =>
      pure (r36 == 0)
    else
      pure false) >>= fun y37 =>
  (if y37 = true then
      pure (r32.2.2 == 0)
    else
      pure false) >>= fun y38 =>
  pure y38
theorem weirlaw4_AddrBack.K1_ok (a2 : (Vec Int 6)) (b3 : Nat) :
    SJ weirlaw4_AddrBack.cx [.code (c2 (c2 (c2 (c2 (c2 (c2 (c2 weirlaw4_AddrBack.B)))))))] [(5, .pointer (some (pt b3 0)))] [(b3, ((cI .u8).arr 6).enc a2)] (weirlaw4_AddrBack.K1 a2) weirlaw4_AddrBack.F0 := by
  unfold weirlaw4_AddrBack.K1
  refine SJ.sr 11 ?_
  refine OJ.kld (d := 103) (y := .tmp 5) (cd := ((cI .u8).arr 6)) (j := 0) (b := b3) (o := 0) a2 (pend2 := []) Ty42 rfl (At.whole _) rfl ?_
  refine OJ.call (d := 104) (g := 18) (ats := #[42]) (args := [.tmp 103]) (owed := []) F18 (addr_PrintMac_ok a2) (fun r31 => ?_)
  refine OW.nil ?_
  refine OJ.call (d := 105) (g := 21) (ats := #[9]) (args := [.tmp 104]) (owed := []) F21 (addr_ParseMac_ok r31) (fun r32 => ?_)
  refine OW.nil ?_
  refine OJ.go 4 [(108, .int .i64 r32.2.2), (107, .int .i64 r32.2.1), (106, ((cI .u8).arr 6).val r32.1), (102, .tuple #[((cI .u8).arr 6).val r32.1, .int .i64 r32.2.1, .int .i64 r32.2.2])] ?_
  refine OJ.slotOf (d := 17) (op := (.alloc 42)) (cd := ((cI .u8).arr 6)) (u := (Vec.rep 6 0)) (owed := []) (alloc_run Ty42) (fun b33 => ?_)
  refine OW.nil ?_
  refine OJ.kst (y := .tmp 17) (z := .tmp 106) (cd := ((cI .u8).arr 6)) (u := r32.1) (j := 0) (b := b33) (o := 0) (((cI .u8).arr 6).enc r32.1) (owed := []) Ty42 rfl (Upd.whole ((Cod.len _ _).trans (Cod.len _ _).symm)) rfl ?_
  refine OW.nil ?_
  refine OJ.go 2 [(19, .int .i64 r32.2.2), (18, .int .i64 r32.2.1)] ?_
  refine OJ.nil ?_
  refine SJ.sr 16 ?_
  refine OJ.call (d := 109) (g := 11) (ats := #[]) (args := []) (owed := []) F11 (weirlaw4_started_ok ) (fun r34 => ?_)
  refine OW.nil ?_
  refine OJ.go 1 [(110, .bool r34)] ?_
  refine OJ.join (b := r34) [2, 3, 4, 5] [6, 7, 8, 9, 10, 11, 12, 13, 14, 15] [18, 19, 114] (fun y35 => [(18, .int .i64 r32.2.1), (19, .int .i64 r32.2.2), (114, .bool y35)]) [] [] (t := 110) Iff.rfl (fun hp_ => ?_) (fun hp_ => ?_) (fun _ _ _ _ _ _ h_ => h_) (fun y35 => ?_)
  · refine OJ.kld (d := 111) (y := .tmp 17) (cd := ((cI .u8).arr 6)) (j := 0) (b := b33) (o := 0) r32.1 (pend2 := []) Ty42 rfl (At.whole _) rfl ?_
    refine OJ.kld (d := 112) (y := .tmp 5) (cd := ((cI .u8).arr 6)) (j := 1) (b := b3) (o := 0) a2 (pend2 := []) Ty42 rfl (At.whole _) rfl ?_
    refine OJ.eql (d := 113) (T := 42) (yT := 42) (y := .tmp 111) (z := .tmp 112) (cd := ((cI .u8).arr 6)) (p := r32.1) (q := a2) rfl Eq42 ?_
    refine OJ.go 1 [(114, .bool (eqv r32.1 a2))] ?_
    exact OJ.nil ⟨(Cov.mem Cov.nil), rfl, _, rfl, by kernel_rfl⟩
  · refine OJ.go 4 [(114, .bool false), (113, undef), (112, undef), (111, undef)] ?_
    exact OJ.nil ⟨(Cov.mem Cov.nil), rfl, _, rfl, by kernel_rfl⟩
  · refine OJ.go 1 [(115, .bool y35)] ?_
    refine OJ.join (b := y35) [7, 8, 9, 10] [11, 12, 13, 14, 15] [19, 119] (fun y37 => [(19, .int .i64 r32.2.2), (119, .bool y37)]) [] [] (t := 115) Iff.rfl (fun hp_ => ?_) (fun hp_ => ?_) (fun _ _ _ _ _ _ h_ => h_) (fun y37 => ?_)
    · refine OJ.go 1 [(116, .int .i64 r32.2.1)] ?_
      refine OJ.call (d := 117) (g := 12) (ats := #[28]) (args := [.tmp 116]) (owed := []) F12 (weirlaw4_num_ok r32.2.1) (fun r36 => ?_)
      refine OW.nil ?_
      refine OJ.go 2 [(119, .bool (r36 == 0)), (118, .bool (r36 == 0))] ?_
      exact OJ.nil ⟨(Cov.mem Cov.nil), rfl, _, rfl, by kernel_rfl⟩
    · refine OJ.go 4 [(119, .bool false), (118, undef), (117, undef), (116, undef)] ?_
      exact OJ.nil ⟨(Cov.mem Cov.nil), rfl, _, rfl, by kernel_rfl⟩
    · refine OJ.go 1 [(120, .bool y37)] ?_
      refine OJ.join (b := y37) [12, 13, 14] [15] [123] (fun y38 => [(123, .bool y38)]) [] [] (t := 120) Iff.rfl (fun hp_ => ?_) (fun hp_ => ?_) (fun _ _ _ _ _ _ h_ => h_) (fun y38 => ?_)
      · refine OJ.go 3 [(123, .bool (r32.2.2 == 0)), (122, .bool (r32.2.2 == 0)), (121, .int .i64 r32.2.2)] ?_
        exact OJ.nil ⟨(Cov.mem Cov.nil), rfl, _, rfl, by kernel_rfl⟩
      · refine OJ.go 3 [(123, .bool false), (122, undef), (121, undef)] ?_
        exact OJ.nil ⟨(Cov.mem Cov.nil), rfl, _, rfl, by kernel_rfl⟩
      · refine OJ.go 1 [(6, .bool y38)] ?_
        refine OJ.nil ?_
        exact SJ.ret rfl (Res.run (ys := [.bool y38]) (.tmp (by kernel_rfl) .nil) rfl)
noncomputable def weirlaw4_AddrBack.K2 (a1 : api_Prefix) (a2 : (Vec Int 6)) : M Bool :=
  addr_PrintPrefix a1 >>= fun r17 =>
  draw >>= fun _ =>
  weirlaw4_num r17.2 >>= fun r18 =>
  addr_ValidPrefix a1 >>= fun r19 =>
  weirlaw4_num r19 >>= fun r20 =>
  (if r18 ≠ r20 then
      pure true
    else
      weirlaw4_num r17.2 >>= fun r21 =>
      (if r21 ≠ 0 then
          pure (!(r17.1.toList == ByteArray.empty.toList))
        else
          pure false) >>= fun y22 =>
      pure y22) >>= fun y23 =>
  if y23 = true then
    pure false
  else
    weirlaw4_num r17.2 >>= fun r24 =>
    if r24 = 0 then
      addr_ParsePrefix r17.1 >>= fun r39 =>
      slot 37 >>= fun b40 =>
      (if ¬ (r39.1 = a1) then
          pure true
        else
          weirlaw4_num r39.2.1 >>= fun r41 =>
          pure (r41 != 0)) >>= fun y42 =>
      (if y42 = true then
          pure true
        else
          pure (r39.2.2 != 0)) >>= fun y43 =>
      if y43 = true then
        pure false
      else
        weirlaw4_AddrBack.K1 a2
    else
      weirlaw4_AddrBack.K1 a2
theorem weirlaw4_AddrBack.K2_ok (a1 : api_Prefix) (a2 : (Vec Int 6)) (b2 : Nat) (b3 : Nat) :
    SJ weirlaw4_AddrBack.cx [.code (c2 (c2 (c2 (c2 weirlaw4_AddrBack.B))))] [(4, .pointer (some (pt b2 0))), (5, .pointer (some (pt b3 0)))] [(b3, ((cI .u8).arr 6).enc a2), (b2, c_api_Prefix.enc a1)] (weirlaw4_AddrBack.K2 a1 a2) weirlaw4_AddrBack.F0 := by
  unfold weirlaw4_AddrBack.K2
  refine SJ.sr 7 ?_
  refine OJ.kld (d := 62) (y := .tmp 4) (cd := c_api_Prefix) (j := 1) (b := b2) (o := 0) a1 (pend2 := []) Ty37 rfl (At.whole _) rfl ?_
  refine OJ.call (d := 63) (g := 17) (ats := #[37]) (args := [.tmp 62]) (owed := []) F17 (addr_PrintPrefix_ok a1) (fun r17 => ?_)
  refine OW.nil ?_
  refine OJ.go 5 [(13, .int .i64 r17.2), (12, .string r17.1), (65, .int .i64 r17.2), (64, .string r17.1), (61, .tuple #[.string r17.1, .int .i64 r17.2])] ?_
  refine OJ.nil ?_
  refine SJ.seq ?_
  refine SJ.seq ?_
  refine SJ.draw (id := 9) (kd := [0, 2, 1, 2, 2, 0, 0, 0, 2, 0, 0, 0, 0, 0, 0]) (bef := [0, 1, 0, 7, 15, 31, 63, 127, 255, 511, 1023, 2047, 4095, 8191, 16383]) (ord := [0, 2, 1, 3, 4, 5, 6, 7, 8, 9, 10, 11, 12, 13, 14]) mixed ?_
  refine OJ.go 1 [(66, .int .i64 r17.2)] ?_
  refine OJ.kld (d := 68) (y := .tmp 4) (cd := c_api_Prefix) (j := 1) (b := b2) (o := 0) a1 (pend2 := [⟨2, 37, (pt b2 0), c_api_Prefix.val a1⟩]) Ty37 rfl (At.whole _) rfl ?_
  refine OJ.call (d := 67) (g := 12) (ats := #[28]) (args := [.tmp 66]) (owed := [⟨2, 37, (pt b2 0), c_api_Prefix.val a1⟩]) F12 (weirlaw4_num_ok r17.2) (fun r18 => ?_)
  refine OW.known (j := 1) (q := a1) Ty37 rfl (At.whole _) ?_
  refine OW.nil ?_
  refine OJ.call (d := 69) (g := 14) (ats := #[37]) (args := [.tmp 68]) (owed := []) F14 (addr_ValidPrefix_ok a1) (fun r19 => ?_)
  refine OW.nil ?_
  refine OJ.call (d := 70) (g := 12) (ats := #[28]) (args := [.tmp 69]) (owed := []) F12 (weirlaw4_num_ok r19) (fun r20 => ?_)
  refine OW.nil ?_
  refine OJ.go 2 [(72, .bool (r18 != r20)), (71, .bool (r18 != r20))] ?_
  refine OJ.join (b := (r18 != r20)) [7, 8, 9, 10, 11, 12, 13, 14] [] [4, 5, 12, 13, 80] (fun y23 => [(4, .pointer (some (pt b2 0))), (5, .pointer (some (pt b3 0))), (12, .string r17.1), (13, .int .i64 r17.2), (80, .bool y23)]) [⟨2, 37, (pt b2 0), c_api_Prefix.val a1⟩] [] (t := 72) bne_iff_ne (fun hp_ => ?_) (fun hp_ => ?_) (fun _ _ _ _ _ _ h_ => h_) (fun y23 => ?_)
  · refine OJ.go 8 [(80, .bool true), (79, undef), (78, undef), (77, undef), (76, undef), (75, undef), (74, undef), (73, undef)] ?_
    exact OJ.nil ⟨(Cov.mem (Cov.keep (List.mem_of_getElem? (i := 0) rfl) Cov.nil)), rfl, _, rfl, by kernel_rfl⟩
  · refine OJ.go 1 [(73, .int .i64 r17.2)] ?_
    refine OJ.call (d := 74) (g := 12) (ats := #[28]) (args := [.tmp 73]) (owed := []) F12 (weirlaw4_num_ok r17.2) (fun r21 => ?_)
    refine OW.nil ?_
    refine OJ.go 2 [(76, .bool (r21 != 0)), (75, .bool (r21 != 0))] ?_
    refine OJ.join (b := (r21 != 0)) [11, 12, 13] [14] [4, 5, 12, 13, 72, 79] (fun y22 => [(4, .pointer (some (pt b2 0))), (5, .pointer (some (pt b3 0))), (12, .string r17.1), (13, .int .i64 r17.2), (72, .bool false), (79, .bool y22)]) [⟨2, 37, (pt b2 0), c_api_Prefix.val a1⟩] [] (t := 76) bne_iff_ne (fun hp_ => ?_) (fun hp_ => ?_) (fun _ _ _ _ _ hq_ h_ => ⟨fun e_ he_ => (hq_ e_ he_).elim (fun h => h_.1 e_ h) (fun h => nomatch h), h_.2⟩) (fun y22 => ?_)
    · refine OJ.go 3 [(79, .bool (!(r17.1.toList == ByteArray.empty.toList))), (78, .bool (!(r17.1.toList == ByteArray.empty.toList))), (77, .string r17.1)] ?_
      exact OJ.nil ⟨(Cov.mem (Cov.keep (List.mem_of_getElem? (i := 0) rfl) Cov.nil)), rfl, _, rfl, by kernel_rfl⟩
    · refine OJ.go 3 [(79, .bool false), (78, undef), (77, undef)] ?_
      exact OJ.nil ⟨(Cov.mem (Cov.keep (List.mem_of_getElem? (i := 0) rfl) Cov.nil)), rfl, _, rfl, by kernel_rfl⟩
    · refine OJ.go 1 [(80, .bool y22)] ?_
      exact OJ.nil ⟨(Cov.mem (Cov.keep (List.mem_of_getElem? (i := 0) rfl) Cov.nil)), rfl, _, rfl, by kernel_rfl⟩
  · refine OJ.nil ?_
    refine SJ.cond (t := (.tmp 80)) (b := y23) Iff.rfl (fun hc46 => ?_) (fun hc46 => ?_)
    · refine SJ.sr 1 ?_
      refine OJ.go 1 [(6, .bool false)] ?_
      refine OJ.nil ?_
      exact SJ.ret rfl (Res.run (ys := [.bool false]) (.tmp (by kernel_rfl) .nil) rfl)
    · refine SJ.skip ?_
      refine SJ.seq ?_
      refine SJ.sr 3 ?_
      refine OJ.go 1 [(81, .int .i64 r17.2)] ?_
      refine OJ.call (d := 82) (g := 12) (ats := #[28]) (args := [.tmp 81]) (owed := []) F12 (weirlaw4_num_ok r17.2) (fun r24 => ?_)
      refine OW.nil ?_
      refine OJ.go 1 [(83, .bool (r24 == 0))] ?_
      refine OJ.nil ?_
      refine SJ.cond (t := (.tmp 83)) (b := (r24 == 0)) beq_iff_eq (fun hc45 => ?_) (fun hc45 => ?_)
      · refine SJ.sr 10 ?_
        refine OJ.go 1 [(85, .string r17.1)] ?_
        refine OJ.call (d := 86) (g := 20) (ats := #[9]) (args := [.tmp 85]) (owed := []) F20 (addr_ParsePrefix_ok r17.1) (fun r39 => ?_)
        refine OW.nil ?_
        refine OJ.go 4 [(89, .int .i64 r39.2.2), (88, .int .i64 r39.2.1), (87, c_api_Prefix.val r39.1), (84, .tuple #[c_api_Prefix.val r39.1, .int .i64 r39.2.1, .int .i64 r39.2.2])] ?_
        refine OJ.slotOf (d := 14) (op := (.alloc 37)) (cd := c_api_Prefix) (u := z_api_Prefix) (owed := []) (alloc_run Ty37) (fun b40 => ?_)
        refine OW.nil ?_
        refine OJ.kst (y := .tmp 14) (z := .tmp 87) (cd := c_api_Prefix) (u := r39.1) (j := 0) (b := b40) (o := 0) (c_api_Prefix.enc r39.1) (owed := []) Ty37 rfl (Upd.whole ((Cod.len _ _).trans (Cod.len _ _).symm)) rfl ?_
        refine OW.nil ?_
        refine OJ.go 2 [(16, .int .i64 r39.2.2), (15, .int .i64 r39.2.1)] ?_
        refine OJ.nil ?_
        refine SJ.sr 12 ?_
        refine OJ.kld (d := 90) (y := .tmp 14) (cd := c_api_Prefix) (j := 0) (b := b40) (o := 0) r39.1 (pend2 := []) Ty37 rfl (At.whole _) rfl ?_
        refine OJ.kld (d := 91) (y := .tmp 4) (cd := c_api_Prefix) (j := 2) (b := b2) (o := 0) a1 (pend2 := []) Ty37 rfl (At.whole _) rfl ?_
        refine OJ.neq (d := 92) (T := 37) (yT := 37) (y := .tmp 90) (z := .tmp 91) (cd := c_api_Prefix) (p := r39.1) (q := a1) rfl Eq37 ?_
        refine OJ.go 1 [(93, .bool (!eqv r39.1 a1))] ?_
        refine OJ.join (b := (!eqv r39.1 a1)) [4, 5, 6, 7] [8, 9, 10, 11] [5, 16, 97] (fun y42 => [(5, .pointer (some (pt b3 0))), (16, .int .i64 r39.2.2), (97, .bool y42)]) [] [] (t := 93) (bnot_iff eqv_iff) (fun hp_ => ?_) (fun hp_ => ?_) (fun _ _ _ _ _ _ h_ => h_) (fun y42 => ?_)
        · refine OJ.go 4 [(97, .bool true), (96, undef), (95, undef), (94, undef)] ?_
          exact OJ.nil ⟨(Cov.mem Cov.nil), rfl, _, rfl, by kernel_rfl⟩
        · refine OJ.go 1 [(94, .int .i64 r39.2.1)] ?_
          refine OJ.call (d := 95) (g := 12) (ats := #[28]) (args := [.tmp 94]) (owed := []) F12 (weirlaw4_num_ok r39.2.1) (fun r41 => ?_)
          refine OW.nil ?_
          refine OJ.go 2 [(97, .bool (r41 != 0)), (96, .bool (r41 != 0))] ?_
          exact OJ.nil ⟨(Cov.mem Cov.nil), rfl, _, rfl, by kernel_rfl⟩
        · refine OJ.go 1 [(98, .bool y42)] ?_
          refine OJ.join (b := y42) [9, 10, 11] [] [5, 101] (fun y43 => [(5, .pointer (some (pt b3 0))), (101, .bool y43)]) [] [] (t := 98) Iff.rfl (fun hp_ => ?_) (fun hp_ => ?_) (fun _ _ _ _ _ _ h_ => h_) (fun y43 => ?_)
          · refine OJ.go 3 [(101, .bool true), (100, undef), (99, undef)] ?_
            exact OJ.nil ⟨(Cov.mem Cov.nil), rfl, _, rfl, by kernel_rfl⟩
          · refine OJ.go 3 [(101, .bool (r39.2.2 != 0)), (100, .bool (r39.2.2 != 0)), (99, .int .i64 r39.2.2)] ?_
            exact OJ.nil ⟨(Cov.mem Cov.nil), rfl, _, rfl, by kernel_rfl⟩
          · refine OJ.nil ?_
            refine SJ.cond (t := (.tmp 101)) (b := y43) Iff.rfl (fun hc44 => ?_) (fun hc44 => ?_)
            · refine SJ.sr 1 ?_
              refine OJ.go 1 [(6, .bool false)] ?_
              refine OJ.nil ?_
              exact SJ.ret rfl (Res.run (ys := [.bool false]) (.tmp (by kernel_rfl) .nil) rfl)
            · refine SJ.skip ?_
              refine SJ.forget (List.Sublist.cons _ (List.Sublist.cons_cons _ (List.Sublist.cons _ List.Sublist.slnil))) ?_
              refine SJ.less [5] (m' := [(5, .pointer (some (pt b3 0)))]) ?_
              exact weirlaw4_AddrBack.K1_ok a2 b3
      · refine SJ.skip ?_
        refine SJ.forget (List.Sublist.cons_cons _ (List.Sublist.cons _ List.Sublist.slnil)) ?_
        refine SJ.less [5] (m' := [(5, .pointer (some (pt b3 0)))]) ?_
        exact weirlaw4_AddrBack.K1_ok a2 b3
noncomputable def weirlaw4_AddrBack (a0 : api_IP) (a1 : api_Prefix) (a2 : (Vec Int 6)) : M Bool :=
  slot 27 >>= fun b1 =>
  slot 37 >>= fun b2 =>
  slot 42 >>= fun b3 =>
  addr_PrintIP a0 >>= fun r4 =>
  draw >>= fun _ =>
  weirlaw4_num r4.2 >>= fun r5 =>
  addr_Valid a0 >>= fun r6 =>
  (if ¬ ((r5 == 0) = r6) then
      pure true
    else
      weirlaw4_num r4.2 >>= fun r7 =>
      (if r7 ≠ 0 then
          pure (!(r4.1.toList == ByteArray.empty.toList))
        else
          pure false) >>= fun y8 =>
      pure y8) >>= fun y9 =>
  if y9 = true then
    pure false
  else
    weirlaw4_num r4.2 >>= fun r10 =>
    if r10 = 0 then
      addr_ParseIP r4.1 >>= fun r47 =>
      slot 27 >>= fun b48 =>
      (if ¬ (r47.1 = a0) then
          pure true
        else
          weirlaw4_num r47.2.1 >>= fun r49 =>
          pure (r49 != 0)) >>= fun y50 =>
      (if y50 = true then
          pure true
        else
          pure (r47.2.2 != 0)) >>= fun y51 =>
      if y51 = true then
        pure false
      else
        weirlaw4_AddrBack.K2 a1 a2
    else
      weirlaw4_AddrBack.K2 a1 a2
theorem weirlaw4_AddrBack_ok (a0 : api_IP) (a1 : api_Prefix) (a2 : (Vec Int 6)) : Ref Tryd.prog 6 [c_api_IP.val a0, c_api_Prefix.val a1, ((cI .u8).arr 6).val a2] (weirlaw4_AddrBack a0 a1 a2) weirlaw4_AddrBack.out := by
  refine Ref.of (cd := weirlaw4_AddrBack.B) Tryd.func6 ?_
  show SJ weirlaw4_AddrBack.cx [.code weirlaw4_AddrBack.B] [(0, c_api_IP.val a0), (1, c_api_Prefix.val a1), (2, ((cI .u8).arr 6).val a2)] [] (weirlaw4_AddrBack a0 a1 a2) weirlaw4_AddrBack.F0
  unfold weirlaw4_AddrBack
  refine SJ.sr 4 ?_
  refine OJ.slotOf (d := 3) (op := (.box 27 (.tmp 0))) (cd := c_api_IP) (u := a0) (owed := []) (box_run (by kernel_rfl)) (fun b1 => ?_)
  refine OW.nil ?_
  refine OJ.slotOf (d := 4) (op := (.box 37 (.tmp 1))) (cd := c_api_Prefix) (u := a1) (owed := []) (box_run (by kernel_rfl)) (fun b2 => ?_)
  refine OW.nil ?_
  refine OJ.slotOf (d := 5) (op := (.box 42 (.tmp 2))) (cd := ((cI .u8).arr 6)) (u := a2) (owed := []) (box_run (by kernel_rfl)) (fun b3 => ?_)
  refine OW.nil ?_
  refine OJ.go 1 [(6, .bool false)] ?_
  refine OJ.nil ?_
  refine SJ.sr 7 ?_
  refine OJ.kld (d := 21) (y := .tmp 3) (cd := c_api_IP) (j := 2) (b := b1) (o := 0) a0 (pend2 := []) Ty27 rfl (At.whole _) rfl ?_
  refine OJ.call (d := 22) (g := 16) (ats := #[27]) (args := [.tmp 21]) (owed := []) F16 (addr_PrintIP_ok a0) (fun r4 => ?_)
  refine OW.nil ?_
  refine OJ.go 5 [(8, .int .i64 r4.2), (7, .string r4.1), (24, .int .i64 r4.2), (23, .string r4.1), (20, .tuple #[.string r4.1, .int .i64 r4.2])] ?_
  refine OJ.nil ?_
  refine SJ.seq ?_
  refine SJ.seq ?_
  refine SJ.draw (id := 2) (kd := [0, 2, 0, 1, 2, 0, 0, 0, 2, 0, 0, 0, 0, 0, 0]) (bef := [0, 1, 3, 0, 11, 31, 63, 127, 255, 511, 1023, 2047, 4095, 8191, 16383]) (ord := [0, 3, 1, 2, 4, 5, 6, 7, 8, 9, 10, 11, 12, 13, 14]) mixed ?_
  refine OJ.go 1 [(25, .int .i64 r4.2)] ?_
  refine OJ.kld (d := 28) (y := .tmp 3) (cd := c_api_IP) (j := 2) (b := b1) (o := 0) a0 (pend2 := [⟨3, 27, (pt b1 0), c_api_IP.val a0⟩]) Ty27 rfl (At.whole _) rfl ?_
  refine OJ.call (d := 26) (g := 12) (ats := #[28]) (args := [.tmp 25]) (owed := [⟨3, 27, (pt b1 0), c_api_IP.val a0⟩]) F12 (weirlaw4_num_ok r4.2) (fun r5 => ?_)
  refine OW.known (j := 2) (q := a0) Ty27 rfl (At.whole _) ?_
  refine OW.nil ?_
  refine OJ.go 1 [(27, .bool (r5 == 0))] ?_
  refine OJ.call (d := 29) (g := 19) (ats := #[27]) (args := [.tmp 28]) (owed := []) F19 (addr_Valid_ok a0) (fun r6 => ?_)
  refine OW.nil ?_
  refine OJ.go 2 [(31, .bool (!((r5 == 0) == r6))), (30, .bool (!((r5 == 0) == r6)))] ?_
  refine OJ.join (b := (!((r5 == 0) == r6))) [7, 8, 9, 10, 11, 12, 13, 14] [] [3, 4, 5, 7, 8, 39] (fun y9 => [(3, .pointer (some (pt b1 0))), (4, .pointer (some (pt b2 0))), (5, .pointer (some (pt b3 0))), (7, .string r4.1), (8, .int .i64 r4.2), (39, .bool y9)]) [⟨3, 27, (pt b1 0), c_api_IP.val a0⟩] [] (t := 31) (bnot_iff beq_iff_eq) (fun hp_ => ?_) (fun hp_ => ?_) (fun _ _ _ _ _ _ h_ => h_) (fun y9 => ?_)
  · refine OJ.go 8 [(39, .bool true), (38, undef), (37, undef), (36, undef), (35, undef), (34, undef), (33, undef), (32, undef)] ?_
    exact OJ.nil ⟨(Cov.mem (Cov.keep (List.mem_of_getElem? (i := 0) rfl) Cov.nil)), rfl, _, rfl, by kernel_rfl⟩
  · refine OJ.go 1 [(32, .int .i64 r4.2)] ?_
    refine OJ.call (d := 33) (g := 12) (ats := #[28]) (args := [.tmp 32]) (owed := []) F12 (weirlaw4_num_ok r4.2) (fun r7 => ?_)
    refine OW.nil ?_
    refine OJ.go 2 [(35, .bool (r7 != 0)), (34, .bool (r7 != 0))] ?_
    refine OJ.join (b := (r7 != 0)) [11, 12, 13] [14] [3, 4, 5, 7, 8, 31, 38] (fun y8 => [(3, .pointer (some (pt b1 0))), (4, .pointer (some (pt b2 0))), (5, .pointer (some (pt b3 0))), (7, .string r4.1), (8, .int .i64 r4.2), (31, .bool false), (38, .bool y8)]) [⟨3, 27, (pt b1 0), c_api_IP.val a0⟩] [] (t := 35) bne_iff_ne (fun hp_ => ?_) (fun hp_ => ?_) (fun _ _ _ _ _ hq_ h_ => ⟨fun e_ he_ => (hq_ e_ he_).elim (fun h => h_.1 e_ h) (fun h => nomatch h), h_.2⟩) (fun y8 => ?_)
    · refine OJ.go 3 [(38, .bool (!(r4.1.toList == ByteArray.empty.toList))), (37, .bool (!(r4.1.toList == ByteArray.empty.toList))), (36, .string r4.1)] ?_
      exact OJ.nil ⟨(Cov.mem (Cov.keep (List.mem_of_getElem? (i := 0) rfl) Cov.nil)), rfl, _, rfl, by kernel_rfl⟩
    · refine OJ.go 3 [(38, .bool false), (37, undef), (36, undef)] ?_
      exact OJ.nil ⟨(Cov.mem (Cov.keep (List.mem_of_getElem? (i := 0) rfl) Cov.nil)), rfl, _, rfl, by kernel_rfl⟩
    · refine OJ.go 1 [(39, .bool y8)] ?_
      exact OJ.nil ⟨(Cov.mem (Cov.keep (List.mem_of_getElem? (i := 0) rfl) Cov.nil)), rfl, _, rfl, by kernel_rfl⟩
  · refine OJ.nil ?_
    refine SJ.cond (t := (.tmp 39)) (b := y9) Iff.rfl (fun hc54 => ?_) (fun hc54 => ?_)
    · refine SJ.sr 1 ?_
      refine OJ.go 1 [(6, .bool false)] ?_
      refine OJ.nil ?_
      exact SJ.ret rfl (Res.run (ys := [.bool false]) (.tmp (by kernel_rfl) .nil) rfl)
    · refine SJ.skip ?_
      refine SJ.seq ?_
      refine SJ.sr 3 ?_
      refine OJ.go 1 [(40, .int .i64 r4.2)] ?_
      refine OJ.call (d := 41) (g := 12) (ats := #[28]) (args := [.tmp 40]) (owed := []) F12 (weirlaw4_num_ok r4.2) (fun r10 => ?_)
      refine OW.nil ?_
      refine OJ.go 1 [(42, .bool (r10 == 0))] ?_
      refine OJ.nil ?_
      refine SJ.cond (t := (.tmp 42)) (b := (r10 == 0)) beq_iff_eq (fun hc53 => ?_) (fun hc53 => ?_)
      · refine SJ.sr 10 ?_
        refine OJ.go 1 [(44, .string r4.1)] ?_
        refine OJ.call (d := 45) (g := 10) (ats := #[9]) (args := [.tmp 44]) (owed := []) F10 (addr_ParseIP_ok r4.1) (fun r47 => ?_)
        refine OW.nil ?_
        refine OJ.go 4 [(48, .int .i64 r47.2.2), (47, .int .i64 r47.2.1), (46, c_api_IP.val r47.1), (43, .tuple #[c_api_IP.val r47.1, .int .i64 r47.2.1, .int .i64 r47.2.2])] ?_
        refine OJ.slotOf (d := 9) (op := (.alloc 27)) (cd := c_api_IP) (u := z_api_IP) (owed := []) (alloc_run Ty27) (fun b48 => ?_)
        refine OW.nil ?_
        refine OJ.kst (y := .tmp 9) (z := .tmp 46) (cd := c_api_IP) (u := r47.1) (j := 0) (b := b48) (o := 0) (c_api_IP.enc r47.1) (owed := []) Ty27 rfl (Upd.whole ((Cod.len _ _).trans (Cod.len _ _).symm)) rfl ?_
        refine OW.nil ?_
        refine OJ.go 2 [(11, .int .i64 r47.2.2), (10, .int .i64 r47.2.1)] ?_
        refine OJ.nil ?_
        refine SJ.sr 12 ?_
        refine OJ.kld (d := 49) (y := .tmp 9) (cd := c_api_IP) (j := 0) (b := b48) (o := 0) r47.1 (pend2 := []) Ty27 rfl (At.whole _) rfl ?_
        refine OJ.kld (d := 50) (y := .tmp 3) (cd := c_api_IP) (j := 3) (b := b1) (o := 0) a0 (pend2 := []) Ty27 rfl (At.whole _) rfl ?_
        refine OJ.neq (d := 51) (T := 27) (yT := 27) (y := .tmp 49) (z := .tmp 50) (cd := c_api_IP) (p := r47.1) (q := a0) rfl Eq27 ?_
        refine OJ.go 1 [(52, .bool (!eqv r47.1 a0))] ?_
        refine OJ.join (b := (!eqv r47.1 a0)) [4, 5, 6, 7] [8, 9, 10, 11] [4, 5, 11, 56] (fun y50 => [(4, .pointer (some (pt b2 0))), (5, .pointer (some (pt b3 0))), (11, .int .i64 r47.2.2), (56, .bool y50)]) [] [] (t := 52) (bnot_iff eqv_iff) (fun hp_ => ?_) (fun hp_ => ?_) (fun _ _ _ _ _ _ h_ => h_) (fun y50 => ?_)
        · refine OJ.go 4 [(56, .bool true), (55, undef), (54, undef), (53, undef)] ?_
          exact OJ.nil ⟨(Cov.mem Cov.nil), rfl, _, rfl, by kernel_rfl⟩
        · refine OJ.go 1 [(53, .int .i64 r47.2.1)] ?_
          refine OJ.call (d := 54) (g := 12) (ats := #[28]) (args := [.tmp 53]) (owed := []) F12 (weirlaw4_num_ok r47.2.1) (fun r49 => ?_)
          refine OW.nil ?_
          refine OJ.go 2 [(56, .bool (r49 != 0)), (55, .bool (r49 != 0))] ?_
          exact OJ.nil ⟨(Cov.mem Cov.nil), rfl, _, rfl, by kernel_rfl⟩
        · refine OJ.go 1 [(57, .bool y50)] ?_
          refine OJ.join (b := y50) [9, 10, 11] [] [4, 5, 60] (fun y51 => [(4, .pointer (some (pt b2 0))), (5, .pointer (some (pt b3 0))), (60, .bool y51)]) [] [] (t := 57) Iff.rfl (fun hp_ => ?_) (fun hp_ => ?_) (fun _ _ _ _ _ _ h_ => h_) (fun y51 => ?_)
          · refine OJ.go 3 [(60, .bool true), (59, undef), (58, undef)] ?_
            exact OJ.nil ⟨(Cov.mem Cov.nil), rfl, _, rfl, by kernel_rfl⟩
          · refine OJ.go 3 [(60, .bool (r47.2.2 != 0)), (59, .bool (r47.2.2 != 0)), (58, .int .i64 r47.2.2)] ?_
            exact OJ.nil ⟨(Cov.mem Cov.nil), rfl, _, rfl, by kernel_rfl⟩
          · refine OJ.nil ?_
            refine SJ.cond (t := (.tmp 60)) (b := y51) Iff.rfl (fun hc52 => ?_) (fun hc52 => ?_)
            · refine SJ.sr 1 ?_
              refine OJ.go 1 [(6, .bool false)] ?_
              refine OJ.nil ?_
              exact SJ.ret rfl (Res.run (ys := [.bool false]) (.tmp (by kernel_rfl) .nil) rfl)
            · refine SJ.skip ?_
              refine SJ.forget (List.Sublist.cons _ (List.Sublist.cons_cons _ (List.Sublist.cons_cons _ (List.Sublist.cons _ List.Sublist.slnil)))) ?_
              refine SJ.less [4, 5] (m' := [(4, .pointer (some (pt b2 0))), (5, .pointer (some (pt b3 0)))]) ?_
              exact weirlaw4_AddrBack.K2_ok a1 a2 b2 b3
      · refine SJ.skip ?_
        refine SJ.forget (List.Sublist.cons_cons _ (List.Sublist.cons_cons _ (List.Sublist.cons _ List.Sublist.slnil))) ?_
        refine SJ.less [4, 5] (m' := [(4, .pointer (some (pt b2 0))), (5, .pointer (some (pt b3 0)))]) ?_
        exact weirlaw4_AddrBack.K2_ok a1 a2 b2 b3
end Go.Proofs.YtddmmgcfanpmmaaDoor.Lx
