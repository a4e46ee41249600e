/- Programs of the M-world for Go functions, each with the proof that the Go text does what it says. Printed by lxgen.py. -/
import Derived.Test.YtoddkagehbcfjaaLxT
import Derived.Test.YtoddkagehbcfjaaLxP0
import Derived.Test.YtoddkagehbcfjaaLxP1
set_option linter.unusedVariables false
set_option linter.unusedSimpArgs false
namespace Go.Proofs.Ytoddkagehbcfjaa.Lx
open Go Go.Proofs
/-! ### weir/weirref3.New: function 51 -/
noncomputable def weirref3_New.B : Code := (Try.f51.body).getD .skip
noncomputable def weirref3_New.cx : Fx := ⟨Try.prog, 51, Try.f51⟩
noncomputable def weirref3_New.out (r_ : (weirref3_Port × Int)) : Value := .tuple #[c_weirref3_Port.val r_.1, .int .i64 r_.2]
noncomputable def weirref3_New.F0 (r_ : (weirref3_Port × Int)) : Reach := .ret (weirref3_New.out r_)
noncomputable def weirref3_New.F1 (a2 : Int) (b1 : Nat) (b9 : Nat) : (LS (Int × weirref3_Port) (weirref3_Port × Int)) → Reach := loopF [.inLoop (c1 (c1 (c2 (c1 (c2 (c2 (c2 weirref3_New.B))))))), .inBlock 0, .code (c2 (c2 (c2 (c2 weirref3_New.B))))] (fun s_ : (Int × weirref3_Port) => [(2, .int .i64 a2), (8, .pointer (some (pt b1 0))), (10, .pointer (some (pt b9 0))), (11, .int .i64 s_.1)]) (fun s_ : (Int × weirref3_Port) => [(b9, c_weirref3_Port.enc s_.2), (b1, c_weirref3_Port.enc z_weirref3_Port)]) weirref3_New.F0
noncomputable def weirref3_New.L1 (a2 : Int) (s10 : Int) (s11 : weirref3_Port) : M (LS (Int × weirref3_Port) (weirref3_Port × Int)) :=
  if s10 < a2 then
    slot 110 >>= fun b15 =>
    appl c_weirref3_Buf 110 48 z_weirref3_Buf s11.L [(⟨1, s10, z_weirref3_Buf.N, z_weirref3_Buf.Data⟩ : weirref3_Buf)] >>= fun r16 =>
    pure (LS.next (IntKind.wrap .i64 (s10 + 1), (⟨s11.Rx, s11.Tx, s11.Size, r16, s11.Now⟩ : weirref3_Port)))
  else
    pure (LS.done ((⟨s11.Rx, s11.Tx, s11.Size, s11.L, a2⟩ : weirref3_Port), 0))
theorem weirref3_New.L1_ok (a2 : Int) (b1 : Nat) (b9 : Nat) (s10 : Int) (s11 : weirref3_Port) :
    SJ weirref3_New.cx [.code (c1 (c1 (c2 (c1 (c2 (c2 (c2 weirref3_New.B))))))), .inLoop (c1 (c1 (c2 (c1 (c2 (c2 (c2 weirref3_New.B))))))), .inBlock 0, .code (c2 (c2 (c2 (c2 weirref3_New.B))))] [(2, .int .i64 a2), (8, .pointer (some (pt b1 0))), (10, .pointer (some (pt b9 0))), (11, .int .i64 s10)] [(b9, c_weirref3_Port.enc s11), (b1, c_weirref3_Port.enc z_weirref3_Port)] (weirref3_New.L1 a2 s10 s11) (weirref3_New.F1 a2 b1 b9) := by
  unfold weirref3_New.L1
  refine SJ.seq (by kernel_rfl) ?_
  refine SJ.seq (by kernel_rfl) ?_
  refine SJ.region (id := 5) (by kernel_rfl) [0, 1, 2] (by kernel_rfl) ?_
  refine OJ.run [0, 1, 2] [] [2, 8, 10, 11, 33] (m2 := [(2, .int .i64 a2), (8, .pointer (some (pt b1 0))), (10, .pointer (some (pt b9 0))), (11, .int .i64 s10), (33, .bool (decide (s10 < a2)))]) (by kernel_rfl) (by kernel_rfl) ?_
  refine OJ.nil ?_
  refine SJ.cond (t := (.tmp 33)) (b := decide (s10 < a2)) (by kernel_rfl) (by kernel_rfl) decide_eq_true_iff (fun hc17 => ?_) (fun hc17 => ?_)
  · refine SJ.skip (by kernel_rfl) ?_
    refine SJ.seq (by kernel_rfl) ?_
    refine SJ.block (id := 1) (by kernel_rfl) ?_
    refine SJ.region (id := 7) (by kernel_rfl) [0, 1, 2, 3, 4, 5, 6, 7] (by kernel_rfl) ?_
    refine OJ.run [0] [1, 2, 3, 4, 5, 6, 7] [2, 8, 10, 11, 36] (m2 := [(2, .int .i64 a2), (8, .pointer (some (pt b1 0))), (10, .pointer (some (pt b9 0))), (11, .int .i64 s10), (36, .pointer (some (pt b9 3)))]) (by kernel_rfl) (by kernel_rfl) ?_
    refine OJ.kld (d := 37) (T := 57) (y := .tmp 36) (cd := cL) (j := 0) (b := b9) (o := 3) s11.L (pend2 := []) (by kernel_rfl) (by kernel_rfl) Ty57 (by kernel_rfl) rfl (At_weirref3_Port_L s11) (by kernel_rfl) rfl ?_
    refine OJ.run [2] [3, 4, 5, 6, 7] [2, 8, 10, 11, 37, 38] (m2 := [(2, .int .i64 a2), (8, .pointer (some (pt b1 0))), (10, .pointer (some (pt b9 0))), (11, .int .i64 s10), (37, Sl.v s11.L), (38, .int .i64 s10)]) (by kernel_rfl) (by kernel_rfl) ?_
    refine OJ.build (d := 39) (T := 110) (parts := [(0, .const (.int .i64 1)), (1, .tmp 38)]) (ps := [(0, (cI .i64).val 1), (1, (cI .i64).val s10)]) (cd := c_weirref3_Buf) (z0 := z_weirref3_Buf) (⟨1, s10, z_weirref3_Buf.N, z_weirref3_Buf.Data⟩ : weirref3_Buf) (by kernel_rfl) (by kernel_rfl) Ty110 rfl (by kernel_rfl) (Filled.cons (cd := (cI .i64)) (q := 1) (o := 0) (by kernel_rfl) (Up_weirref3_Buf_Place z_weirref3_Buf 1) (Filled.cons (cd := (cI .i64)) (q := s10) (o := 1) (by kernel_rfl) (Up_weirref3_Buf_Since (⟨1, z_weirref3_Buf.Since, z_weirref3_Buf.N, z_weirref3_Buf.Data⟩ : weirref3_Buf) s10) Filled.nil)) (by kernel_rfl) (by kernel_rfl) (by kernel_rfl) ?_
    refine OJ.rowSlot (d := 40) (t := 57) (parts := [(0, .tmp 39)]) (ps := [(0, c_weirref3_Buf.val (⟨1, s10, z_weirref3_Buf.N, z_weirref3_Buf.Data⟩ : weirref3_Buf))]) (cd := c_weirref3_Buf) (⟨[(⟨1, s10, z_weirref3_Buf.N, z_weirref3_Buf.Data⟩ : weirref3_Buf)], rfl⟩ : Vec weirref3_Buf 1) (owed := []) (by kernel_rfl) (by kernel_rfl) (by kernel_rfl) Ty110 (by kernel_rfl) (Filled.cons (cd := c_weirref3_Buf) (q := (⟨1, s10, z_weirref3_Buf.N, z_weirref3_Buf.Data⟩ : weirref3_Buf)) (o := 0) rfl (Upd.arr (i := 0) (by decide) (by decide)) Filled.nil) (by kernel_rfl) (by kernel_rfl) (by kernel_rfl) (fun b15 => ?_)
    refine OW.nil ?_
    refine OJ.appl (d := 41) (t := 57) (u := 57) (so := .tmp 37) (xo := .tmp 40) (j := 0) (b := b15) (l := (c_weirref3_Buf.arr 1).enc (⟨[(⟨1, s10, z_weirref3_Buf.N, z_weirref3_Buf.Data⟩ : weirref3_Buf)], rfl⟩ : Vec weirref3_Buf 1)) (n := 1) (k := 1) [(⟨1, s10, z_weirref3_Buf.N, z_weirref3_Buf.Data⟩ : weirref3_Buf)] (owed := []) (by kernel_rfl) (by kernel_rfl) (by kernel_rfl) Ty110 (by kernel_rfl) (by kernel_rfl) (by kernel_rfl) (by rfl) (Cod.arr_enc _ _ _) (by rfl) (by kernel_rfl) (by kernel_rfl) (by kernel_rfl) (fun r16 => ?_)
    refine OW.nil ?_
    refine OJ.run [6] [7] [2, 8, 10, 11, 41, 42] (m2 := [(2, .int .i64 a2), (8, .pointer (some (pt b1 0))), (10, .pointer (some (pt b9 0))), (11, .int .i64 s10), (41, Sl.v r16), (42, .pointer (some (pt b9 3)))]) (by kernel_rfl) (by kernel_rfl) ?_
    refine OJ.kst (T := 57) (y := .tmp 42) (z := .tmp 41) (cd := cL) (u := r16) (j := 1) (b := b9) (o := 3) (c_weirref3_Port.enc (⟨s11.Rx, s11.Tx, s11.Size, r16, s11.Now⟩ : weirref3_Port)) (h2 := [(b15, (c_weirref3_Buf.arr 1).enc (⟨[(⟨1, s10, z_weirref3_Buf.N, z_weirref3_Buf.Data⟩ : weirref3_Buf)], rfl⟩ : Vec weirref3_Buf 1)), (b9, c_weirref3_Port.enc (⟨s11.Rx, s11.Tx, s11.Size, r16, s11.Now⟩ : weirref3_Port)), (b1, c_weirref3_Port.enc z_weirref3_Port)]) (owed := []) (by kernel_rfl) (by kernel_rfl) (by kernel_rfl) Ty57 rfl (Up_weirref3_Port_L s11 r16) (by kernel_rfl) (by kernel_rfl) rfl ?_
    refine OW.nil ?_
    refine OJ.nil ?_
    refine SJ.inBlock ?_
    refine SJ.region (id := 6) (by kernel_rfl) [0, 1, 2] (by kernel_rfl) ?_
    refine OJ.run [0, 1, 2] [] [2, 8, 10, 11] (m2 := [(2, .int .i64 a2), (8, .pointer (some (pt b1 0))), (10, .pointer (some (pt b9 0))), (11, .int .i64 (IntKind.wrap .i64 (s10 + 1)))]) (by kernel_rfl) (by kernel_rfl) ?_
    refine OJ.nil ?_
    refine SJ.forget (List.Sublist.cons _ (List.Sublist.cons_cons _ (List.Sublist.cons_cons _ List.Sublist.slnil))) ?_
    exact SJ.at_ [2, 8, 10, 11] rfl (by kernel_rfl)
  · refine SJ.exit (id := 0) (by kernel_rfl) (by rfl) ?_
    refine SJ.seq (by kernel_rfl) ?_
    refine SJ.region (id := 8) (by kernel_rfl) [0, 1, 2] (by kernel_rfl) ?_
    refine OJ.run [0, 1] [2] [8, 10, 43, 44] (m2 := [(8, .pointer (some (pt b1 0))), (10, .pointer (some (pt b9 0))), (43, .int .i64 a2), (44, .pointer (some (pt b9 4)))]) (by kernel_rfl) (by kernel_rfl) ?_
    refine OJ.kst (T := 3) (y := .tmp 44) (z := .tmp 43) (cd := (cI .i64)) (u := a2) (j := 0) (b := b9) (o := 4) (c_weirref3_Port.enc (⟨s11.Rx, s11.Tx, s11.Size, s11.L, a2⟩ : weirref3_Port)) (h2 := [(b9, c_weirref3_Port.enc (⟨s11.Rx, s11.Tx, s11.Size, s11.L, a2⟩ : weirref3_Port)), (b1, c_weirref3_Port.enc z_weirref3_Port)]) (owed := []) (by kernel_rfl) (by kernel_rfl) (by kernel_rfl) Ty3 rfl (Up_weirref3_Port_Now s11 a2) (by kernel_rfl) (by kernel_rfl) rfl ?_
    refine OW.nil ?_
    refine OJ.nil ?_
    refine SJ.seq (by kernel_rfl) ?_
    refine SJ.region (id := 9) (by kernel_rfl) [0, 1, 2] (by kernel_rfl) ?_
    refine OJ.kld (d := 45) (T := 59) (y := .tmp 10) (cd := c_weirref3_Port) (j := 0) (b := b9) (o := 0) (⟨s11.Rx, s11.Tx, s11.Size, s11.L, a2⟩ : weirref3_Port) (pend2 := []) (by kernel_rfl) (by kernel_rfl) Ty59 (by kernel_rfl) rfl (At.whole _) (by kernel_rfl) rfl ?_
    refine OJ.kst (T := 59) (y := .tmp 8) (z := .tmp 45) (cd := c_weirref3_Port) (u := (⟨s11.Rx, s11.Tx, s11.Size, s11.L, a2⟩ : weirref3_Port)) (j := 1) (b := b1) (o := 0) (c_weirref3_Port.enc (⟨s11.Rx, s11.Tx, s11.Size, s11.L, a2⟩ : weirref3_Port)) (h2 := [(b9, c_weirref3_Port.enc (⟨s11.Rx, s11.Tx, s11.Size, s11.L, a2⟩ : weirref3_Port)), (b1, c_weirref3_Port.enc (⟨s11.Rx, s11.Tx, s11.Size, s11.L, a2⟩ : weirref3_Port))]) (owed := []) (by kernel_rfl) (by kernel_rfl) (by kernel_rfl) Ty59 rfl (Upd.whole ((Cod.len _ _).trans (Cod.len _ _).symm)) (by kernel_rfl) (by kernel_rfl) rfl ?_
    refine OW.nil ?_
    refine OJ.run [2] [] [8, 9] (m2 := [(8, .pointer (some (pt b1 0))), (9, .int .i64 0)]) (by kernel_rfl) (by kernel_rfl) ?_
    refine OJ.nil ?_
    exact SJ.ret (by kernel_rfl) rfl (Res.run (ys := [c_weirref3_Port.val (⟨s11.Rx, s11.Tx, s11.Size, s11.L, a2⟩ : weirref3_Port), .int .i64 0]) (.cell (j := 1) (b := b1) (cd := c_weirref3_Port) (q := (⟨s11.Rx, s11.Tx, s11.Size, s11.L, a2⟩ : weirref3_Port)) (by kernel_rfl) rfl Ty59 (At.whole _) (.tmp (by kernel_rfl) .nil)) rfl)
noncomputable def weirref3_New (a0 : Int) (a1 : Int) (a2 : Int) (a3 : Int) : M (weirref3_Port × Int) :=
  slot 59 >>= fun b1 =>
  weirref3_out a0 1 4096 >>= fun r2 =>
  (if r2 = true then
      pure true
    else
      weirref3_out a1 1 4096 >>= fun r3 =>
      pure r3) >>= fun y4 =>
  (if y4 = true then
      pure true
    else
      weirref3_out a2 1 8192 >>= fun r5 =>
      pure r5) >>= fun y6 =>
  (if y6 = true then
      pure true
    else
      weirref3_out a3 64 65535 >>= fun r7 =>
      pure r7) >>= fun y8 =>
  if y8 = true then
    pure (z_weirref3_Port, 1)
  else
    slot 59 >>= fun b9 =>
    loopM (fun s_ : (Int × weirref3_Port) => weirref3_New.L1 a2 s_.1 s_.2) (0, (⟨a0, a1, a3, z_weirref3_Port.L, z_weirref3_Port.Now⟩ : weirref3_Port))
theorem weirref3_New_ok (a0 : Int) (a1 : Int) (a2 : Int) (a3 : Int) : Ref Try.prog 51 [.int .i64 a0, .int .i64 a1, .int .i64 a2, .int .i64 a3] (weirref3_New a0 a1 a2 a3) weirref3_New.out := by
  refine Ref.of (cd := weirref3_New.B) Try.func51 (by kernel_rfl) (by kernel_rfl) ?_
  show SJ weirref3_New.cx [.code weirref3_New.B] [(0, .int .i64 a0), (1, .int .i64 a1), (2, .int .i64 a2), (3, .int .i64 a3)] [] (weirref3_New a0 a1 a2 a3) weirref3_New.F0
  unfold weirref3_New
  refine SJ.seq (by kernel_rfl) ?_
  refine SJ.region (id := 0) (by kernel_rfl) [0, 1] (by kernel_rfl) ?_
  refine OJ.slotOf (d := 8) (op := (.alloc 59)) (cd := c_weirref3_Port) (u := z_weirref3_Port) (owed := []) (by kernel_rfl) (alloc_run Ty59) (by kernel_rfl) (by kernel_rfl) (by kernel_rfl) (fun b1 => ?_)
  refine OW.nil ?_
  refine OJ.run [1] [] [0, 1, 2, 3, 8] (m2 := [(0, .int .i64 a0), (1, .int .i64 a1), (2, .int .i64 a2), (3, .int .i64 a3), (8, .pointer (some (pt b1 0)))]) (by kernel_rfl) (by kernel_rfl) ?_
  refine OJ.nil ?_
  refine SJ.seq (by kernel_rfl) ?_
  refine SJ.seq (by kernel_rfl) ?_
  refine SJ.region (id := 1) (by kernel_rfl) [0, 1, 2, 3, 4, 5, 6, 7, 8, 9, 10, 11, 12, 13] (by kernel_rfl) ?_
  refine OJ.run [0] [1, 2, 3, 4, 5, 6, 7, 8, 9, 10, 11, 12, 13] [0, 1, 2, 3, 8, 12] (m2 := [(0, .int .i64 a0), (1, .int .i64 a1), (2, .int .i64 a2), (3, .int .i64 a3), (8, .pointer (some (pt b1 0))), (12, .int .i64 a0)]) (by kernel_rfl) (by kernel_rfl) ?_
  refine OJ.call (d := 13) (g := 62) (ats := #[3, 3, 3]) (args := [.tmp 12, .const (.int .i64 1), .const (.int .i64 4096)]) (vals := [.int .i64 a0, .int .i64 1, .int .i64 4096]) (owed := []) (by kernel_rfl) F62 (by kernel_rfl) (weirref3_out_ok a0 1 4096) (by kernel_rfl) (by kernel_rfl) (by kernel_rfl) (fun r2 => ?_)
  refine OW.nil ?_
  refine OJ.run [2] [3, 4, 5, 6, 7, 8, 9, 10, 11, 12, 13] [0, 1, 2, 3, 8, 14] (m2 := [(0, .int .i64 a0), (1, .int .i64 a1), (2, .int .i64 a2), (3, .int .i64 a3), (8, .pointer (some (pt b1 0))), (14, .bool r2)]) (by kernel_rfl) (by kernel_rfl) ?_
  refine OJ.join (b := r2) [3, 4, 5] [6, 7, 8, 9, 10, 11, 12, 13] [0, 1, 2, 3, 8, 17] (fun y4 => [(0, .int .i64 a0), (1, .int .i64 a1), (2, .int .i64 a2), (3, .int .i64 a3), (8, .pointer (some (pt b1 0))), (17, .bool y4)]) [] [] (by kernel_rfl) (t := 14) (by kernel_rfl) Iff.rfl (fun hp_ => ?_) (fun hp_ => ?_) (by kernel_rfl) (fun _ _ _ _ _ _ h_ => h_) (fun y4 => ?_)
  · refine OJ.run [3, 4, 5] [] [0, 1, 2, 3, 8, 17] (m2 := [(0, .int .i64 a0), (1, .int .i64 a1), (2, .int .i64 a2), (3, .int .i64 a3), (8, .pointer (some (pt b1 0))), (17, .bool true)]) (by kernel_rfl) (by kernel_rfl) ?_
    exact OJ.nil ⟨(Cov.mem Cov.nil), rfl, _, rfl, by kernel_rfl⟩
  · refine OJ.run [3] [4, 5] [0, 1, 2, 3, 8, 14, 15] (m2 := [(0, .int .i64 a0), (1, .int .i64 a1), (2, .int .i64 a2), (3, .int .i64 a3), (8, .pointer (some (pt b1 0))), (14, .bool false), (15, .int .i64 a1)]) (by kernel_rfl) (by kernel_rfl) ?_
    refine OJ.call (d := 16) (g := 62) (ats := #[3, 3, 3]) (args := [.tmp 15, .const (.int .i64 1), .const (.int .i64 4096)]) (vals := [.int .i64 a1, .int .i64 1, .int .i64 4096]) (owed := []) (by kernel_rfl) F62 (by kernel_rfl) (weirref3_out_ok a1 1 4096) (by kernel_rfl) (by kernel_rfl) (by kernel_rfl) (fun r3 => ?_)
    refine OW.nil ?_
    refine OJ.run [5] [] [0, 1, 2, 3, 8, 17] (m2 := [(0, .int .i64 a0), (1, .int .i64 a1), (2, .int .i64 a2), (3, .int .i64 a3), (8, .pointer (some (pt b1 0))), (17, .bool r3)]) (by kernel_rfl) (by kernel_rfl) ?_
    exact OJ.nil ⟨(Cov.mem Cov.nil), rfl, _, rfl, by kernel_rfl⟩
  · refine OJ.run [6] [7, 8, 9, 10, 11, 12, 13] [0, 1, 2, 3, 8, 18] (m2 := [(0, .int .i64 a0), (1, .int .i64 a1), (2, .int .i64 a2), (3, .int .i64 a3), (8, .pointer (some (pt b1 0))), (18, .bool y4)]) (by kernel_rfl) (by kernel_rfl) ?_
    refine OJ.join (b := y4) [7, 8, 9] [10, 11, 12, 13] [0, 1, 2, 3, 8, 21] (fun y6 => [(0, .int .i64 a0), (1, .int .i64 a1), (2, .int .i64 a2), (3, .int .i64 a3), (8, .pointer (some (pt b1 0))), (21, .bool y6)]) [] [] (by kernel_rfl) (t := 18) (by kernel_rfl) Iff.rfl (fun hp_ => ?_) (fun hp_ => ?_) (by kernel_rfl) (fun _ _ _ _ _ _ h_ => h_) (fun y6 => ?_)
    · refine OJ.run [7, 8, 9] [] [0, 1, 2, 3, 8, 21] (m2 := [(0, .int .i64 a0), (1, .int .i64 a1), (2, .int .i64 a2), (3, .int .i64 a3), (8, .pointer (some (pt b1 0))), (21, .bool true)]) (by kernel_rfl) (by kernel_rfl) ?_
      exact OJ.nil ⟨(Cov.mem Cov.nil), rfl, _, rfl, by kernel_rfl⟩
    · refine OJ.run [7] [8, 9] [0, 1, 2, 3, 8, 18, 19] (m2 := [(0, .int .i64 a0), (1, .int .i64 a1), (2, .int .i64 a2), (3, .int .i64 a3), (8, .pointer (some (pt b1 0))), (18, .bool false), (19, .int .i64 a2)]) (by kernel_rfl) (by kernel_rfl) ?_
      refine OJ.call (d := 20) (g := 62) (ats := #[3, 3, 3]) (args := [.tmp 19, .const (.int .i64 1), .const (.int .i64 8192)]) (vals := [.int .i64 a2, .int .i64 1, .int .i64 8192]) (owed := []) (by kernel_rfl) F62 (by kernel_rfl) (weirref3_out_ok a2 1 8192) (by kernel_rfl) (by kernel_rfl) (by kernel_rfl) (fun r5 => ?_)
      refine OW.nil ?_
      refine OJ.run [9] [] [0, 1, 2, 3, 8, 21] (m2 := [(0, .int .i64 a0), (1, .int .i64 a1), (2, .int .i64 a2), (3, .int .i64 a3), (8, .pointer (some (pt b1 0))), (21, .bool r5)]) (by kernel_rfl) (by kernel_rfl) ?_
      exact OJ.nil ⟨(Cov.mem Cov.nil), rfl, _, rfl, by kernel_rfl⟩
    · refine OJ.run [10] [11, 12, 13] [0, 1, 2, 3, 8, 22] (m2 := [(0, .int .i64 a0), (1, .int .i64 a1), (2, .int .i64 a2), (3, .int .i64 a3), (8, .pointer (some (pt b1 0))), (22, .bool y6)]) (by kernel_rfl) (by kernel_rfl) ?_
      refine OJ.join (b := y6) [11, 12, 13] [] [0, 1, 2, 3, 8, 25] (fun y8 => [(0, .int .i64 a0), (1, .int .i64 a1), (2, .int .i64 a2), (3, .int .i64 a3), (8, .pointer (some (pt b1 0))), (25, .bool y8)]) [] [] (by kernel_rfl) (t := 22) (by kernel_rfl) Iff.rfl (fun hp_ => ?_) (fun hp_ => ?_) (by kernel_rfl) (fun _ _ _ _ _ _ h_ => h_) (fun y8 => ?_)
      · refine OJ.run [11, 12, 13] [] [0, 1, 2, 3, 8, 25] (m2 := [(0, .int .i64 a0), (1, .int .i64 a1), (2, .int .i64 a2), (3, .int .i64 a3), (8, .pointer (some (pt b1 0))), (25, .bool true)]) (by kernel_rfl) (by kernel_rfl) ?_
        exact OJ.nil ⟨(Cov.mem Cov.nil), rfl, _, rfl, by kernel_rfl⟩
      · refine OJ.run [11] [12, 13] [0, 1, 2, 3, 8, 22, 23] (m2 := [(0, .int .i64 a0), (1, .int .i64 a1), (2, .int .i64 a2), (3, .int .i64 a3), (8, .pointer (some (pt b1 0))), (22, .bool false), (23, .int .i64 a3)]) (by kernel_rfl) (by kernel_rfl) ?_
        refine OJ.call (d := 24) (g := 62) (ats := #[3, 3, 3]) (args := [.tmp 23, .const (.int .i64 64), .const (.int .i64 65535)]) (vals := [.int .i64 a3, .int .i64 64, .int .i64 65535]) (owed := []) (by kernel_rfl) F62 (by kernel_rfl) (weirref3_out_ok a3 64 65535) (by kernel_rfl) (by kernel_rfl) (by kernel_rfl) (fun r7 => ?_)
        refine OW.nil ?_
        refine OJ.run [13] [] [0, 1, 2, 3, 8, 25] (m2 := [(0, .int .i64 a0), (1, .int .i64 a1), (2, .int .i64 a2), (3, .int .i64 a3), (8, .pointer (some (pt b1 0))), (25, .bool r7)]) (by kernel_rfl) (by kernel_rfl) ?_
        exact OJ.nil ⟨(Cov.mem Cov.nil), rfl, _, rfl, by kernel_rfl⟩
      · refine OJ.nil ?_
        refine SJ.cond (t := (.tmp 25)) (b := y8) (by kernel_rfl) (by kernel_rfl) Iff.rfl (fun hc18 => ?_) (fun hc18 => ?_)
        · refine SJ.seq (by kernel_rfl) ?_
          refine SJ.region (id := 2) (by kernel_rfl) [0, 1, 2] (by kernel_rfl) ?_
          refine OJ.build (d := 26) (T := 59) (parts := []) (ps := []) (cd := c_weirref3_Port) (z0 := z_weirref3_Port) z_weirref3_Port (by kernel_rfl) (by kernel_rfl) Ty59 rfl (by kernel_rfl) Filled.nil (by kernel_rfl) (by kernel_rfl) (by kernel_rfl) ?_
          refine OJ.kst (T := 59) (y := .tmp 8) (z := .tmp 26) (cd := c_weirref3_Port) (u := z_weirref3_Port) (j := 0) (b := b1) (o := 0) (c_weirref3_Port.enc z_weirref3_Port) (h2 := [(b1, c_weirref3_Port.enc z_weirref3_Port)]) (owed := []) (by kernel_rfl) (by kernel_rfl) (by kernel_rfl) Ty59 rfl (Upd.whole ((Cod.len _ _).trans (Cod.len _ _).symm)) (by kernel_rfl) (by kernel_rfl) rfl ?_
          refine OW.nil ?_
          refine OJ.run [2] [] [8, 9] (m2 := [(8, .pointer (some (pt b1 0))), (9, .int .i64 1)]) (by kernel_rfl) (by kernel_rfl) ?_
          refine OJ.nil ?_
          exact SJ.ret (by kernel_rfl) rfl (Res.run (ys := [c_weirref3_Port.val z_weirref3_Port, .int .i64 1]) (.cell (j := 0) (b := b1) (cd := c_weirref3_Port) (q := z_weirref3_Port) (by kernel_rfl) rfl Ty59 (At.whole _) (.tmp (by kernel_rfl) .nil)) rfl)
        · refine SJ.skip (by kernel_rfl) ?_
          refine SJ.seq (by kernel_rfl) ?_
          refine SJ.region (id := 3) (by kernel_rfl) [0, 1, 2, 3, 4, 5] (by kernel_rfl) ?_
          refine OJ.run [0, 1, 2] [3, 4, 5] [2, 8, 27, 28, 29] (m2 := [(2, .int .i64 a2), (8, .pointer (some (pt b1 0))), (27, .int .i64 a0), (28, .int .i64 a1), (29, .int .i64 a3)]) (by kernel_rfl) (by kernel_rfl) ?_
          refine OJ.build (d := 30) (T := 59) (parts := [(0, .tmp 27), (1, .tmp 28), (2, .tmp 29)]) (ps := [(0, (cI .i64).val a0), (1, (cI .i64).val a1), (2, (cI .i64).val a3)]) (cd := c_weirref3_Port) (z0 := z_weirref3_Port) (⟨a0, a1, a3, z_weirref3_Port.L, z_weirref3_Port.Now⟩ : weirref3_Port) (by kernel_rfl) (by kernel_rfl) Ty59 rfl (by kernel_rfl) (Filled.cons (cd := (cI .i64)) (q := a0) (o := 0) (by kernel_rfl) (Up_weirref3_Port_Rx z_weirref3_Port a0) (Filled.cons (cd := (cI .i64)) (q := a1) (o := 1) (by kernel_rfl) (Up_weirref3_Port_Tx (⟨a0, z_weirref3_Port.Tx, z_weirref3_Port.Size, z_weirref3_Port.L, z_weirref3_Port.Now⟩ : weirref3_Port) a1) (Filled.cons (cd := (cI .i64)) (q := a3) (o := 2) (by kernel_rfl) (Up_weirref3_Port_Size (⟨a0, a1, z_weirref3_Port.Size, z_weirref3_Port.L, z_weirref3_Port.Now⟩ : weirref3_Port) a3) Filled.nil))) (by kernel_rfl) (by kernel_rfl) (by kernel_rfl) ?_
          refine OJ.slotOf (d := 10) (op := (.alloc 59)) (cd := c_weirref3_Port) (u := z_weirref3_Port) (owed := []) (by kernel_rfl) (alloc_run Ty59) (by kernel_rfl) (by kernel_rfl) (by kernel_rfl) (fun b9 => ?_)
          refine OW.nil ?_
          refine OJ.kst (T := 59) (y := .tmp 10) (z := .tmp 30) (cd := c_weirref3_Port) (u := (⟨a0, a1, a3, z_weirref3_Port.L, z_weirref3_Port.Now⟩ : weirref3_Port)) (j := 0) (b := b9) (o := 0) (c_weirref3_Port.enc (⟨a0, a1, a3, z_weirref3_Port.L, z_weirref3_Port.Now⟩ : weirref3_Port)) (h2 := [(b9, c_weirref3_Port.enc (⟨a0, a1, a3, z_weirref3_Port.L, z_weirref3_Port.Now⟩ : weirref3_Port)), (b1, c_weirref3_Port.enc z_weirref3_Port)]) (owed := []) (by kernel_rfl) (by kernel_rfl) (by kernel_rfl) Ty59 rfl (Upd.whole ((Cod.len _ _).trans (Cod.len _ _).symm)) (by kernel_rfl) (by kernel_rfl) rfl ?_
          refine OW.nil ?_
          refine OJ.nil ?_
          refine SJ.seq (by kernel_rfl) ?_
          refine SJ.seq (by kernel_rfl) ?_
          refine SJ.region (id := 4) (by kernel_rfl) [0] (by kernel_rfl) ?_
          refine OJ.run [0] [] [2, 8, 10, 11] (m2 := [(2, .int .i64 a2), (8, .pointer (some (pt b1 0))), (10, .pointer (some (pt b9 0))), (11, .int .i64 0)]) (by kernel_rfl) (by kernel_rfl) ?_
          refine OJ.nil ?_
          refine SJ.block (id := 0) (by kernel_rfl) ?_
          exact SJ.loop (fun s_ : (Int × weirref3_Port) => [(2, .int .i64 a2), (8, .pointer (some (pt b1 0))), (10, .pointer (some (pt b9 0))), (11, .int .i64 s_.1)]) (fun s_ : (Int × weirref3_Port) => [(b9, c_weirref3_Port.enc s_.2), (b1, c_weirref3_Port.enc z_weirref3_Port)]) [2, 8, 10, 11] (by kernel_rfl) (by kernel_rfl) rfl (fun _ _ => rfl) (fun s_ => weirref3_New.L1_ok a2 b1 b9 s_.1 s_.2)

/-! ### weir/weirlaw3.made: function 30 -/
noncomputable def weirlaw3_made.B : Code := (Try.f30.body).getD .skip
noncomputable def weirlaw3_made.cx : Fx := ⟨Try.prog, 30, Try.f30⟩
noncomputable def weirlaw3_made.out (r_ : (weirlaw3_Side × Bool)) : Value := .tuple #[c_weirlaw3_Side.val r_.1, .bool r_.2]
noncomputable def weirlaw3_made.F0 (r_ : (weirlaw3_Side × Bool)) : Reach := .ret (weirlaw3_made.out r_)
noncomputable def weirlaw3_made (a0 : Int) (a1 : Int) (a2 : Int) (a3 : Int) : M (weirlaw3_Side × Bool) :=
  slot 62 >>= fun b1 =>
  ring_New a0 a1 a2 a3 >>= fun r2 =>
  weirref3_New a0 a1 a2 a3 >>= fun r3 =>
  slot 59 >>= fun b4 =>
  weirlaw3_num r2.2 >>= fun r5 =>
  (if r5 ≠ r3.2 then
      pure true
    else
      pure (!((Option.isNone r2.1) == (r3.2 != 0)))) >>= fun y6 =>
  if y6 = true then
    pure (z_weirlaw3_Side, false)
  else
    if r3.2 = 0 then
      pure ((⟨r2.1, r3.1, z_weirlaw3_Side.W⟩ : weirlaw3_Side), true)
    else
      ring_New 2 2 3 64 >>= fun r7 =>
      weirref3_New 2 2 3 64 >>= fun r8 =>
      draw >>= fun _ =>
      (if ¬ (r7.1 = none) then
          weirlaw3_num r7.2 >>= fun r9 =>
          pure (r9 == 0)
        else
          pure false) >>= fun y10 =>
      pure ((⟨r7.1, r8.1, z_weirlaw3_Side.W⟩ : weirlaw3_Side), y10)
theorem weirlaw3_made_ok (a0 : Int) (a1 : Int) (a2 : Int) (a3 : Int) : Ref Try.prog 30 [.int .i64 a0, .int .i64 a1, .int .i64 a2, .int .i64 a3] (weirlaw3_made a0 a1 a2 a3) weirlaw3_made.out := by
  refine Ref.of (cd := weirlaw3_made.B) Try.func30 (by kernel_rfl) (by kernel_rfl) ?_
  show SJ weirlaw3_made.cx [.code weirlaw3_made.B] [(0, .int .i64 a0), (1, .int .i64 a1), (2, .int .i64 a2), (3, .int .i64 a3)] [] (weirlaw3_made a0 a1 a2 a3) weirlaw3_made.F0
  unfold weirlaw3_made
  refine SJ.seq (by kernel_rfl) ?_
  refine SJ.region (id := 0) (by kernel_rfl) [0, 1] (by kernel_rfl) ?_
  refine OJ.slotOf (d := 8) (op := (.alloc 62)) (cd := c_weirlaw3_Side) (u := z_weirlaw3_Side) (owed := []) (by kernel_rfl) (alloc_run Ty62) (by kernel_rfl) (by kernel_rfl) (by kernel_rfl) (fun b1 => ?_)
  refine OW.nil ?_
  refine OJ.run [1] [] [0, 1, 2, 3, 8] (m2 := [(0, .int .i64 a0), (1, .int .i64 a1), (2, .int .i64 a2), (3, .int .i64 a3), (8, .pointer (some (pt b1 0)))]) (by kernel_rfl) (by kernel_rfl) ?_
  refine OJ.nil ?_
  refine SJ.seq (by kernel_rfl) ?_
  refine SJ.region (id := 1) (by kernel_rfl) [0, 1, 2, 3, 4, 5, 6, 7, 8, 9] (by kernel_rfl) ?_
  refine OJ.run [0, 1, 2, 3] [4, 5, 6, 7, 8, 9] [0, 1, 2, 3, 8, 15, 16, 17, 18] (m2 := [(0, .int .i64 a0), (1, .int .i64 a1), (2, .int .i64 a2), (3, .int .i64 a3), (8, .pointer (some (pt b1 0))), (15, .int .i64 a0), (16, .int .i64 a1), (17, .int .i64 a2), (18, .int .i64 a3)]) (by kernel_rfl) (by kernel_rfl) ?_
  refine OJ.call (d := 19) (g := 13) (ats := #[3, 3, 3, 3]) (args := [.tmp 15, .tmp 16, .tmp 17, .tmp 18]) (vals := [.int .i64 a0, .int .i64 a1, .int .i64 a2, .int .i64 a3]) (owed := []) (by kernel_rfl) F13 (by kernel_rfl) (ring_New_ok a0 a1 a2 a3) (by kernel_rfl) (by kernel_rfl) (by kernel_rfl) (fun r2 => ?_)
  refine OW.nil ?_
  refine OJ.run [5, 6, 7, 8, 9] [] [0, 1, 2, 3, 8, 10, 11] (m2 := [(0, .int .i64 a0), (1, .int .i64 a1), (2, .int .i64 a2), (3, .int .i64 a3), (8, .pointer (some (pt b1 0))), (10, .pointer r2.1), (11, .int .i64 r2.2)]) (by kernel_rfl) (by kernel_rfl) ?_
  refine OJ.nil ?_
  refine SJ.seq (by kernel_rfl) ?_
  refine SJ.region (id := 2) (by kernel_rfl) [0, 1, 2, 3, 4, 5, 6, 7, 8, 9, 10] (by kernel_rfl) ?_
  refine OJ.run [0, 1, 2, 3] [4, 5, 6, 7, 8, 9, 10] [8, 10, 11, 23, 24, 25, 26] (m2 := [(8, .pointer (some (pt b1 0))), (10, .pointer r2.1), (11, .int .i64 r2.2), (23, .int .i64 a0), (24, .int .i64 a1), (25, .int .i64 a2), (26, .int .i64 a3)]) (by kernel_rfl) (by kernel_rfl) ?_
  refine OJ.call (d := 27) (g := 51) (ats := #[3, 3, 3, 3]) (args := [.tmp 23, .tmp 24, .tmp 25, .tmp 26]) (vals := [.int .i64 a0, .int .i64 a1, .int .i64 a2, .int .i64 a3]) (owed := []) (by kernel_rfl) F51 (by kernel_rfl) (weirref3_New_ok a0 a1 a2 a3) (by kernel_rfl) (by kernel_rfl) (by kernel_rfl) (fun r3 => ?_)
  refine OW.nil ?_
  refine OJ.run [5, 6, 7] [8, 9, 10] [8, 10, 11, 28, 29] (m2 := [(8, .pointer (some (pt b1 0))), (10, .pointer r2.1), (11, .int .i64 r2.2), (28, c_weirref3_Port.val r3.1), (29, .int .i64 r3.2)]) (by kernel_rfl) (by kernel_rfl) ?_
  refine OJ.slotOf (d := 12) (op := (.alloc 59)) (cd := c_weirref3_Port) (u := z_weirref3_Port) (owed := []) (by kernel_rfl) (alloc_run Ty59) (by kernel_rfl) (by kernel_rfl) (by kernel_rfl) (fun b4 => ?_)
  refine OW.nil ?_
  refine OJ.kst (T := 59) (y := .tmp 12) (z := .tmp 28) (cd := c_weirref3_Port) (u := r3.1) (j := 0) (b := b4) (o := 0) (c_weirref3_Port.enc r3.1) (h2 := [(b4, c_weirref3_Port.enc r3.1), (b1, c_weirlaw3_Side.enc z_weirlaw3_Side)]) (owed := []) (by kernel_rfl) (by kernel_rfl) (by kernel_rfl) Ty59 rfl (Upd.whole ((Cod.len _ _).trans (Cod.len _ _).symm)) (by kernel_rfl) (by kernel_rfl) rfl ?_
  refine OW.nil ?_
  refine OJ.run [10] [] [8, 10, 11, 12, 13] (m2 := [(8, .pointer (some (pt b1 0))), (10, .pointer r2.1), (11, .int .i64 r2.2), (12, .pointer (some (pt b4 0))), (13, .int .i64 r3.2)]) (by kernel_rfl) (by kernel_rfl) ?_
  refine OJ.nil ?_
  refine SJ.seq (by kernel_rfl) ?_
  refine SJ.seq (by kernel_rfl) ?_
  refine SJ.region (id := 3) (by kernel_rfl) [0, 1, 2, 3, 4, 5, 6, 7, 8, 9, 10] (by kernel_rfl) ?_
  refine OJ.run [0] [1, 2, 3, 4, 5, 6, 7, 8, 9, 10] [8, 10, 12, 13, 30] (m2 := [(8, .pointer (some (pt b1 0))), (10, .pointer r2.1), (12, .pointer (some (pt b4 0))), (13, .int .i64 r3.2), (30, .int .i64 r2.2)]) (by kernel_rfl) (by kernel_rfl) ?_
  refine OJ.call (d := 31) (g := 14) (ats := #[24]) (args := [.tmp 30]) (vals := [.int .i64 r2.2]) (owed := []) (by kernel_rfl) F14 (by kernel_rfl) (weirlaw3_num_ok r2.2) (by kernel_rfl) (by kernel_rfl) (by kernel_rfl) (fun r5 => ?_)
  refine OW.nil ?_
  refine OJ.run [2, 3, 4] [5, 6, 7, 8, 9, 10] [8, 10, 12, 13, 34] (m2 := [(8, .pointer (some (pt b1 0))), (10, .pointer r2.1), (12, .pointer (some (pt b4 0))), (13, .int .i64 r3.2), (34, .bool (r5 != r3.2))]) (by kernel_rfl) (by kernel_rfl) ?_
  refine OJ.join (b := (r5 != r3.2)) [5, 6, 7, 8, 9, 10] [] [8, 10, 12, 13, 40] (fun y6 => [(8, .pointer (some (pt b1 0))), (10, .pointer r2.1), (12, .pointer (some (pt b4 0))), (13, .int .i64 r3.2), (40, .bool y6)]) [] [] (by kernel_rfl) (t := 34) (by kernel_rfl) bne_iff_ne (fun hp_ => ?_) (fun hp_ => ?_) (by kernel_rfl) (fun _ _ _ _ _ _ h_ => h_) (fun y6 => ?_)
  · refine OJ.run [5, 6, 7, 8, 9, 10] [] [8, 10, 12, 13, 40] (m2 := [(8, .pointer (some (pt b1 0))), (10, .pointer r2.1), (12, .pointer (some (pt b4 0))), (13, .int .i64 r3.2), (40, .bool true)]) (by kernel_rfl) (by kernel_rfl) ?_
    exact OJ.nil ⟨(Cov.mem Cov.nil), rfl, _, rfl, by kernel_rfl⟩
  · refine OJ.run [5, 6, 7, 8, 9, 10] [] [8, 10, 12, 13, 40] (m2 := [(8, .pointer (some (pt b1 0))), (10, .pointer r2.1), (12, .pointer (some (pt b4 0))), (13, .int .i64 r3.2), (40, .bool (!((Option.isNone r2.1) == (r3.2 != 0))))]) (by kernel_rfl) (by kernel_rfl) ?_
    exact OJ.nil ⟨(Cov.mem Cov.nil), rfl, _, rfl, by kernel_rfl⟩
  · refine OJ.nil ?_
    refine SJ.cond (t := (.tmp 40)) (b := y6) (by kernel_rfl) (by kernel_rfl) Iff.rfl (fun hc12 => ?_) (fun hc12 => ?_)
    · refine SJ.seq (by kernel_rfl) ?_
      refine SJ.region (id := 4) (by kernel_rfl) [0, 1, 2] (by kernel_rfl) ?_
      refine OJ.build (d := 41) (T := 62) (parts := []) (ps := []) (cd := c_weirlaw3_Side) (z0 := z_weirlaw3_Side) z_weirlaw3_Side (by kernel_rfl) (by kernel_rfl) Ty62 rfl (by kernel_rfl) Filled.nil (by kernel_rfl) (by kernel_rfl) (by kernel_rfl) ?_
      refine OJ.kst (T := 62) (y := .tmp 8) (z := .tmp 41) (cd := c_weirlaw3_Side) (u := z_weirlaw3_Side) (j := 1) (b := b1) (o := 0) (c_weirlaw3_Side.enc z_weirlaw3_Side) (h2 := [(b4, c_weirref3_Port.enc r3.1), (b1, c_weirlaw3_Side.enc z_weirlaw3_Side)]) (owed := []) (by kernel_rfl) (by kernel_rfl) (by kernel_rfl) Ty62 rfl (Upd.whole ((Cod.len _ _).trans (Cod.len _ _).symm)) (by kernel_rfl) (by kernel_rfl) rfl ?_
      refine OW.nil ?_
      refine OJ.run [2] [] [8, 9] (m2 := [(8, .pointer (some (pt b1 0))), (9, .bool false)]) (by kernel_rfl) (by kernel_rfl) ?_
      refine OJ.nil ?_
      exact SJ.ret (by kernel_rfl) rfl (Res.run (ys := [c_weirlaw3_Side.val z_weirlaw3_Side, .bool false]) (.cell (j := 1) (b := b1) (cd := c_weirlaw3_Side) (q := z_weirlaw3_Side) (by kernel_rfl) rfl Ty62 (At.whole _) (.tmp (by kernel_rfl) .nil)) rfl)
    · refine SJ.skip (by kernel_rfl) ?_
      refine SJ.seq (by kernel_rfl) ?_
      refine SJ.seq (by kernel_rfl) ?_
      refine SJ.region (id := 5) (by kernel_rfl) [0, 1] (by kernel_rfl) ?_
      refine OJ.run [0, 1] [] [8, 10, 12, 43] (m2 := [(8, .pointer (some (pt b1 0))), (10, .pointer r2.1), (12, .pointer (some (pt b4 0))), (43, .bool (r3.2 == 0))]) (by kernel_rfl) (by kernel_rfl) ?_
      refine OJ.nil ?_
      refine SJ.cond (t := (.tmp 43)) (b := (r3.2 == 0)) (by kernel_rfl) (by kernel_rfl) beq_iff_eq (fun hc11 => ?_) (fun hc11 => ?_)
      · refine SJ.seq (by kernel_rfl) ?_
        refine SJ.region (id := 6) (by kernel_rfl) [0, 1, 2, 3, 4] (by kernel_rfl) ?_
        refine OJ.run [0] [1, 2, 3, 4] [8, 12, 44] (m2 := [(8, .pointer (some (pt b1 0))), (12, .pointer (some (pt b4 0))), (44, .pointer r2.1)]) (by kernel_rfl) (by kernel_rfl) ?_
        refine OJ.kld (d := 45) (T := 59) (y := .tmp 12) (cd := c_weirref3_Port) (j := 0) (b := b4) (o := 0) r3.1 (pend2 := []) (by kernel_rfl) (by kernel_rfl) Ty59 (by kernel_rfl) rfl (At.whole _) (by kernel_rfl) rfl ?_
        refine OJ.build (d := 46) (T := 62) (parts := [(0, .tmp 44), (1, .tmp 45)]) (ps := [(0, cP.val r2.1), (1, c_weirref3_Port.val r3.1)]) (cd := c_weirlaw3_Side) (z0 := z_weirlaw3_Side) (⟨r2.1, r3.1, z_weirlaw3_Side.W⟩ : weirlaw3_Side) (by kernel_rfl) (by kernel_rfl) Ty62 rfl (by kernel_rfl) (Filled.cons (cd := cP) (q := r2.1) (o := 0) (by kernel_rfl) (Up_weirlaw3_Side_P z_weirlaw3_Side r2.1) (Filled.cons (cd := c_weirref3_Port) (q := r3.1) (o := 1) (by kernel_rfl) (Up_weirlaw3_Side_R (⟨r2.1, z_weirlaw3_Side.R, z_weirlaw3_Side.W⟩ : weirlaw3_Side) r3.1) Filled.nil)) (by kernel_rfl) (by kernel_rfl) (by kernel_rfl) ?_
        refine OJ.kst (T := 62) (y := .tmp 8) (z := .tmp 46) (cd := c_weirlaw3_Side) (u := (⟨r2.1, r3.1, z_weirlaw3_Side.W⟩ : weirlaw3_Side)) (j := 1) (b := b1) (o := 0) (c_weirlaw3_Side.enc (⟨r2.1, r3.1, z_weirlaw3_Side.W⟩ : weirlaw3_Side)) (h2 := [(b4, c_weirref3_Port.enc r3.1), (b1, c_weirlaw3_Side.enc (⟨r2.1, r3.1, z_weirlaw3_Side.W⟩ : weirlaw3_Side))]) (owed := []) (by kernel_rfl) (by kernel_rfl) (by kernel_rfl) Ty62 rfl (Upd.whole ((Cod.len _ _).trans (Cod.len _ _).symm)) (by kernel_rfl) (by kernel_rfl) rfl ?_
        refine OW.nil ?_
        refine OJ.run [4] [] [8, 9] (m2 := [(8, .pointer (some (pt b1 0))), (9, .bool true)]) (by kernel_rfl) (by kernel_rfl) ?_
        refine OJ.nil ?_
        exact SJ.ret (by kernel_rfl) rfl (Res.run (ys := [c_weirlaw3_Side.val (⟨r2.1, r3.1, z_weirlaw3_Side.W⟩ : weirlaw3_Side), .bool true]) (.cell (j := 1) (b := b1) (cd := c_weirlaw3_Side) (q := (⟨r2.1, r3.1, z_weirlaw3_Side.W⟩ : weirlaw3_Side)) (by kernel_rfl) rfl Ty62 (At.whole _) (.tmp (by kernel_rfl) .nil)) rfl)
      · refine SJ.skip (by kernel_rfl) ?_
        refine SJ.seq (by kernel_rfl) ?_
        refine SJ.region (id := 7) (by kernel_rfl) [0, 1, 2, 3, 4, 5] (by kernel_rfl) ?_
        refine OJ.call (d := 48) (g := 13) (ats := #[3, 3, 3, 3]) (args := [.const (.int .i64 2), .const (.int .i64 2), .const (.int .i64 3), .const (.int .i64 64)]) (vals := [.int .i64 2, .int .i64 2, .int .i64 3, .int .i64 64]) (owed := []) (by kernel_rfl) F13 (by kernel_rfl) (ring_New_ok 2 2 3 64) (by kernel_rfl) (by kernel_rfl) (by kernel_rfl) (fun r7 => ?_)
        refine OW.nil ?_
        refine OJ.run [1, 2, 3, 4, 5] [] [8, 10, 12, 11] (m2 := [(8, .pointer (some (pt b1 0))), (10, .pointer r7.1), (12, .pointer (some (pt b4 0))), (11, .int .i64 r7.2)]) (by kernel_rfl) (by kernel_rfl) ?_
        refine OJ.nil ?_
        refine SJ.seq (by kernel_rfl) ?_
        refine SJ.region (id := 8) (by kernel_rfl) [0, 1, 2, 3, 4] (by kernel_rfl) ?_
        refine OJ.call (d := 52) (g := 51) (ats := #[3, 3, 3, 3]) (args := [.const (.int .i64 2), .const (.int .i64 2), .const (.int .i64 3), .const (.int .i64 64)]) (vals := [.int .i64 2, .int .i64 2, .int .i64 3, .int .i64 64]) (owed := []) (by kernel_rfl) F51 (by kernel_rfl) (weirref3_New_ok 2 2 3 64) (by kernel_rfl) (by kernel_rfl) (by kernel_rfl) (fun r8 => ?_)
        refine OW.nil ?_
        refine OJ.run [1, 2, 3] [4] [8, 10, 12, 11, 53] (m2 := [(8, .pointer (some (pt b1 0))), (10, .pointer r7.1), (12, .pointer (some (pt b4 0))), (11, .int .i64 r7.2), (53, c_weirref3_Port.val r8.1)]) (by kernel_rfl) (by kernel_rfl) ?_
        refine OJ.kst (T := 59) (y := .tmp 12) (z := .tmp 53) (cd := c_weirref3_Port) (u := r8.1) (j := 0) (b := b4) (o := 0) (c_weirref3_Port.enc r8.1) (h2 := [(b4, c_weirref3_Port.enc r8.1), (b1, c_weirlaw3_Side.enc z_weirlaw3_Side)]) (owed := []) (by kernel_rfl) (by kernel_rfl) (by kernel_rfl) Ty59 rfl (Upd.whole ((Cod.len _ _).trans (Cod.len _ _).symm)) (by kernel_rfl) (by kernel_rfl) rfl ?_
        refine OW.nil ?_
        refine OJ.nil ?_
        refine SJ.seq (by kernel_rfl) ?_
        refine SJ.draw (id := 9) (kd := [0, 1, 0, 0, 0, 0, 0, 2, 0, 0, 2, 0]) (bef := [0, 0, 3, 0, 8, 24, 56, 120, 248, 504, 255, 2047]) (ord := [0, 1, 2, 3, 4, 5, 6, 7, 8, 9, 10, 11]) (by kernel_rfl) mixed (by kernel_rfl) ?_
        refine OJ.run [0] [1, 2, 3, 4, 5, 6, 7, 8, 9, 10, 11] [8, 10, 12, 11, 55] (m2 := [(8, .pointer (some (pt b1 0))), (10, .pointer r7.1), (12, .pointer (some (pt b4 0))), (11, .int .i64 r7.2), (55, .pointer r7.1)]) (by kernel_rfl) (by kernel_rfl) ?_
        refine OJ.kld (d := 56) (T := 59) (y := .tmp 12) (cd := c_weirref3_Port) (j := 0) (b := b4) (o := 0) r8.1 (pend2 := [⟨1, 59, (pt b4 0), c_weirref3_Port.val r8.1⟩]) (by kernel_rfl) (by kernel_rfl) Ty59 (by kernel_rfl) rfl (At.whole _) (by kernel_rfl) rfl ?_
        refine OJ.build (d := 57) (T := 62) (parts := [(0, .tmp 55), (1, .tmp 56)]) (ps := [(0, cP.val r7.1), (1, c_weirref3_Port.val r8.1)]) (cd := c_weirlaw3_Side) (z0 := z_weirlaw3_Side) (⟨r7.1, r8.1, z_weirlaw3_Side.W⟩ : weirlaw3_Side) (by kernel_rfl) (by kernel_rfl) Ty62 rfl (by kernel_rfl) (Filled.cons (cd := cP) (q := r7.1) (o := 0) (by kernel_rfl) (Up_weirlaw3_Side_P z_weirlaw3_Side r7.1) (Filled.cons (cd := c_weirref3_Port) (q := r8.1) (o := 1) (by kernel_rfl) (Up_weirlaw3_Side_R (⟨r7.1, z_weirlaw3_Side.R, z_weirlaw3_Side.W⟩ : weirlaw3_Side) r8.1) Filled.nil)) (by kernel_rfl) (by kernel_rfl) (by kernel_rfl) ?_
        refine OJ.run [3, 4, 5] [6, 7, 8, 9, 10, 11] [8, 11, 57, 60] (m2 := [(8, .pointer (some (pt b1 0))), (11, .int .i64 r7.2), (57, c_weirlaw3_Side.val (⟨r7.1, r8.1, z_weirlaw3_Side.W⟩ : weirlaw3_Side)), (60, .bool (!(Option.isNone r7.1)))]) (by kernel_rfl) (by kernel_rfl) ?_
        refine OJ.join (b := (!(Option.isNone r7.1))) [6, 7, 8, 9] [10, 11] [8, 57, 64] (fun y10 => [(8, .pointer (some (pt b1 0))), (57, c_weirlaw3_Side.val (⟨r7.1, r8.1, z_weirlaw3_Side.W⟩ : weirlaw3_Side)), (64, .bool y10)]) [⟨1, 59, (pt b4 0), c_weirref3_Port.val r8.1⟩] [] (by kernel_rfl) (t := 60) (by kernel_rfl) (bnot_iff Option.isNone_iff_eq_none) (fun hp_ => ?_) (fun hp_ => ?_) (by kernel_rfl) (fun _ _ _ _ _ _ h_ => h_) (fun y10 => ?_)
        · refine OJ.run [6] [7, 8, 9] [8, 57, 60, 61] (m2 := [(8, .pointer (some (pt b1 0))), (57, c_weirlaw3_Side.val (⟨r7.1, r8.1, z_weirlaw3_Side.W⟩ : weirlaw3_Side)), (60, .bool true), (61, .int .i64 r7.2)]) (by kernel_rfl) (by kernel_rfl) ?_
          refine OJ.call (d := 62) (g := 14) (ats := #[24]) (args := [.tmp 61]) (vals := [.int .i64 r7.2]) (owed := [⟨1, 59, (pt b4 0), c_weirref3_Port.val r8.1⟩]) (by kernel_rfl) F14 (by kernel_rfl) (weirlaw3_num_ok r7.2) (by kernel_rfl) (by kernel_rfl) (by kernel_rfl) (fun r9 => ?_)
          refine OW.known (j := 0) (q := r8.1) Ty59 rfl (At.whole _) ?_
          refine OW.nil ?_
          refine OJ.run [8, 9] [] [8, 57, 64] (m2 := [(8, .pointer (some (pt b1 0))), (57, c_weirlaw3_Side.val (⟨r7.1, r8.1, z_weirlaw3_Side.W⟩ : weirlaw3_Side)), (64, .bool (r9 == 0))]) (by kernel_rfl) (by kernel_rfl) ?_
          exact OJ.nil ⟨(Cov.mem (Cov.keep (List.mem_of_getElem? (i := 0) rfl) Cov.nil)), rfl, _, rfl, by kernel_rfl⟩
        · refine OJ.run [6, 7, 8, 9] [] [8, 57, 64] (m2 := [(8, .pointer (some (pt b1 0))), (57, c_weirlaw3_Side.val (⟨r7.1, r8.1, z_weirlaw3_Side.W⟩ : weirlaw3_Side)), (64, .bool false)]) (by kernel_rfl) (by kernel_rfl) ?_
          exact OJ.nil ⟨(Cov.mem (Cov.keep (List.mem_of_getElem? (i := 0) rfl) Cov.nil)), rfl, _, rfl, by kernel_rfl⟩
        · refine OJ.kst (T := 62) (y := .tmp 8) (z := .tmp 57) (cd := c_weirlaw3_Side) (u := (⟨r7.1, r8.1, z_weirlaw3_Side.W⟩ : weirlaw3_Side)) (j := 1) (b := b1) (o := 0) (c_weirlaw3_Side.enc (⟨r7.1, r8.1, z_weirlaw3_Side.W⟩ : weirlaw3_Side)) (h2 := [(b4, c_weirref3_Port.enc r8.1), (b1, c_weirlaw3_Side.enc (⟨r7.1, r8.1, z_weirlaw3_Side.W⟩ : weirlaw3_Side))]) (owed := []) (by kernel_rfl) (by kernel_rfl) (by kernel_rfl) Ty62 rfl (Upd.whole ((Cod.len _ _).trans (Cod.len _ _).symm)) (by kernel_rfl) (by kernel_rfl) rfl ?_
          refine OW.nil ?_
          refine OJ.run [11] [] [8, 9] (m2 := [(8, .pointer (some (pt b1 0))), (9, .bool y10)]) (by kernel_rfl) (by kernel_rfl) ?_
          refine OJ.nil ?_
          exact SJ.ret (by kernel_rfl) rfl (Res.run (ys := [c_weirlaw3_Side.val (⟨r7.1, r8.1, z_weirlaw3_Side.W⟩ : weirlaw3_Side), .bool y10]) (.cell (j := 1) (b := b1) (cd := c_weirlaw3_Side) (q := (⟨r7.1, r8.1, z_weirlaw3_Side.W⟩ : weirlaw3_Side)) (by kernel_rfl) rfl Ty62 (At.whole _) (.tmp (by kernel_rfl) .nil)) rfl)

/-! ### weir/weirlaw3.wide: function 20 -/
noncomputable def weirlaw3_wide.B : Code := (Try.f20.body).getD .skip
noncomputable def weirlaw3_wide.cx : Fx := ⟨Try.prog, 20, Try.f20⟩
noncomputable def weirlaw3_wide.out (r_ : Sl) : Value := Sl.v r_
noncomputable def weirlaw3_wide.F0 (r_ : Sl) : Reach := .ret (weirlaw3_wide.out r_)
noncomputable def weirlaw3_wide (a0 : Sl) : M Sl :=
  appS (cI .u8) 5 1 0 Sl.nil a0 >>= fun r1 =>
  slot 5 >>= fun b2 =>
  appl (cI .u8) 5 1 0 r1 [91, 92, 93] >>= fun r3 =>
  pure r3
theorem weirlaw3_wide_ok (a0 : Sl) : Ref Try.prog 20 [Sl.v a0] (weirlaw3_wide a0) weirlaw3_wide.out := by
  refine Ref.of (cd := weirlaw3_wide.B) Try.func20 (by kernel_rfl) (by kernel_rfl) ?_
  show SJ weirlaw3_wide.cx [.code weirlaw3_wide.B] [(0, Sl.v a0)] [] (weirlaw3_wide a0) weirlaw3_wide.F0
  unfold weirlaw3_wide
  refine SJ.seq (by kernel_rfl) ?_
  refine SJ.region (id := 0) (by kernel_rfl) [0] (by kernel_rfl) ?_
  refine OJ.run [0] [] [0] (m2 := [(0, Sl.v a0)]) (by kernel_rfl) (by kernel_rfl) ?_
  refine OJ.nil ?_
  refine SJ.seq (by kernel_rfl) ?_
  refine SJ.region (id := 1) (by kernel_rfl) [0] (by kernel_rfl) ?_
  refine OJ.run [0] [] [0, 3] (m2 := [(0, Sl.v a0), (3, Sl.v Sl.nil)]) (by kernel_rfl) (by kernel_rfl) ?_
  refine OJ.nil ?_
  refine SJ.seq (by kernel_rfl) ?_
  refine SJ.region (id := 2) (by kernel_rfl) [0, 1, 2, 3] (by kernel_rfl) ?_
  refine OJ.run [0, 1] [2, 3] [3, 4, 5] (m2 := [(3, Sl.v Sl.nil), (4, Sl.v Sl.nil), (5, Sl.v a0)]) (by kernel_rfl) (by kernel_rfl) ?_
  refine OJ.appS (d := 6) (t := 22) (u := 22) (so := .tmp 4) (xo := .tmp 5) (owed := []) (by kernel_rfl) (by kernel_rfl) (by kernel_rfl) Ty5 (by kernel_rfl) (by kernel_rfl) (by kernel_rfl) (by kernel_rfl) (by kernel_rfl) (by kernel_rfl) (fun r1 => ?_)
  refine OW.nil ?_
  refine OJ.run [3] [] [3] (m2 := [(3, Sl.v r1)]) (by kernel_rfl) (by kernel_rfl) ?_
  refine OJ.nil ?_
  refine SJ.seq (by kernel_rfl) ?_
  refine SJ.region (id := 3) (by kernel_rfl) [0, 1, 2, 3] (by kernel_rfl) ?_
  refine OJ.run [0] [1, 2, 3] [7] (m2 := [(7, Sl.v r1)]) (by kernel_rfl) (by kernel_rfl) ?_
  refine OJ.rowSlot (d := 8) (t := 22) (parts := [(0, .const (.int .u8 91)), (1, .const (.int .u8 92)), (2, .const (.int .u8 93))]) (ps := [(0, (cI .u8).val 91), (1, (cI .u8).val 92), (2, (cI .u8).val 93)]) (cd := (cI .u8)) (⟨[91, 92, 93], rfl⟩ : Vec Int 3) (owed := []) (by kernel_rfl) (by kernel_rfl) (by kernel_rfl) Ty5 (by kernel_rfl) (Filled.cons (cd := (cI .u8)) (q := 91) (o := 0) rfl (Upd.arr (i := 0) (by decide) (by decide)) (Filled.cons (cd := (cI .u8)) (q := 92) (o := 1) rfl (Upd.arr (i := 1) (by decide) (by decide)) (Filled.cons (cd := (cI .u8)) (q := 93) (o := 2) rfl (Upd.arr (i := 2) (by decide) (by decide)) Filled.nil))) (by kernel_rfl) (by kernel_rfl) (by kernel_rfl) (fun b2 => ?_)
  refine OW.nil ?_
  refine OJ.appl (d := 9) (t := 22) (u := 22) (so := .tmp 7) (xo := .tmp 8) (j := 0) (b := b2) (l := ((cI .u8).arr 3).enc (⟨[91, 92, 93], rfl⟩ : Vec Int 3)) (n := 3) (k := 3) [91, 92, 93] (owed := []) (by kernel_rfl) (by kernel_rfl) (by kernel_rfl) Ty5 (by kernel_rfl) (by kernel_rfl) (by kernel_rfl) (by rfl) (Cod.arr_enc _ _ _) (by rfl) (by kernel_rfl) (by kernel_rfl) (by kernel_rfl) (fun r3 => ?_)
  refine OW.nil ?_
  refine OJ.run [3] [] [2] (m2 := [(2, Sl.v r3)]) (by kernel_rfl) (by kernel_rfl) ?_
  refine OJ.nil ?_
  exact SJ.ret (by kernel_rfl) rfl (Res.run (ys := [Sl.v r3]) (.tmp (by kernel_rfl) .nil) rfl)

/-! ### weir/weirref3.first: function 77 -/
noncomputable def weirref3_first.B : Code := (Try.f77.body).getD .skip
noncomputable def weirref3_first.cx : Fx := ⟨Try.prog, 77, Try.f77⟩
noncomputable def weirref3_first.out (r_ : Int) : Value := .int .i64 r_
noncomputable def weirref3_first.F0 (r_ : Int) : Reach := .ret (weirref3_first.out r_)
noncomputable def weirref3_first.F1 (a0 : weirref3_Port) (a1 : Int) (b1 : Nat) : (LS (Int × Int) Int) → Reach := loopF [.inLoop (c1 (c1 (c2 (c1 (c2 (c2 weirref3_first.B)))))), .inBlock 0, .code (c2 (c2 (c2 weirref3_first.B)))] (fun s_ : (Int × Int) => [(1, .int .i64 a1), (2, .pointer (some (pt b1 0))), (5, .int .i64 s_.1), (6, .int .i64 s_.2)]) (fun s_ : (Int × Int) => [(b1, c_weirref3_Port.enc a0)]) weirref3_first.F0
noncomputable def weirref3_first.L1 (a0 : weirref3_Port) (a1 : Int) (s2 : Int) (s3 : Int) : M (LS (Int × Int) Int) :=
  if s3 < (a0.L.len : Int) then
    draw >>= fun _ =>
    idx a0.L.a a0.L.len s3 4 >>= fun p14 =>
    ld (cI .i64) p14 >>= fun x15 =>
    (if x15 = a1 then
        (if s2 < 0 then
            pure true
          else
            idx a0.L.a a0.L.len s3 4 >>= fun p16 =>
            ld (cI .i64) (Addr.add p16 1) >>= fun x17 =>
            idx a0.L.a a0.L.len s2 4 >>= fun p18 =>
            ld (cI .i64) (Addr.add p18 1) >>= fun x19 =>
            pure (decide (x17 < x19))) >>= fun y20 =>
        pure y20
      else
        pure false) >>= fun y21 =>
    if y21 = true then
      pure (LS.next (s3, IntKind.wrap .i64 (s3 + 1)))
    else
      pure (LS.next (s2, IntKind.wrap .i64 (s3 + 1)))
  else
    pure (LS.done s2)
theorem weirref3_first.L1_ok (a0 : weirref3_Port) (a1 : Int) (b1 : Nat) (s2 : Int) (s3 : Int) :
    SJ weirref3_first.cx [.code (c1 (c1 (c2 (c1 (c2 (c2 weirref3_first.B)))))), .inLoop (c1 (c1 (c2 (c1 (c2 (c2 weirref3_first.B)))))), .inBlock 0, .code (c2 (c2 (c2 weirref3_first.B)))] [(1, .int .i64 a1), (2, .pointer (some (pt b1 0))), (5, .int .i64 s2), (6, .int .i64 s3)] [(b1, c_weirref3_Port.enc a0)] (weirref3_first.L1 a0 a1 s2 s3) (weirref3_first.F1 a0 a1 b1) := by
  unfold weirref3_first.L1
  refine SJ.seq (by kernel_rfl) ?_
  refine SJ.seq (by kernel_rfl) ?_
  refine SJ.region (id := 3) (by kernel_rfl) [0, 1, 2, 3, 4] (by kernel_rfl) ?_
  refine OJ.run [0, 1] [2, 3, 4] [1, 2, 5, 6, 7, 8] (m2 := [(1, .int .i64 a1), (2, .pointer (some (pt b1 0))), (5, .int .i64 s2), (6, .int .i64 s3), (7, .int .i64 s3), (8, .pointer (some (pt b1 3)))]) (by kernel_rfl) (by kernel_rfl) ?_
  refine OJ.kld (d := 9) (T := 57) (y := .tmp 8) (cd := cL) (j := 0) (b := b1) (o := 3) a0.L (pend2 := []) (by kernel_rfl) (by kernel_rfl) Ty57 (by kernel_rfl) rfl (At_weirref3_Port_L a0) (by kernel_rfl) rfl ?_
  refine OJ.run [3, 4] [] [1, 2, 5, 6, 11] (m2 := [(1, .int .i64 a1), (2, .pointer (some (pt b1 0))), (5, .int .i64 s2), (6, .int .i64 s3), (11, .bool (decide (s3 < (a0.L.len : Int))))]) (by kernel_rfl) (by kernel_rfl) ?_
  refine OJ.nil ?_
  refine SJ.cond (t := (.tmp 11)) (b := decide (s3 < (a0.L.len : Int))) (by kernel_rfl) (by kernel_rfl) decide_eq_true_iff (fun hc23 => ?_) (fun hc23 => ?_)
  · refine SJ.skip (by kernel_rfl) ?_
    refine SJ.seq (by kernel_rfl) ?_
    refine SJ.block (id := 1) (by kernel_rfl) ?_
    refine SJ.seq (by kernel_rfl) ?_
    refine SJ.draw (id := 5) (kd := [0, 1, 0, 0, 0, 1, 0, 0, 0, 0, 0, 0, 0, 1, 0, 0, 0, 1, 0, 1, 0, 0, 0, 1, 0, 0, 0]) (bef := [0, 1, 0, 7, 15, 31, 0, 127, 255, 511, 1023, 2047, 4095, 8191, 4095, 32767, 65535, 131071, 4095, 266239, 4095, 1839103, 3936255, 8130559, 16777215, 33554431, 67108863]) (ord := [0, 1, 2, 3, 4, 5, 6, 7, 8, 9, 10, 11, 12, 13, 14, 15, 16, 17, 18, 19, 20, 21, 22, 23, 24, 25, 26]) (by kernel_rfl) mixed (by kernel_rfl) ?_
    refine OJ.run [0] [1, 2, 3, 4, 5, 6, 7, 8, 9, 10, 11, 12, 13, 14, 15, 16, 17, 18, 19, 20, 21, 22, 23, 24, 25, 26] [1, 2, 5, 6, 14] (m2 := [(1, .int .i64 a1), (2, .pointer (some (pt b1 0))), (5, .int .i64 s2), (6, .int .i64 s3), (14, .pointer (some (pt b1 3)))]) (by kernel_rfl) (by kernel_rfl) ?_
    refine OJ.kld (d := 15) (T := 57) (y := .tmp 14) (cd := cL) (j := 0) (b := b1) (o := 3) a0.L (pend2 := [⟨1, 57, (pt b1 3), cL.val a0.L⟩]) (by kernel_rfl) (by kernel_rfl) Ty57 (by kernel_rfl) rfl (At_weirref3_Port_L a0) (by kernel_rfl) rfl ?_
    refine OJ.run [2] [3, 4, 5, 6, 7, 8, 9, 10, 11, 12, 13, 14, 15, 16, 17, 18, 19, 20, 21, 22, 23, 24, 25, 26] [1, 2, 5, 6, 15, 16] (m2 := [(1, .int .i64 a1), (2, .pointer (some (pt b1 0))), (5, .int .i64 s2), (6, .int .i64 s3), (15, Sl.v a0.L), (16, .int .i64 s3)]) (by kernel_rfl) (by kernel_rfl) ?_
    refine OJ.idxS (d := 17) (T := 57) (y := .tmp 15) (j := .tmp 16) (E := 110) (cap := a0.L.cap) (k := .i64) (by kernel_rfl) (by kernel_rfl) (by kernel_rfl) (by kernel_rfl) (by kernel_rfl) (by kernel_rfl) (by kernel_rfl) (by kernel_rfl) (fun p14 => ?_)
    refine OJ.run [4] [5, 6, 7, 8, 9, 10, 11, 12, 13, 14, 15, 16, 17, 18, 19, 20, 21, 22, 23, 24, 25, 26] [1, 2, 5, 6, 18] (m2 := [(1, .int .i64 a1), (2, .pointer (some (pt b1 0))), (5, .int .i64 s2), (6, .int .i64 s3), (18, .pointer (some p14))]) (by kernel_rfl) (by kernel_rfl) ?_
    refine OJ.ld (d := 19) (T := 3) (y := .tmp 18) (pend2 := fun x15 => [⟨5, 3, p14, (cI .i64).val x15⟩, ⟨1, 57, (pt b1 3), cL.val a0.L⟩]) (by kernel_rfl) (by kernel_rfl) Ty3 (by kernel_rfl) (by kernel_rfl) (fun _ => rfl) (fun x15 => ?_)
    refine OJ.run [6, 7, 8] [9, 10, 11, 12, 13, 14, 15, 16, 17, 18, 19, 20, 21, 22, 23, 24, 25, 26] [1, 2, 5, 6, 22] (m2 := [(1, .int .i64 a1), (2, .pointer (some (pt b1 0))), (5, .int .i64 s2), (6, .int .i64 s3), (22, .bool (x15 == a1))]) (by kernel_rfl) (by kernel_rfl) ?_
    refine OJ.join (b := (x15 == a1)) [9, 10, 11, 12, 13, 14, 15, 16, 17, 18, 19, 20, 21, 22, 23, 24, 25, 26] [] [1, 2, 5, 6, 40] (fun y21 => [(1, .int .i64 a1), (2, .pointer (some (pt b1 0))), (5, .int .i64 s2), (6, .int .i64 s3), (40, .bool y21)]) [⟨19, 57, (pt b1 3), cL.val a0.L⟩, ⟨13, 57, (pt b1 3), cL.val a0.L⟩, ⟨5, 3, p14, (cI .i64).val x15⟩, ⟨1, 57, (pt b1 3), cL.val a0.L⟩] [17, 23] (by kernel_rfl) (t := 22) (by kernel_rfl) beq_iff_eq (fun hp_ => ?_) (fun hp_ => ?_) (by kernel_rfl) (fun _ _ _ _ _ _ h_ => h_) (fun y21 => ?_)
    · refine OJ.run [9, 10, 11] [12, 13, 14, 15, 16, 17, 18, 19, 20, 21, 22, 23, 24, 25, 26] [1, 2, 5, 6, 22, 25] (m2 := [(1, .int .i64 a1), (2, .pointer (some (pt b1 0))), (5, .int .i64 s2), (6, .int .i64 s3), (22, .bool true), (25, .bool (decide (s2 < 0)))]) (by kernel_rfl) (by kernel_rfl) ?_
      refine OJ.join (b := decide (s2 < 0)) [12, 13, 14, 15, 16, 17, 18, 19, 20, 21, 22, 23, 24, 25] [26] [1, 2, 5, 6, 22, 39] (fun y20 => [(1, .int .i64 a1), (2, .pointer (some (pt b1 0))), (5, .int .i64 s2), (6, .int .i64 s3), (22, .bool true), (39, .bool y20)]) [⟨19, 57, (pt b1 3), cL.val a0.L⟩, ⟨13, 57, (pt b1 3), cL.val a0.L⟩, ⟨5, 3, p14, (cI .i64).val x15⟩, ⟨1, 57, (pt b1 3), cL.val a0.L⟩] [17, 23] (by kernel_rfl) (t := 25) (by kernel_rfl) decide_eq_true_iff (fun hp_ => ?_) (fun hp_ => ?_) (by kernel_rfl) (fun _ _ _ _ _ hq_ h_ => ⟨fun e_ he_ => by rcases hq_ e_ he_ with h | h; exact h_.1 e_ h; exact .inr ((by decide : ∀ i ∈ [17, 23], i ∈ [17, 23]) _ h), h_.2⟩) (fun y20 => ?_)
      · refine OJ.run [12, 13, 14, 15, 16, 17, 18, 19, 20, 21, 22, 23, 24, 25] [] [1, 2, 5, 6, 22, 39] (m2 := [(1, .int .i64 a1), (2, .pointer (some (pt b1 0))), (5, .int .i64 s2), (6, .int .i64 s3), (22, .bool true), (39, .bool true)]) (by kernel_rfl) (by kernel_rfl) ?_
        exact OJ.nil ⟨(Cov.mem (Cov.keep (List.mem_of_getElem? (i := 2) rfl) (Cov.keep (List.mem_of_getElem? (i := 3) rfl) Cov.nil))), rfl, _, rfl, by kernel_rfl⟩
      · refine OJ.run [12] [13, 14, 15, 16, 17, 18, 19, 20, 21, 22, 23, 24, 25] [1, 2, 5, 6, 22, 25, 26] (m2 := [(1, .int .i64 a1), (2, .pointer (some (pt b1 0))), (5, .int .i64 s2), (6, .int .i64 s3), (22, .bool true), (25, .bool false), (26, .pointer (some (pt b1 3)))]) (by kernel_rfl) (by kernel_rfl) ?_
        refine OJ.kld (d := 27) (T := 57) (y := .tmp 26) (cd := cL) (j := 0) (b := b1) (o := 3) a0.L (pend2 := [⟨13, 57, (pt b1 3), cL.val a0.L⟩, ⟨5, 3, p14, (cI .i64).val x15⟩, ⟨1, 57, (pt b1 3), cL.val a0.L⟩]) (by kernel_rfl) (by kernel_rfl) Ty57 (by kernel_rfl) rfl (At_weirref3_Port_L a0) (by kernel_rfl) rfl ?_
        refine OJ.run [14] [15, 16, 17, 18, 19, 20, 21, 22, 23, 24, 25] [1, 2, 5, 6, 22, 25, 27, 28] (m2 := [(1, .int .i64 a1), (2, .pointer (some (pt b1 0))), (5, .int .i64 s2), (6, .int .i64 s3), (22, .bool true), (25, .bool false), (27, Sl.v a0.L), (28, .int .i64 s3)]) (by kernel_rfl) (by kernel_rfl) ?_
        refine OJ.idxS (d := 29) (T := 57) (y := .tmp 27) (j := .tmp 28) (E := 110) (cap := a0.L.cap) (k := .i64) (by kernel_rfl) (by kernel_rfl) (by kernel_rfl) (by kernel_rfl) (by kernel_rfl) (by kernel_rfl) (by kernel_rfl) (by kernel_rfl) (fun p16 => ?_)
        refine OJ.run [16] [17, 18, 19, 20, 21, 22, 23, 24, 25] [1, 2, 5, 6, 22, 25, 30] (m2 := [(1, .int .i64 a1), (2, .pointer (some (pt b1 0))), (5, .int .i64 s2), (6, .int .i64 s3), (22, .bool true), (25, .bool false), (30, .pointer (some (Addr.add p16 1)))]) (by kernel_rfl) (by kernel_rfl) ?_
        refine OJ.ld (d := 31) (T := 3) (y := .tmp 30) (pend2 := fun x17 => [⟨17, 3, (Addr.add p16 1), (cI .i64).val x17⟩, ⟨13, 57, (pt b1 3), cL.val a0.L⟩, ⟨5, 3, p14, (cI .i64).val x15⟩, ⟨1, 57, (pt b1 3), cL.val a0.L⟩]) (by kernel_rfl) (by kernel_rfl) Ty3 (by kernel_rfl) (by kernel_rfl) (fun _ => rfl) (fun x17 => ?_)
        refine OJ.run [18] [19, 20, 21, 22, 23, 24, 25] [1, 2, 5, 6, 22, 25, 31, 32] (m2 := [(1, .int .i64 a1), (2, .pointer (some (pt b1 0))), (5, .int .i64 s2), (6, .int .i64 s3), (22, .bool true), (25, .bool false), (31, .int .i64 x17), (32, .pointer (some (pt b1 3)))]) (by kernel_rfl) (by kernel_rfl) ?_
        refine OJ.kld (d := 33) (T := 57) (y := .tmp 32) (cd := cL) (j := 0) (b := b1) (o := 3) a0.L (pend2 := [⟨19, 57, (pt b1 3), cL.val a0.L⟩, ⟨17, 3, (Addr.add p16 1), (cI .i64).val x17⟩, ⟨13, 57, (pt b1 3), cL.val a0.L⟩, ⟨5, 3, p14, (cI .i64).val x15⟩, ⟨1, 57, (pt b1 3), cL.val a0.L⟩]) (by kernel_rfl) (by kernel_rfl) Ty57 (by kernel_rfl) rfl (At_weirref3_Port_L a0) (by kernel_rfl) rfl ?_
        refine OJ.run [20] [21, 22, 23, 24, 25] [1, 2, 5, 6, 22, 25, 31, 33, 34] (m2 := [(1, .int .i64 a1), (2, .pointer (some (pt b1 0))), (5, .int .i64 s2), (6, .int .i64 s3), (22, .bool true), (25, .bool false), (31, .int .i64 x17), (33, Sl.v a0.L), (34, .int .i64 s2)]) (by kernel_rfl) (by kernel_rfl) ?_
        refine OJ.idxS (d := 35) (T := 57) (y := .tmp 33) (j := .tmp 34) (E := 110) (cap := a0.L.cap) (k := .i64) (by kernel_rfl) (by kernel_rfl) (by kernel_rfl) (by kernel_rfl) (by kernel_rfl) (by kernel_rfl) (by kernel_rfl) (by kernel_rfl) (fun p18 => ?_)
        refine OJ.run [22] [23, 24, 25] [1, 2, 5, 6, 22, 25, 31, 36] (m2 := [(1, .int .i64 a1), (2, .pointer (some (pt b1 0))), (5, .int .i64 s2), (6, .int .i64 s3), (22, .bool true), (25, .bool false), (31, .int .i64 x17), (36, .pointer (some (Addr.add p18 1)))]) (by kernel_rfl) (by kernel_rfl) ?_
        refine OJ.ld (d := 37) (T := 3) (y := .tmp 36) (pend2 := fun x19 => [⟨23, 3, (Addr.add p18 1), (cI .i64).val x19⟩, ⟨19, 57, (pt b1 3), cL.val a0.L⟩, ⟨17, 3, (Addr.add p16 1), (cI .i64).val x17⟩, ⟨13, 57, (pt b1 3), cL.val a0.L⟩, ⟨5, 3, p14, (cI .i64).val x15⟩, ⟨1, 57, (pt b1 3), cL.val a0.L⟩]) (by kernel_rfl) (by kernel_rfl) Ty3 (by kernel_rfl) (by kernel_rfl) (fun _ => rfl) (fun x19 => ?_)
        refine OJ.run [24, 25] [] [1, 2, 5, 6, 22, 39] (m2 := [(1, .int .i64 a1), (2, .pointer (some (pt b1 0))), (5, .int .i64 s2), (6, .int .i64 s3), (22, .bool true), (39, .bool (decide (x17 < x19)))]) (by kernel_rfl) (by kernel_rfl) ?_
        exact OJ.nil ⟨(Cov.mem (Cov.drop (List.mem_of_getElem? (i := 1) rfl) (Cov.keep (List.mem_of_getElem? (i := 0) rfl) (Cov.drop (List.mem_of_getElem? (i := 0) rfl) (Cov.keep (List.mem_of_getElem? (i := 1) rfl) (Cov.keep (List.mem_of_getElem? (i := 2) rfl) (Cov.keep (List.mem_of_getElem? (i := 3) rfl) Cov.nil))))))), rfl, _, rfl, by kernel_rfl⟩
      · refine OJ.run [26] [] [1, 2, 5, 6, 40] (m2 := [(1, .int .i64 a1), (2, .pointer (some (pt b1 0))), (5, .int .i64 s2), (6, .int .i64 s3), (40, .bool y20)]) (by kernel_rfl) (by kernel_rfl) ?_
        exact OJ.nil ⟨(Cov.mem (Cov.keep (List.mem_of_getElem? (i := 0) rfl) (Cov.keep (List.mem_of_getElem? (i := 1) rfl) (Cov.keep (List.mem_of_getElem? (i := 2) rfl) (Cov.keep (List.mem_of_getElem? (i := 3) rfl) Cov.nil))))), rfl, _, rfl, by kernel_rfl⟩
    · refine OJ.run [9, 10, 11, 12, 13, 14, 15, 16, 17, 18, 19, 20, 21, 22, 23, 24, 25, 26] [] [1, 2, 5, 6, 40] (m2 := [(1, .int .i64 a1), (2, .pointer (some (pt b1 0))), (5, .int .i64 s2), (6, .int .i64 s3), (40, .bool false)]) (by kernel_rfl) (by kernel_rfl) ?_
      exact OJ.nil ⟨(Cov.mem (Cov.keep (List.mem_of_getElem? (i := 2) rfl) (Cov.keep (List.mem_of_getElem? (i := 3) rfl) Cov.nil))), rfl, _, rfl, by kernel_rfl⟩
    · refine OJ.nil ?_
      refine SJ.cond (t := (.tmp 40)) (b := y21) (by kernel_rfl) (by kernel_rfl) Iff.rfl (fun hc22 => ?_) (fun hc22 => ?_)
      · refine SJ.region (id := 6) (by kernel_rfl) [0, 1] (by kernel_rfl) ?_
        refine OJ.run [0, 1] [] [1, 2, 5, 6] (m2 := [(1, .int .i64 a1), (2, .pointer (some (pt b1 0))), (5, .int .i64 s3), (6, .int .i64 s3)]) (by kernel_rfl) (by kernel_rfl) ?_
        refine OJ.nil ?_
        refine SJ.inBlock ?_
        refine SJ.region (id := 4) (by kernel_rfl) [0, 1, 2] (by kernel_rfl) ?_
        refine OJ.run [0, 1, 2] [] [1, 2, 5, 6] (m2 := [(1, .int .i64 a1), (2, .pointer (some (pt b1 0))), (5, .int .i64 s3), (6, .int .i64 (IntKind.wrap .i64 (s3 + 1)))]) (by kernel_rfl) (by kernel_rfl) ?_
        refine OJ.nil ?_
        exact SJ.at_ [1, 2, 5, 6] rfl (by kernel_rfl)
      · refine SJ.skip (by kernel_rfl) ?_
        refine SJ.inBlock ?_
        refine SJ.region (id := 4) (by kernel_rfl) [0, 1, 2] (by kernel_rfl) ?_
        refine OJ.run [0, 1, 2] [] [1, 2, 5, 6] (m2 := [(1, .int .i64 a1), (2, .pointer (some (pt b1 0))), (5, .int .i64 s2), (6, .int .i64 (IntKind.wrap .i64 (s3 + 1)))]) (by kernel_rfl) (by kernel_rfl) ?_
        refine OJ.nil ?_
        exact SJ.at_ [1, 2, 5, 6] rfl (by kernel_rfl)
  · refine SJ.exit (id := 0) (by kernel_rfl) (by rfl) ?_
    refine SJ.seq (by kernel_rfl) ?_
    refine SJ.region (id := 7) (by kernel_rfl) [0, 1] (by kernel_rfl) ?_
    refine OJ.run [0, 1] [] [4] (m2 := [(4, .int .i64 s2)]) (by kernel_rfl) (by kernel_rfl) ?_
    refine OJ.nil ?_
    exact SJ.ret (by kernel_rfl) rfl (Res.run (ys := [.int .i64 s2]) (.tmp (by kernel_rfl) .nil) rfl)
noncomputable def weirref3_first (a0 : weirref3_Port) (a1 : Int) : M Int :=
  slot 59 >>= fun b1 =>
  loopM (fun s_ : (Int × Int) => weirref3_first.L1 a0 a1 s_.1 s_.2) ((-1), 0)
theorem weirref3_first_ok (a0 : weirref3_Port) (a1 : Int) : Ref Try.prog 77 [c_weirref3_Port.val a0, .int .i64 a1] (weirref3_first a0 a1) weirref3_first.out := by
  refine Ref.of (cd := weirref3_first.B) Try.func77 (by kernel_rfl) (by kernel_rfl) ?_
  show SJ weirref3_first.cx [.code weirref3_first.B] [(0, c_weirref3_Port.val a0), (1, .int .i64 a1)] [] (weirref3_first a0 a1) weirref3_first.F0
  unfold weirref3_first
  refine SJ.seq (by kernel_rfl) ?_
  refine SJ.region (id := 0) (by kernel_rfl) [0, 1] (by kernel_rfl) ?_
  refine OJ.slotOf (d := 2) (op := (.box 59 (.tmp 0))) (cd := c_weirref3_Port) (u := a0) (owed := []) (by kernel_rfl) (box_run (by kernel_rfl)) (by kernel_rfl) (by kernel_rfl) (by kernel_rfl) (fun b1 => ?_)
  refine OW.nil ?_
  refine OJ.run [1] [] [1, 2] (m2 := [(1, .int .i64 a1), (2, .pointer (some (pt b1 0)))]) (by kernel_rfl) (by kernel_rfl) ?_
  refine OJ.nil ?_
  refine SJ.seq (by kernel_rfl) ?_
  refine SJ.region (id := 1) (by kernel_rfl) [0] (by kernel_rfl) ?_
  refine OJ.run [0] [] [1, 2, 5] (m2 := [(1, .int .i64 a1), (2, .pointer (some (pt b1 0))), (5, .int .i64 (-1))]) (by kernel_rfl) (by kernel_rfl) ?_
  refine OJ.nil ?_
  refine SJ.seq (by kernel_rfl) ?_
  refine SJ.seq (by kernel_rfl) ?_
  refine SJ.region (id := 2) (by kernel_rfl) [0] (by kernel_rfl) ?_
  refine OJ.run [0] [] [1, 2, 5, 6] (m2 := [(1, .int .i64 a1), (2, .pointer (some (pt b1 0))), (5, .int .i64 (-1)), (6, .int .i64 0)]) (by kernel_rfl) (by kernel_rfl) ?_
  refine OJ.nil ?_
  refine SJ.block (id := 0) (by kernel_rfl) ?_
  exact SJ.loop (fun s_ : (Int × Int) => [(1, .int .i64 a1), (2, .pointer (some (pt b1 0))), (5, .int .i64 s_.1), (6, .int .i64 s_.2)]) (fun s_ : (Int × Int) => [(b1, c_weirref3_Port.enc a0)]) [1, 2, 5, 6] (by kernel_rfl) (by kernel_rfl) rfl (fun _ _ => rfl) (fun s_ => weirref3_first.L1_ok a0 a1 b1 s_.1 s_.2)

/-! ### weir/weirref3.laid: function 78 -/
noncomputable def weirref3_laid.B : Code := (Try.f78.body).getD .skip
noncomputable def weirref3_laid.cx : Fx := ⟨Try.prog, 78, Try.f78⟩
noncomputable def weirref3_laid.out (r_ : Sl) : Value := Sl.v r_
noncomputable def weirref3_laid.F0 (r_ : Sl) : Reach := .ret (weirref3_laid.out r_)
noncomputable def weirref3_laid.F1 (a0 : Sl) : (LS (Sl × Int) Sl) → Reach := loopF [.inLoop (c1 (c1 (c2 (c1 (c2 (c2 (c2 weirref3_laid.B))))))), .inBlock 0, .code (c2 (c2 (c2 (c2 weirref3_laid.B))))] (fun s_ : (Sl × Int) => [(0, Sl.v a0), (5, Sl.v s_.1), (6, .int .i64 s_.2)]) (fun s_ : (Sl × Int) => []) weirref3_laid.F0
noncomputable def weirref3_laid.L1 (a0 : Sl) (s2 : Sl) (s3 : Int) : M (LS (Sl × Int) Sl) :=
  if s3 < (a0.len : Int) then
    idx a0.a a0.len s3 1 >>= fun p9 =>
    ld (cI .u8) p9 >>= fun x10 =>
    slot 5 >>= fun b11 =>
    appl (cI .u8) 5 1 0 s2 [x10] >>= fun r12 =>
    pure (LS.next (r12, IntKind.wrap .i64 (s3 + 1)))
  else
    pure (LS.done s2)
theorem weirref3_laid.L1_ok (a0 : Sl) (s2 : Sl) (s3 : Int) :
    SJ weirref3_laid.cx [.code (c1 (c1 (c2 (c1 (c2 (c2 (c2 weirref3_laid.B))))))), .inLoop (c1 (c1 (c2 (c1 (c2 (c2 (c2 weirref3_laid.B))))))), .inBlock 0, .code (c2 (c2 (c2 (c2 weirref3_laid.B))))] [(0, Sl.v a0), (5, Sl.v s2), (6, .int .i64 s3)] [] (weirref3_laid.L1 a0 s2 s3) (weirref3_laid.F1 a0) := by
  unfold weirref3_laid.L1
  refine SJ.seq (by kernel_rfl) ?_
  refine SJ.seq (by kernel_rfl) ?_
  refine SJ.region (id := 4) (by kernel_rfl) [0, 1, 2, 3] (by kernel_rfl) ?_
  refine OJ.run [0, 1, 2, 3] [] [0, 5, 6, 15] (m2 := [(0, Sl.v a0), (5, Sl.v s2), (6, .int .i64 s3), (15, .bool (decide (s3 < (a0.len : Int))))]) (by kernel_rfl) (by kernel_rfl) ?_
  refine OJ.nil ?_
  refine SJ.cond (t := (.tmp 15)) (b := decide (s3 < (a0.len : Int))) (by kernel_rfl) (by kernel_rfl) decide_eq_true_iff (fun hc13 => ?_) (fun hc13 => ?_)
  · refine SJ.skip (by kernel_rfl) ?_
    refine SJ.seq (by kernel_rfl) ?_
    refine SJ.block (id := 1) (by kernel_rfl) ?_
    refine SJ.region (id := 6) (by kernel_rfl) [0, 1, 2, 3, 4, 5, 6, 7] (by kernel_rfl) ?_
    refine OJ.run [0, 1, 2] [3, 4, 5, 6, 7] [0, 5, 6, 18, 19, 20] (m2 := [(0, Sl.v a0), (5, Sl.v s2), (6, .int .i64 s3), (18, Sl.v s2), (19, Sl.v a0), (20, .int .i64 s3)]) (by kernel_rfl) (by kernel_rfl) ?_
    refine OJ.idxS (d := 21) (T := 22) (y := .tmp 19) (j := .tmp 20) (E := 5) (cap := a0.cap) (k := .i64) (by kernel_rfl) (by kernel_rfl) (by kernel_rfl) (by kernel_rfl) (by kernel_rfl) (by kernel_rfl) (by kernel_rfl) (by kernel_rfl) (fun p9 => ?_)
    refine OJ.ld (d := 22) (T := 5) (y := .tmp 21) (pend2 := fun x10 => []) (by kernel_rfl) (by kernel_rfl) Ty5 (by kernel_rfl) (by kernel_rfl) (fun _ => rfl) (fun x10 => ?_)
    refine OJ.rowSlot (d := 23) (t := 22) (parts := [(0, .tmp 22)]) (ps := [(0, (cI .u8).val x10)]) (cd := (cI .u8)) (⟨[x10], rfl⟩ : Vec Int 1) (owed := []) (by kernel_rfl) (by kernel_rfl) (by kernel_rfl) Ty5 (by kernel_rfl) (Filled.cons (cd := (cI .u8)) (q := x10) (o := 0) rfl (Upd.arr (i := 0) (by decide) (by decide)) Filled.nil) (by kernel_rfl) (by kernel_rfl) (by kernel_rfl) (fun b11 => ?_)
    refine OW.nil ?_
    refine OJ.appl (d := 24) (t := 22) (u := 22) (so := .tmp 18) (xo := .tmp 23) (j := 0) (b := b11) (l := ((cI .u8).arr 1).enc (⟨[x10], rfl⟩ : Vec Int 1)) (n := 1) (k := 1) [x10] (owed := []) (by kernel_rfl) (by kernel_rfl) (by kernel_rfl) Ty5 (by kernel_rfl) (by kernel_rfl) (by kernel_rfl) (by rfl) (Cod.arr_enc _ _ _) (by rfl) (by kernel_rfl) (by kernel_rfl) (by kernel_rfl) (fun r12 => ?_)
    refine OW.nil ?_
    refine OJ.run [7] [] [0, 5, 6] (m2 := [(0, Sl.v a0), (5, Sl.v r12), (6, .int .i64 s3)]) (by kernel_rfl) (by kernel_rfl) ?_
    refine OJ.nil ?_
    refine SJ.inBlock ?_
    refine SJ.region (id := 5) (by kernel_rfl) [0, 1, 2] (by kernel_rfl) ?_
    refine OJ.run [0, 1, 2] [] [0, 5, 6] (m2 := [(0, Sl.v a0), (5, Sl.v r12), (6, .int .i64 (IntKind.wrap .i64 (s3 + 1)))]) (by kernel_rfl) (by kernel_rfl) ?_
    refine OJ.nil ?_
    refine SJ.forget (List.Sublist.cons _ List.Sublist.slnil) ?_
    exact SJ.at_ [0, 5, 6] rfl (by kernel_rfl)
  · refine SJ.exit (id := 0) (by kernel_rfl) (by rfl) ?_
    refine SJ.seq (by kernel_rfl) ?_
    refine SJ.region (id := 7) (by kernel_rfl) [0, 1] (by kernel_rfl) ?_
    refine OJ.run [0, 1] [] [4] (m2 := [(4, Sl.v s2)]) (by kernel_rfl) (by kernel_rfl) ?_
    refine OJ.nil ?_
    exact SJ.ret (by kernel_rfl) rfl (Res.run (ys := [Sl.v s2]) (.tmp (by kernel_rfl) .nil) rfl)
noncomputable def weirref3_laid (a0 : Sl) (a1 : Sl) : M Sl :=
  appS (cI .u8) 5 1 0 Sl.nil a1 >>= fun r1 =>
  loopM (fun s_ : (Sl × Int) => weirref3_laid.L1 a0 s_.1 s_.2) (r1, (a1.len : Int))
theorem weirref3_laid_ok (a0 : Sl) (a1 : Sl) : Ref Try.prog 78 [Sl.v a0, Sl.v a1] (weirref3_laid a0 a1) weirref3_laid.out := by
  refine Ref.of (cd := weirref3_laid.B) Try.func78 (by kernel_rfl) (by kernel_rfl) ?_
  show SJ weirref3_laid.cx [.code weirref3_laid.B] [(0, Sl.v a0), (1, Sl.v a1)] [] (weirref3_laid a0 a1) weirref3_laid.F0
  unfold weirref3_laid
  refine SJ.seq (by kernel_rfl) ?_
  refine SJ.region (id := 0) (by kernel_rfl) [0] (by kernel_rfl) ?_
  refine OJ.run [0] [] [0, 1] (m2 := [(0, Sl.v a0), (1, Sl.v a1)]) (by kernel_rfl) (by kernel_rfl) ?_
  refine OJ.nil ?_
  refine SJ.seq (by kernel_rfl) ?_
  refine SJ.region (id := 1) (by kernel_rfl) [0] (by kernel_rfl) ?_
  refine OJ.run [0] [] [0, 1, 5] (m2 := [(0, Sl.v a0), (1, Sl.v a1), (5, Sl.v Sl.nil)]) (by kernel_rfl) (by kernel_rfl) ?_
  refine OJ.nil ?_
  refine SJ.seq (by kernel_rfl) ?_
  refine SJ.region (id := 2) (by kernel_rfl) [0, 1, 2, 3] (by kernel_rfl) ?_
  refine OJ.run [0, 1] [2, 3] [0, 1, 5, 7, 8] (m2 := [(0, Sl.v a0), (1, Sl.v a1), (5, Sl.v Sl.nil), (7, Sl.v Sl.nil), (8, Sl.v a1)]) (by kernel_rfl) (by kernel_rfl) ?_
  refine OJ.appS (d := 9) (t := 22) (u := 22) (so := .tmp 7) (xo := .tmp 8) (owed := []) (by kernel_rfl) (by kernel_rfl) (by kernel_rfl) Ty5 (by kernel_rfl) (by kernel_rfl) (by kernel_rfl) (by kernel_rfl) (by kernel_rfl) (by kernel_rfl) (fun r1 => ?_)
  refine OW.nil ?_
  refine OJ.run [3] [] [0, 1, 5] (m2 := [(0, Sl.v a0), (1, Sl.v a1), (5, Sl.v r1)]) (by kernel_rfl) (by kernel_rfl) ?_
  refine OJ.nil ?_
  refine SJ.seq (by kernel_rfl) ?_
  refine SJ.seq (by kernel_rfl) ?_
  refine SJ.region (id := 3) (by kernel_rfl) [0, 1, 2] (by kernel_rfl) ?_
  refine OJ.run [0, 1, 2] [] [0, 5, 6] (m2 := [(0, Sl.v a0), (5, Sl.v r1), (6, .int .i64 (a1.len : Int))]) (by kernel_rfl) (by kernel_rfl) ?_
  refine OJ.nil ?_
  refine SJ.block (id := 0) (by kernel_rfl) ?_
  exact SJ.loop (fun s_ : (Sl × Int) => [(0, Sl.v a0), (5, Sl.v s_.1), (6, .int .i64 s_.2)]) (fun s_ : (Sl × Int) => []) [0, 5, 6] (by kernel_rfl) (by kernel_rfl) rfl (fun _ _ => rfl) (fun s_ => weirref3_laid.L1_ok a0 s_.1 s_.2)

/-! ### weir/weirref3.put: function 79 -/
noncomputable def weirref3_put.B : Code := (Try.f79.body).getD .skip
noncomputable def weirref3_put.cx : Fx := ⟨Try.prog, 79, Try.f79⟩
noncomputable def weirref3_put.out (r_ : weirref3_Port) : Value := c_weirref3_Port.val r_
noncomputable def weirref3_put.F0 (r_ : weirref3_Port) : Reach := .ret (weirref3_put.out r_)
noncomputable def weirref3_put (a0 : weirref3_Port) (a1 : Int) (a2 : weirref3_Buf) : M weirref3_Port :=
  slot 59 >>= fun b1 =>
  slot 110 >>= fun b2 =>
  slot 59 >>= fun b3 =>
  appS c_weirref3_Buf 110 48 z_weirref3_Buf Sl.nil a0.L >>= fun r4 =>
  idx r4.a r4.len a1 4 >>= fun p5 =>
  st c_weirref3_Buf p5 a2 >>= fun _ =>
  pure (⟨a0.Rx, a0.Tx, a0.Size, r4, a0.Now⟩ : weirref3_Port)
theorem weirref3_put_ok (a0 : weirref3_Port) (a1 : Int) (a2 : weirref3_Buf) : Ref Try.prog 79 [c_weirref3_Port.val a0, .int .i64 a1, c_weirref3_Buf.val a2] (weirref3_put a0 a1 a2) weirref3_put.out := by
  refine Ref.of (cd := weirref3_put.B) Try.func79 (by kernel_rfl) (by kernel_rfl) ?_
  show SJ weirref3_put.cx [.code weirref3_put.B] [(0, c_weirref3_Port.val a0), (1, .int .i64 a1), (2, c_weirref3_Buf.val a2)] [] (weirref3_put a0 a1 a2) weirref3_put.F0
  unfold weirref3_put
  refine SJ.seq (by kernel_rfl) ?_
  refine SJ.region (id := 0) (by kernel_rfl) [0, 1, 2] (by kernel_rfl) ?_
  refine OJ.slotOf (d := 3) (op := (.box 59 (.tmp 0))) (cd := c_weirref3_Port) (u := a0) (owed := []) (by kernel_rfl) (box_run (by kernel_rfl)) (by kernel_rfl) (by kernel_rfl) (by kernel_rfl) (fun b1 => ?_)
  refine OW.nil ?_
  refine OJ.slotOf (d := 5) (op := (.box 110 (.tmp 2))) (cd := c_weirref3_Buf) (u := a2) (owed := []) (by kernel_rfl) (box_run (by kernel_rfl)) (by kernel_rfl) (by kernel_rfl) (by kernel_rfl) (fun b2 => ?_)
  refine OW.nil ?_
  refine OJ.slotOf (d := 6) (op := (.alloc 59)) (cd := c_weirref3_Port) (u := z_weirref3_Port) (owed := []) (by kernel_rfl) (alloc_run Ty59) (by kernel_rfl) (by kernel_rfl) (by kernel_rfl) (fun b3 => ?_)
  refine OW.nil ?_
  refine OJ.nil ?_
  refine SJ.seq (by kernel_rfl) ?_
  refine SJ.region (id := 1) (by kernel_rfl) [0] (by kernel_rfl) ?_
  refine OJ.run [0] [] [1, 3, 5, 6, 7] (m2 := [(1, .int .i64 a1), (3, .pointer (some (pt b1 0))), (5, .pointer (some (pt b2 0))), (6, .pointer (some (pt b3 0))), (7, Sl.v Sl.nil)]) (by kernel_rfl) (by kernel_rfl) ?_
  refine OJ.nil ?_
  refine SJ.seq (by kernel_rfl) ?_
  refine SJ.region (id := 2) (by kernel_rfl) [0, 1, 2, 3, 4] (by kernel_rfl) ?_
  refine OJ.run [0, 1] [2, 3, 4] [1, 3, 5, 6, 7, 8, 9] (m2 := [(1, .int .i64 a1), (3, .pointer (some (pt b1 0))), (5, .pointer (some (pt b2 0))), (6, .pointer (some (pt b3 0))), (7, Sl.v Sl.nil), (8, Sl.v Sl.nil), (9, .pointer (some (pt b1 3)))]) (by kernel_rfl) (by kernel_rfl) ?_
  refine OJ.kld (d := 10) (T := 57) (y := .tmp 9) (cd := cL) (j := 2) (b := b1) (o := 3) a0.L (pend2 := []) (by kernel_rfl) (by kernel_rfl) Ty57 (by kernel_rfl) rfl (At_weirref3_Port_L a0) (by kernel_rfl) rfl ?_
  refine OJ.appS (d := 11) (t := 57) (u := 57) (so := .tmp 8) (xo := .tmp 10) (owed := []) (by kernel_rfl) (by kernel_rfl) (by kernel_rfl) Ty110 (by kernel_rfl) (by kernel_rfl) (by kernel_rfl) (by kernel_rfl) (by kernel_rfl) (by kernel_rfl) (fun r4 => ?_)
  refine OW.nil ?_
  refine OJ.run [4] [] [1, 3, 5, 6, 7] (m2 := [(1, .int .i64 a1), (3, .pointer (some (pt b1 0))), (5, .pointer (some (pt b2 0))), (6, .pointer (some (pt b3 0))), (7, Sl.v r4)]) (by kernel_rfl) (by kernel_rfl) ?_
  refine OJ.nil ?_
  refine SJ.seq (by kernel_rfl) ?_
  refine SJ.region (id := 3) (by kernel_rfl) [0, 1, 2, 3, 4] (by kernel_rfl) ?_
  refine OJ.run [0, 1] [2, 3, 4] [3, 5, 6, 7, 12, 13] (m2 := [(3, .pointer (some (pt b1 0))), (5, .pointer (some (pt b2 0))), (6, .pointer (some (pt b3 0))), (7, Sl.v r4), (12, Sl.v r4), (13, .int .i64 a1)]) (by kernel_rfl) (by kernel_rfl) ?_
  refine OJ.kld (d := 14) (T := 110) (y := .tmp 5) (cd := c_weirref3_Buf) (j := 1) (b := b2) (o := 0) a2 (pend2 := []) (by kernel_rfl) (by kernel_rfl) Ty110 (by kernel_rfl) rfl (At.whole _) (by kernel_rfl) rfl ?_
  refine OJ.idxS (d := 15) (T := 57) (y := .tmp 12) (j := .tmp 13) (E := 110) (cap := r4.cap) (k := .i64) (by kernel_rfl) (by kernel_rfl) (by kernel_rfl) (by kernel_rfl) (by kernel_rfl) (by kernel_rfl) (by kernel_rfl) (by kernel_rfl) (fun p5 => ?_)
  refine OJ.st (T := 110) (y := .tmp 15) (z := .tmp 14) (owed := []) (by kernel_rfl) (by kernel_rfl) (by kernel_rfl) Ty110 (by kernel_rfl) (by kernel_rfl) ?_
  refine OW.nil ?_
  refine OJ.nil ?_
  refine SJ.seq (by kernel_rfl) ?_
  refine SJ.region (id := 4) (by kernel_rfl) [0, 1, 2] (by kernel_rfl) ?_
  refine OJ.run [0, 1] [2] [3, 6, 16, 17] (m2 := [(3, .pointer (some (pt b1 0))), (6, .pointer (some (pt b3 0))), (16, Sl.v r4), (17, .pointer (some (pt b1 3)))]) (by kernel_rfl) (by kernel_rfl) ?_
  refine OJ.kst (T := 57) (y := .tmp 17) (z := .tmp 16) (cd := cL) (u := r4) (j := 2) (b := b1) (o := 3) (c_weirref3_Port.enc (⟨a0.Rx, a0.Tx, a0.Size, r4, a0.Now⟩ : weirref3_Port)) (h2 := [(b3, c_weirref3_Port.enc z_weirref3_Port), (b2, c_weirref3_Buf.enc a2), (b1, c_weirref3_Port.enc (⟨a0.Rx, a0.Tx, a0.Size, r4, a0.Now⟩ : weirref3_Port))]) (owed := []) (by kernel_rfl) (by kernel_rfl) (by kernel_rfl) Ty57 rfl (Up_weirref3_Port_L a0 r4) (by kernel_rfl) (by kernel_rfl) rfl ?_
  refine OW.nil ?_
  refine OJ.nil ?_
  refine SJ.seq (by kernel_rfl) ?_
  refine SJ.region (id := 5) (by kernel_rfl) [0, 1] (by kernel_rfl) ?_
  refine OJ.kld (d := 18) (T := 59) (y := .tmp 3) (cd := c_weirref3_Port) (j := 2) (b := b1) (o := 0) (⟨a0.Rx, a0.Tx, a0.Size, r4, a0.Now⟩ : weirref3_Port) (pend2 := []) (by kernel_rfl) (by kernel_rfl) Ty59 (by kernel_rfl) rfl (At.whole _) (by kernel_rfl) rfl ?_
  refine OJ.kst (T := 59) (y := .tmp 6) (z := .tmp 18) (cd := c_weirref3_Port) (u := (⟨a0.Rx, a0.Tx, a0.Size, r4, a0.Now⟩ : weirref3_Port)) (j := 0) (b := b3) (o := 0) (c_weirref3_Port.enc (⟨a0.Rx, a0.Tx, a0.Size, r4, a0.Now⟩ : weirref3_Port)) (h2 := [(b3, c_weirref3_Port.enc (⟨a0.Rx, a0.Tx, a0.Size, r4, a0.Now⟩ : weirref3_Port)), (b2, c_weirref3_Buf.enc a2), (b1, c_weirref3_Port.enc (⟨a0.Rx, a0.Tx, a0.Size, r4, a0.Now⟩ : weirref3_Port))]) (owed := []) (by kernel_rfl) (by kernel_rfl) (by kernel_rfl) Ty59 rfl (Upd.whole ((Cod.len _ _).trans (Cod.len _ _).symm)) (by kernel_rfl) (by kernel_rfl) rfl ?_
  refine OW.nil ?_
  refine OJ.nil ?_
  exact SJ.ret (by kernel_rfl) rfl (Res.run (ys := [c_weirref3_Port.val (⟨a0.Rx, a0.Tx, a0.Size, r4, a0.Now⟩ : weirref3_Port)]) (.cell (j := 0) (b := b3) (cd := c_weirref3_Port) (q := (⟨a0.Rx, a0.Tx, a0.Size, r4, a0.Now⟩ : weirref3_Port)) (by kernel_rfl) rfl Ty59 (At.whole _) .nil) rfl)

/-! ### weir/weirref3.moved: function 80 -/
noncomputable def weirref3_moved.B : Code := (Try.f80.body).getD .skip
noncomputable def weirref3_moved.cx : Fx := ⟨Try.prog, 80, Try.f80⟩
noncomputable def weirref3_moved.out (r_ : weirref3_Port) : Value := c_weirref3_Port.val r_
noncomputable def weirref3_moved.F0 (r_ : weirref3_Port) : Reach := .ret (weirref3_moved.out r_)
noncomputable def weirref3_moved (a0 : weirref3_Port) (a1 : Int) (a2 : Int) : M weirref3_Port :=
  slot 59 >>= fun b1 =>
  slot 59 >>= fun b2 =>
  idx a0.L.a a0.L.len a1 4 >>= fun p3 =>
  ld c_weirref3_Buf p3 >>= fun x4 =>
  slot 110 >>= fun b5 =>
  weirref3_put a0 a1 (⟨a2, a0.Now, x4.N, x4.Data⟩ : weirref3_Buf) >>= fun r6 =>
  pure (⟨r6.Rx, r6.Tx, r6.Size, r6.L, IntKind.wrap .i64 (r6.Now + 1)⟩ : weirref3_Port)
theorem weirref3_moved_ok (a0 : weirref3_Port) (a1 : Int) (a2 : Int) : Ref Try.prog 80 [c_weirref3_Port.val a0, .int .i64 a1, .int .i64 a2] (weirref3_moved a0 a1 a2) weirref3_moved.out := by
  refine Ref.of (cd := weirref3_moved.B) Try.func80 (by kernel_rfl) (by kernel_rfl) ?_
  show SJ weirref3_moved.cx [.code weirref3_moved.B] [(0, c_weirref3_Port.val a0), (1, .int .i64 a1), (2, .int .i64 a2)] [] (weirref3_moved a0 a1 a2) weirref3_moved.F0
  unfold weirref3_moved
  refine SJ.seq (by kernel_rfl) ?_
  refine SJ.region (id := 0) (by kernel_rfl) [0, 1] (by kernel_rfl) ?_
  refine OJ.slotOf (d := 3) (op := (.box 59 (.tmp 0))) (cd := c_weirref3_Port) (u := a0) (owed := []) (by kernel_rfl) (box_run (by kernel_rfl)) (by kernel_rfl) (by kernel_rfl) (by kernel_rfl) (fun b1 => ?_)
  refine OW.nil ?_
  refine OJ.slotOf (d := 6) (op := (.alloc 59)) (cd := c_weirref3_Port) (u := z_weirref3_Port) (owed := []) (by kernel_rfl) (alloc_run Ty59) (by kernel_rfl) (by kernel_rfl) (by kernel_rfl) (fun b2 => ?_)
  refine OW.nil ?_
  refine OJ.nil ?_
  refine SJ.seq (by kernel_rfl) ?_
  refine SJ.region (id := 1) (by kernel_rfl) [0, 1, 2, 3, 4, 5, 6] (by kernel_rfl) ?_
  refine OJ.run [0] [1, 2, 3, 4, 5, 6] [1, 2, 3, 6, 8] (m2 := [(1, .int .i64 a1), (2, .int .i64 a2), (3, .pointer (some (pt b1 0))), (6, .pointer (some (pt b2 0))), (8, .pointer (some (pt b1 3)))]) (by kernel_rfl) (by kernel_rfl) ?_
  refine OJ.kld (d := 9) (T := 57) (y := .tmp 8) (cd := cL) (j := 1) (b := b1) (o := 3) a0.L (pend2 := []) (by kernel_rfl) (by kernel_rfl) Ty57 (by kernel_rfl) rfl (At_weirref3_Port_L a0) (by kernel_rfl) rfl ?_
  refine OJ.run [2] [3, 4, 5, 6] [1, 2, 3, 6, 9, 10] (m2 := [(1, .int .i64 a1), (2, .int .i64 a2), (3, .pointer (some (pt b1 0))), (6, .pointer (some (pt b2 0))), (9, Sl.v a0.L), (10, .int .i64 a1)]) (by kernel_rfl) (by kernel_rfl) ?_
  refine OJ.idxS (d := 11) (T := 57) (y := .tmp 9) (j := .tmp 10) (E := 110) (cap := a0.L.cap) (k := .i64) (by kernel_rfl) (by kernel_rfl) (by kernel_rfl) (by kernel_rfl) (by kernel_rfl) (by kernel_rfl) (by kernel_rfl) (by kernel_rfl) (fun p3 => ?_)
  refine OJ.ld (d := 12) (T := 110) (y := .tmp 11) (pend2 := fun x4 => []) (by kernel_rfl) (by kernel_rfl) Ty110 (by kernel_rfl) (by kernel_rfl) (fun _ => rfl) (fun x4 => ?_)
  refine OJ.slotOf (d := 7) (op := (.alloc 110)) (cd := c_weirref3_Buf) (u := z_weirref3_Buf) (owed := []) (by kernel_rfl) (alloc_run Ty110) (by kernel_rfl) (by kernel_rfl) (by kernel_rfl) (fun b5 => ?_)
  refine OW.nil ?_
  refine OJ.kst (T := 110) (y := .tmp 7) (z := .tmp 12) (cd := c_weirref3_Buf) (u := x4) (j := 0) (b := b5) (o := 0) (c_weirref3_Buf.enc x4) (h2 := [(b5, c_weirref3_Buf.enc x4), (b2, c_weirref3_Port.enc z_weirref3_Port), (b1, c_weirref3_Port.enc a0)]) (owed := []) (by kernel_rfl) (by kernel_rfl) (by kernel_rfl) Ty110 rfl (Upd.whole ((Cod.len _ _).trans (Cod.len _ _).symm)) (by kernel_rfl) (by kernel_rfl) rfl ?_
  refine OW.nil ?_
  refine OJ.nil ?_
  refine SJ.seq (by kernel_rfl) ?_
  refine SJ.region (id := 2) (by kernel_rfl) [0, 1, 2] (by kernel_rfl) ?_
  refine OJ.run [0, 1] [2] [1, 3, 6, 7, 13, 14] (m2 := [(1, .int .i64 a1), (3, .pointer (some (pt b1 0))), (6, .pointer (some (pt b2 0))), (7, .pointer (some (pt b5 0))), (13, .int .i64 a2), (14, .pointer (some (pt b5 0)))]) (by kernel_rfl) (by kernel_rfl) ?_
  refine OJ.kst (T := 3) (y := .tmp 14) (z := .tmp 13) (cd := (cI .i64)) (u := a2) (j := 0) (b := b5) (o := 0) (c_weirref3_Buf.enc (⟨a2, x4.Since, x4.N, x4.Data⟩ : weirref3_Buf)) (h2 := [(b5, c_weirref3_Buf.enc (⟨a2, x4.Since, x4.N, x4.Data⟩ : weirref3_Buf)), (b2, c_weirref3_Port.enc z_weirref3_Port), (b1, c_weirref3_Port.enc a0)]) (owed := []) (by kernel_rfl) (by kernel_rfl) (by kernel_rfl) Ty3 rfl (Up_weirref3_Buf_Place x4 a2) (by kernel_rfl) (by kernel_rfl) rfl ?_
  refine OW.nil ?_
  refine OJ.nil ?_
  refine SJ.seq (by kernel_rfl) ?_
  refine SJ.region (id := 3) (by kernel_rfl) [0, 1, 2, 3] (by kernel_rfl) ?_
  refine OJ.run [0] [1, 2, 3] [1, 3, 6, 7, 15] (m2 := [(1, .int .i64 a1), (3, .pointer (some (pt b1 0))), (6, .pointer (some (pt b2 0))), (7, .pointer (some (pt b5 0))), (15, .pointer (some (pt b1 4)))]) (by kernel_rfl) (by kernel_rfl) ?_
  refine OJ.kld (d := 16) (T := 3) (y := .tmp 15) (cd := (cI .i64)) (j := 2) (b := b1) (o := 4) a0.Now (pend2 := []) (by kernel_rfl) (by kernel_rfl) Ty3 (by kernel_rfl) rfl (At_weirref3_Port_Now a0) (by kernel_rfl) rfl ?_
  refine OJ.run [2] [3] [1, 3, 6, 7, 16, 17] (m2 := [(1, .int .i64 a1), (3, .pointer (some (pt b1 0))), (6, .pointer (some (pt b2 0))), (7, .pointer (some (pt b5 0))), (16, .int .i64 a0.Now), (17, .pointer (some (pt b5 1)))]) (by kernel_rfl) (by kernel_rfl) ?_
  refine OJ.kst (T := 3) (y := .tmp 17) (z := .tmp 16) (cd := (cI .i64)) (u := a0.Now) (j := 0) (b := b5) (o := 1) (c_weirref3_Buf.enc (⟨a2, a0.Now, x4.N, x4.Data⟩ : weirref3_Buf)) (h2 := [(b5, c_weirref3_Buf.enc (⟨a2, a0.Now, x4.N, x4.Data⟩ : weirref3_Buf)), (b2, c_weirref3_Port.enc z_weirref3_Port), (b1, c_weirref3_Port.enc a0)]) (owed := []) (by kernel_rfl) (by kernel_rfl) (by kernel_rfl) Ty3 rfl (Up_weirref3_Buf_Since (⟨a2, x4.Since, x4.N, x4.Data⟩ : weirref3_Buf) a0.Now) (by kernel_rfl) (by kernel_rfl) rfl ?_
  refine OW.nil ?_
  refine OJ.nil ?_
  refine SJ.seq (by kernel_rfl) ?_
  refine SJ.region (id := 4) (by kernel_rfl) [0, 1, 2, 3, 4] (by kernel_rfl) ?_
  refine OJ.kld (d := 18) (T := 59) (y := .tmp 3) (cd := c_weirref3_Port) (j := 2) (b := b1) (o := 0) a0 (pend2 := []) (by kernel_rfl) (by kernel_rfl) Ty59 (by kernel_rfl) rfl (At.whole _) (by kernel_rfl) rfl ?_
  refine OJ.run [1] [2, 3, 4] [3, 6, 7, 18, 19] (m2 := [(3, .pointer (some (pt b1 0))), (6, .pointer (some (pt b2 0))), (7, .pointer (some (pt b5 0))), (18, c_weirref3_Port.val a0), (19, .int .i64 a1)]) (by kernel_rfl) (by kernel_rfl) ?_
  refine OJ.kld (d := 20) (T := 110) (y := .tmp 7) (cd := c_weirref3_Buf) (j := 0) (b := b5) (o := 0) (⟨a2, a0.Now, x4.N, x4.Data⟩ : weirref3_Buf) (pend2 := []) (by kernel_rfl) (by kernel_rfl) Ty110 (by kernel_rfl) rfl (At.whole _) (by kernel_rfl) rfl ?_
  refine OJ.call (d := 21) (g := 79) (ats := #[59, 3, 110]) (args := [.tmp 18, .tmp 19, .tmp 20]) (vals := [c_weirref3_Port.val a0, .int .i64 a1, c_weirref3_Buf.val (⟨a2, a0.Now, x4.N, x4.Data⟩ : weirref3_Buf)]) (owed := []) (by kernel_rfl) F79 (by kernel_rfl) (weirref3_put_ok a0 a1 (⟨a2, a0.Now, x4.N, x4.Data⟩ : weirref3_Buf)) (by kernel_rfl) (by kernel_rfl) (by kernel_rfl) (fun r6 => ?_)
  refine OW.nil ?_
  refine OJ.kst (T := 59) (y := .tmp 3) (z := .tmp 21) (cd := c_weirref3_Port) (u := r6) (j := 2) (b := b1) (o := 0) (c_weirref3_Port.enc r6) (h2 := [(b5, c_weirref3_Buf.enc (⟨a2, a0.Now, x4.N, x4.Data⟩ : weirref3_Buf)), (b2, c_weirref3_Port.enc z_weirref3_Port), (b1, c_weirref3_Port.enc r6)]) (owed := []) (by kernel_rfl) (by kernel_rfl) (by kernel_rfl) Ty59 rfl (Upd.whole ((Cod.len _ _).trans (Cod.len _ _).symm)) (by kernel_rfl) (by kernel_rfl) rfl ?_
  refine OW.nil ?_
  refine OJ.nil ?_
  refine SJ.seq (by kernel_rfl) ?_
  refine SJ.region (id := 5) (by kernel_rfl) [0, 1, 2, 3, 4] (by kernel_rfl) ?_
  refine OJ.run [0] [1, 2, 3, 4] [3, 6, 22] (m2 := [(3, .pointer (some (pt b1 0))), (6, .pointer (some (pt b2 0))), (22, .pointer (some (pt b1 4)))]) (by kernel_rfl) (by kernel_rfl) ?_
  refine OJ.kld (d := 23) (T := 3) (y := .tmp 22) (cd := (cI .i64)) (j := 2) (b := b1) (o := 4) r6.Now (pend2 := []) (by kernel_rfl) (by kernel_rfl) Ty3 (by kernel_rfl) rfl (At_weirref3_Port_Now r6) (by kernel_rfl) rfl ?_
  refine OJ.run [2, 3] [4] [3, 6, 24, 25] (m2 := [(3, .pointer (some (pt b1 0))), (6, .pointer (some (pt b2 0))), (24, .int .i64 (IntKind.wrap .i64 (r6.Now + 1))), (25, .pointer (some (pt b1 4)))]) (by kernel_rfl) (by kernel_rfl) ?_
  refine OJ.kst (T := 3) (y := .tmp 25) (z := .tmp 24) (cd := (cI .i64)) (u := (IntKind.wrap .i64 (r6.Now + 1))) (j := 2) (b := b1) (o := 4) (c_weirref3_Port.enc (⟨r6.Rx, r6.Tx, r6.Size, r6.L, IntKind.wrap .i64 (r6.Now + 1)⟩ : weirref3_Port)) (h2 := [(b5, c_weirref3_Buf.enc (⟨a2, a0.Now, x4.N, x4.Data⟩ : weirref3_Buf)), (b2, c_weirref3_Port.enc z_weirref3_Port), (b1, c_weirref3_Port.enc (⟨r6.Rx, r6.Tx, r6.Size, r6.L, IntKind.wrap .i64 (r6.Now + 1)⟩ : weirref3_Port))]) (owed := []) (by kernel_rfl) (by kernel_rfl) (by kernel_rfl) Ty3 rfl (Up_weirref3_Port_Now r6 (IntKind.wrap .i64 (r6.Now + 1))) (by kernel_rfl) (by kernel_rfl) rfl ?_
  refine OW.nil ?_
  refine OJ.nil ?_
  refine SJ.seq (by kernel_rfl) ?_
  refine SJ.region (id := 6) (by kernel_rfl) [0, 1] (by kernel_rfl) ?_
  refine OJ.kld (d := 26) (T := 59) (y := .tmp 3) (cd := c_weirref3_Port) (j := 2) (b := b1) (o := 0) (⟨r6.Rx, r6.Tx, r6.Size, r6.L, IntKind.wrap .i64 (r6.Now + 1)⟩ : weirref3_Port) (pend2 := []) (by kernel_rfl) (by kernel_rfl) Ty59 (by kernel_rfl) rfl (At.whole _) (by kernel_rfl) rfl ?_
  refine OJ.kst (T := 59) (y := .tmp 6) (z := .tmp 26) (cd := c_weirref3_Port) (u := (⟨r6.Rx, r6.Tx, r6.Size, r6.L, IntKind.wrap .i64 (r6.Now + 1)⟩ : weirref3_Port)) (j := 1) (b := b2) (o := 0) (c_weirref3_Port.enc (⟨r6.Rx, r6.Tx, r6.Size, r6.L, IntKind.wrap .i64 (r6.Now + 1)⟩ : weirref3_Port)) (h2 := [(b5, c_weirref3_Buf.enc (⟨a2, a0.Now, x4.N, x4.Data⟩ : weirref3_Buf)), (b2, c_weirref3_Port.enc (⟨r6.Rx, r6.Tx, r6.Size, r6.L, IntKind.wrap .i64 (r6.Now + 1)⟩ : weirref3_Port)), (b1, c_weirref3_Port.enc (⟨r6.Rx, r6.Tx, r6.Size, r6.L, IntKind.wrap .i64 (r6.Now + 1)⟩ : weirref3_Port))]) (owed := []) (by kernel_rfl) (by kernel_rfl) (by kernel_rfl) Ty59 rfl (Upd.whole ((Cod.len _ _).trans (Cod.len _ _).symm)) (by kernel_rfl) (by kernel_rfl) rfl ?_
  refine OW.nil ?_
  refine OJ.nil ?_
  exact SJ.ret (by kernel_rfl) rfl (Res.run (ys := [c_weirref3_Port.val (⟨r6.Rx, r6.Tx, r6.Size, r6.L, IntKind.wrap .i64 (r6.Now + 1)⟩ : weirref3_Port)]) (.cell (j := 1) (b := b2) (cd := c_weirref3_Port) (q := (⟨r6.Rx, r6.Tx, r6.Size, r6.L, IntKind.wrap .i64 (r6.Now + 1)⟩ : weirref3_Port)) (by kernel_rfl) rfl Ty59 (At.whole _) .nil) rfl)

/-! ### weir/weirref3.Arrive: function 64 -/
noncomputable def weirref3_Arrive.B : Code := (Try.f64.body).getD .skip
noncomputable def weirref3_Arrive.cx : Fx := ⟨Try.prog, 64, Try.f64⟩
noncomputable def weirref3_Arrive.out (r_ : (weirref3_Port × Int)) : Value := .tuple #[c_weirref3_Port.val r_.1, .int .i64 r_.2]
noncomputable def weirref3_Arrive.F0 (r_ : (weirref3_Port × Int)) : Reach := .ret (weirref3_Arrive.out r_)
noncomputable def weirref3_Arrive (a0 : weirref3_Port) (a1 : Sl) : M (weirref3_Port × Int) :=
  slot 59 >>= fun b1 =>
  slot 59 >>= fun b2 =>
  weirref3_first a0 2 >>= fun r3 =>
  if (a1.len : Int) > 65535 then
    pure (a0, 2)
  else
    if (a1.len : Int) > a0.Size then
      pure (a0, 30)
    else
      if r3 < 0 then
        pure (a0, 31)
      else
        idx a0.L.a a0.L.len r3 4 >>= fun p8 =>
        ld c_weirref3_Buf p8 >>= fun x9 =>
        slot 110 >>= fun b10 =>
        weirref3_laid x9.Data a1 >>= fun r11 =>
        weirref3_put a0 r3 (⟨x9.Place, x9.Since, (a1.len : Int), r11⟩ : weirref3_Buf) >>= fun r12 =>
        weirref3_moved r12 r3 3 >>= fun r13 =>
        pure (r13, 0)
theorem weirref3_Arrive_ok (a0 : weirref3_Port) (a1 : Sl) : Ref Try.prog 64 [c_weirref3_Port.val a0, Sl.v a1] (weirref3_Arrive a0 a1) weirref3_Arrive.out := by
  refine Ref.of (cd := weirref3_Arrive.B) Try.func64 (by kernel_rfl) (by kernel_rfl) ?_
  show SJ weirref3_Arrive.cx [.code weirref3_Arrive.B] [(0, c_weirref3_Port.val a0), (1, Sl.v a1)] [] (weirref3_Arrive a0 a1) weirref3_Arrive.F0
  unfold weirref3_Arrive
  refine SJ.seq (by kernel_rfl) ?_
  refine SJ.region (id := 0) (by kernel_rfl) [0, 1, 2] (by kernel_rfl) ?_
  refine OJ.slotOf (d := 2) (op := (.box 59 (.tmp 0))) (cd := c_weirref3_Port) (u := a0) (owed := []) (by kernel_rfl) (box_run (by kernel_rfl)) (by kernel_rfl) (by kernel_rfl) (by kernel_rfl) (fun b1 => ?_)
  refine OW.nil ?_
  refine OJ.slotOf (d := 4) (op := (.alloc 59)) (cd := c_weirref3_Port) (u := z_weirref3_Port) (owed := []) (by kernel_rfl) (alloc_run Ty59) (by kernel_rfl) (by kernel_rfl) (by kernel_rfl) (fun b2 => ?_)
  refine OW.nil ?_
  refine OJ.run [2] [] [1, 2, 4] (m2 := [(1, Sl.v a1), (2, .pointer (some (pt b1 0))), (4, .pointer (some (pt b2 0)))]) (by kernel_rfl) (by kernel_rfl) ?_
  refine OJ.nil ?_
  refine SJ.seq (by kernel_rfl) ?_
  refine SJ.region (id := 1) (by kernel_rfl) [0, 1, 2] (by kernel_rfl) ?_
  refine OJ.kld (d := 8) (T := 59) (y := .tmp 2) (cd := c_weirref3_Port) (j := 1) (b := b1) (o := 0) a0 (pend2 := []) (by kernel_rfl) (by kernel_rfl) Ty59 (by kernel_rfl) rfl (At.whole _) (by kernel_rfl) rfl ?_
  refine OJ.call (d := 9) (g := 77) (ats := #[59, 3]) (args := [.tmp 8, .const (.int .i64 2)]) (vals := [c_weirref3_Port.val a0, .int .i64 2]) (owed := []) (by kernel_rfl) F77 (by kernel_rfl) (weirref3_first_ok a0 2) (by kernel_rfl) (by kernel_rfl) (by kernel_rfl) (fun r3 => ?_)
  refine OW.nil ?_
  refine OJ.run [2] [] [1, 2, 4, 6] (m2 := [(1, Sl.v a1), (2, .pointer (some (pt b1 0))), (4, .pointer (some (pt b2 0))), (6, .int .i64 r3)]) (by kernel_rfl) (by kernel_rfl) ?_
  refine OJ.nil ?_
  refine SJ.seq (by kernel_rfl) ?_
  refine SJ.block (id := 0) (by kernel_rfl) ?_
  refine SJ.seq (by kernel_rfl) ?_
  refine SJ.region (id := 2) (by kernel_rfl) [0, 1, 2, 3] (by kernel_rfl) ?_
  refine OJ.run [0, 1, 2, 3] [] [1, 2, 4, 6, 10] (m2 := [(1, Sl.v a1), (2, .pointer (some (pt b1 0))), (4, .pointer (some (pt b2 0))), (6, .int .i64 r3), (10, .bool (decide ((a1.len : Int) > 65535)))]) (by kernel_rfl) (by kernel_rfl) ?_
  refine OJ.nil ?_
  refine SJ.cond (t := (.tmp 10)) (b := decide ((a1.len : Int) > 65535)) (by kernel_rfl) (by kernel_rfl) decide_eq_true_iff (fun hc16 => ?_) (fun hc16 => ?_)
  · refine SJ.seq (by kernel_rfl) ?_
    refine SJ.region (id := 3) (by kernel_rfl) [0, 1, 2] (by kernel_rfl) ?_
    refine OJ.kld (d := 14) (T := 59) (y := .tmp 2) (cd := c_weirref3_Port) (j := 1) (b := b1) (o := 0) a0 (pend2 := []) (by kernel_rfl) (by kernel_rfl) Ty59 (by kernel_rfl) rfl (At.whole _) (by kernel_rfl) rfl ?_
    refine OJ.kst (T := 59) (y := .tmp 4) (z := .tmp 14) (cd := c_weirref3_Port) (u := a0) (j := 0) (b := b2) (o := 0) (c_weirref3_Port.enc a0) (h2 := [(b2, c_weirref3_Port.enc a0), (b1, c_weirref3_Port.enc a0)]) (owed := []) (by kernel_rfl) (by kernel_rfl) (by kernel_rfl) Ty59 rfl (Upd.whole ((Cod.len _ _).trans (Cod.len _ _).symm)) (by kernel_rfl) (by kernel_rfl) rfl ?_
    refine OW.nil ?_
    refine OJ.run [2] [] [4, 5] (m2 := [(4, .pointer (some (pt b2 0))), (5, .int .i64 2)]) (by kernel_rfl) (by kernel_rfl) ?_
    refine OJ.nil ?_
    exact SJ.ret (by kernel_rfl) rfl (Res.run (ys := [c_weirref3_Port.val a0, .int .i64 2]) (.cell (j := 0) (b := b2) (cd := c_weirref3_Port) (q := a0) (by kernel_rfl) rfl Ty59 (At.whole _) (.tmp (by kernel_rfl) .nil)) rfl)
  · refine SJ.seq (by kernel_rfl) ?_
    refine SJ.region (id := 4) (by kernel_rfl) [0, 1, 2, 3, 4, 5] (by kernel_rfl) ?_
    refine OJ.run [0, 1, 2] [3, 4, 5] [1, 2, 4, 6, 17, 18] (m2 := [(1, Sl.v a1), (2, .pointer (some (pt b1 0))), (4, .pointer (some (pt b2 0))), (6, .int .i64 r3), (17, .int .i64 (a1.len : Int)), (18, .pointer (some (pt b1 2)))]) (by kernel_rfl) (by kernel_rfl) ?_
    refine OJ.kld (d := 19) (T := 3) (y := .tmp 18) (cd := (cI .i64)) (j := 1) (b := b1) (o := 2) a0.Size (pend2 := []) (by kernel_rfl) (by kernel_rfl) Ty3 (by kernel_rfl) rfl (At_weirref3_Port_Size a0) (by kernel_rfl) rfl ?_
    refine OJ.run [4, 5] [] [1, 2, 4, 6, 15] (m2 := [(1, Sl.v a1), (2, .pointer (some (pt b1 0))), (4, .pointer (some (pt b2 0))), (6, .int .i64 r3), (15, .bool (decide ((a1.len : Int) > a0.Size)))]) (by kernel_rfl) (by kernel_rfl) ?_
    refine OJ.nil ?_
    refine SJ.cond (t := (.tmp 15)) (b := decide ((a1.len : Int) > a0.Size)) (by kernel_rfl) (by kernel_rfl) decide_eq_true_iff (fun hc15 => ?_) (fun hc15 => ?_)
    · refine SJ.seq (by kernel_rfl) ?_
      refine SJ.region (id := 5) (by kernel_rfl) [0, 1, 2] (by kernel_rfl) ?_
      refine OJ.kld (d := 21) (T := 59) (y := .tmp 2) (cd := c_weirref3_Port) (j := 1) (b := b1) (o := 0) a0 (pend2 := []) (by kernel_rfl) (by kernel_rfl) Ty59 (by kernel_rfl) rfl (At.whole _) (by kernel_rfl) rfl ?_
      refine OJ.kst (T := 59) (y := .tmp 4) (z := .tmp 21) (cd := c_weirref3_Port) (u := a0) (j := 0) (b := b2) (o := 0) (c_weirref3_Port.enc a0) (h2 := [(b2, c_weirref3_Port.enc a0), (b1, c_weirref3_Port.enc a0)]) (owed := []) (by kernel_rfl) (by kernel_rfl) (by kernel_rfl) Ty59 rfl (Upd.whole ((Cod.len _ _).trans (Cod.len _ _).symm)) (by kernel_rfl) (by kernel_rfl) rfl ?_
      refine OW.nil ?_
      refine OJ.run [2] [] [4, 5] (m2 := [(4, .pointer (some (pt b2 0))), (5, .int .i64 30)]) (by kernel_rfl) (by kernel_rfl) ?_
      refine OJ.nil ?_
      exact SJ.ret (by kernel_rfl) rfl (Res.run (ys := [c_weirref3_Port.val a0, .int .i64 30]) (.cell (j := 0) (b := b2) (cd := c_weirref3_Port) (q := a0) (by kernel_rfl) rfl Ty59 (At.whole _) (.tmp (by kernel_rfl) .nil)) rfl)
    · refine SJ.seq (by kernel_rfl) ?_
      refine SJ.region (id := 6) (by kernel_rfl) [0, 1, 2] (by kernel_rfl) ?_
      refine OJ.run [0, 1, 2] [] [1, 2, 4, 6, 22] (m2 := [(1, Sl.v a1), (2, .pointer (some (pt b1 0))), (4, .pointer (some (pt b2 0))), (6, .int .i64 r3), (22, .bool (decide (r3 < 0)))]) (by kernel_rfl) (by kernel_rfl) ?_
      refine OJ.nil ?_
      refine SJ.cond (t := (.tmp 22)) (b := decide (r3 < 0)) (by kernel_rfl) (by kernel_rfl) decide_eq_true_iff (fun hc14 => ?_) (fun hc14 => ?_)
      · refine SJ.seq (by kernel_rfl) ?_
        refine SJ.region (id := 7) (by kernel_rfl) [0, 1, 2] (by kernel_rfl) ?_
        refine OJ.kld (d := 25) (T := 59) (y := .tmp 2) (cd := c_weirref3_Port) (j := 1) (b := b1) (o := 0) a0 (pend2 := []) (by kernel_rfl) (by kernel_rfl) Ty59 (by kernel_rfl) rfl (At.whole _) (by kernel_rfl) rfl ?_
        refine OJ.kst (T := 59) (y := .tmp 4) (z := .tmp 25) (cd := c_weirref3_Port) (u := a0) (j := 0) (b := b2) (o := 0) (c_weirref3_Port.enc a0) (h2 := [(b2, c_weirref3_Port.enc a0), (b1, c_weirref3_Port.enc a0)]) (owed := []) (by kernel_rfl) (by kernel_rfl) (by kernel_rfl) Ty59 rfl (Upd.whole ((Cod.len _ _).trans (Cod.len _ _).symm)) (by kernel_rfl) (by kernel_rfl) rfl ?_
        refine OW.nil ?_
        refine OJ.run [2] [] [4, 5] (m2 := [(4, .pointer (some (pt b2 0))), (5, .int .i64 31)]) (by kernel_rfl) (by kernel_rfl) ?_
        refine OJ.nil ?_
        exact SJ.ret (by kernel_rfl) rfl (Res.run (ys := [c_weirref3_Port.val a0, .int .i64 31]) (.cell (j := 0) (b := b2) (cd := c_weirref3_Port) (q := a0) (by kernel_rfl) rfl Ty59 (At.whole _) (.tmp (by kernel_rfl) .nil)) rfl)
      · refine SJ.skip (by kernel_rfl) ?_
        refine SJ.inBlock ?_
        refine SJ.seq (by kernel_rfl) ?_
        refine SJ.region (id := 8) (by kernel_rfl) [0, 1, 2, 3, 4, 5, 6] (by kernel_rfl) ?_
        refine OJ.run [0] [1, 2, 3, 4, 5, 6] [1, 2, 4, 6, 26] (m2 := [(1, Sl.v a1), (2, .pointer (some (pt b1 0))), (4, .pointer (some (pt b2 0))), (6, .int .i64 r3), (26, .pointer (some (pt b1 3)))]) (by kernel_rfl) (by kernel_rfl) ?_
        refine OJ.kld (d := 27) (T := 57) (y := .tmp 26) (cd := cL) (j := 1) (b := b1) (o := 3) a0.L (pend2 := []) (by kernel_rfl) (by kernel_rfl) Ty57 (by kernel_rfl) rfl (At_weirref3_Port_L a0) (by kernel_rfl) rfl ?_
        refine OJ.run [2] [3, 4, 5, 6] [1, 2, 4, 6, 27, 28] (m2 := [(1, Sl.v a1), (2, .pointer (some (pt b1 0))), (4, .pointer (some (pt b2 0))), (6, .int .i64 r3), (27, Sl.v a0.L), (28, .int .i64 r3)]) (by kernel_rfl) (by kernel_rfl) ?_
        refine OJ.idxS (d := 29) (T := 57) (y := .tmp 27) (j := .tmp 28) (E := 110) (cap := a0.L.cap) (k := .i64) (by kernel_rfl) (by kernel_rfl) (by kernel_rfl) (by kernel_rfl) (by kernel_rfl) (by kernel_rfl) (by kernel_rfl) (by kernel_rfl) (fun p8 => ?_)
        refine OJ.ld (d := 30) (T := 110) (y := .tmp 29) (pend2 := fun x9 => []) (by kernel_rfl) (by kernel_rfl) Ty110 (by kernel_rfl) (by kernel_rfl) (fun _ => rfl) (fun x9 => ?_)
        refine OJ.slotOf (d := 7) (op := (.alloc 110)) (cd := c_weirref3_Buf) (u := z_weirref3_Buf) (owed := []) (by kernel_rfl) (alloc_run Ty110) (by kernel_rfl) (by kernel_rfl) (by kernel_rfl) (fun b10 => ?_)
        refine OW.nil ?_
        refine OJ.kst (T := 110) (y := .tmp 7) (z := .tmp 30) (cd := c_weirref3_Buf) (u := x9) (j := 0) (b := b10) (o := 0) (c_weirref3_Buf.enc x9) (h2 := [(b10, c_weirref3_Buf.enc x9), (b2, c_weirref3_Port.enc z_weirref3_Port), (b1, c_weirref3_Port.enc a0)]) (owed := []) (by kernel_rfl) (by kernel_rfl) (by kernel_rfl) Ty110 rfl (Upd.whole ((Cod.len _ _).trans (Cod.len _ _).symm)) (by kernel_rfl) (by kernel_rfl) rfl ?_
        refine OW.nil ?_
        refine OJ.nil ?_
        refine SJ.seq (by kernel_rfl) ?_
        refine SJ.region (id := 9) (by kernel_rfl) [0, 1, 2, 3, 4, 5] (by kernel_rfl) ?_
        refine OJ.run [0] [1, 2, 3, 4, 5] [1, 2, 4, 6, 7, 31] (m2 := [(1, Sl.v a1), (2, .pointer (some (pt b1 0))), (4, .pointer (some (pt b2 0))), (6, .int .i64 r3), (7, .pointer (some (pt b10 0))), (31, .pointer (some (pt b10 3)))]) (by kernel_rfl) (by kernel_rfl) ?_
        refine OJ.kld (d := 32) (T := 22) (y := .tmp 31) (cd := cL) (j := 0) (b := b10) (o := 3) x9.Data (pend2 := []) (by kernel_rfl) (by kernel_rfl) Ty22 (by kernel_rfl) rfl (At_weirref3_Buf_Data x9) (by kernel_rfl) rfl ?_
        refine OJ.run [2] [3, 4, 5] [1, 2, 4, 6, 7, 32, 33] (m2 := [(1, Sl.v a1), (2, .pointer (some (pt b1 0))), (4, .pointer (some (pt b2 0))), (6, .int .i64 r3), (7, .pointer (some (pt b10 0))), (32, Sl.v x9.Data), (33, Sl.v a1)]) (by kernel_rfl) (by kernel_rfl) ?_
        refine OJ.call (d := 34) (g := 78) (ats := #[22, 22]) (args := [.tmp 32, .tmp 33]) (vals := [Sl.v x9.Data, Sl.v a1]) (owed := []) (by kernel_rfl) F78 (by kernel_rfl) (weirref3_laid_ok x9.Data a1) (by kernel_rfl) (by kernel_rfl) (by kernel_rfl) (fun r11 => ?_)
        refine OW.nil ?_
        refine OJ.run [4] [5] [1, 2, 4, 6, 7, 34, 35] (m2 := [(1, Sl.v a1), (2, .pointer (some (pt b1 0))), (4, .pointer (some (pt b2 0))), (6, .int .i64 r3), (7, .pointer (some (pt b10 0))), (34, Sl.v r11), (35, .pointer (some (pt b10 3)))]) (by kernel_rfl) (by kernel_rfl) ?_
        refine OJ.kst (T := 22) (y := .tmp 35) (z := .tmp 34) (cd := cL) (u := r11) (j := 0) (b := b10) (o := 3) (c_weirref3_Buf.enc (⟨x9.Place, x9.Since, x9.N, r11⟩ : weirref3_Buf)) (h2 := [(b10, c_weirref3_Buf.enc (⟨x9.Place, x9.Since, x9.N, r11⟩ : weirref3_Buf)), (b2, c_weirref3_Port.enc z_weirref3_Port), (b1, c_weirref3_Port.enc a0)]) (owed := []) (by kernel_rfl) (by kernel_rfl) (by kernel_rfl) Ty22 rfl (Up_weirref3_Buf_Data x9 r11) (by kernel_rfl) (by kernel_rfl) rfl ?_
        refine OW.nil ?_
        refine OJ.nil ?_
        refine SJ.seq (by kernel_rfl) ?_
        refine SJ.region (id := 10) (by kernel_rfl) [0, 1, 2, 3] (by kernel_rfl) ?_
        refine OJ.run [0, 1, 2] [3] [2, 4, 6, 7, 37, 38] (m2 := [(2, .pointer (some (pt b1 0))), (4, .pointer (some (pt b2 0))), (6, .int .i64 r3), (7, .pointer (some (pt b10 0))), (37, .int .i64 (a1.len : Int)), (38, .pointer (some (pt b10 2)))]) (by kernel_rfl) (by kernel_rfl) ?_
        refine OJ.kst (T := 3) (y := .tmp 38) (z := .tmp 37) (cd := (cI .i64)) (u := (a1.len : Int)) (j := 0) (b := b10) (o := 2) (c_weirref3_Buf.enc (⟨x9.Place, x9.Since, (a1.len : Int), r11⟩ : weirref3_Buf)) (h2 := [(b10, c_weirref3_Buf.enc (⟨x9.Place, x9.Since, (a1.len : Int), r11⟩ : weirref3_Buf)), (b2, c_weirref3_Port.enc z_weirref3_Port), (b1, c_weirref3_Port.enc a0)]) (owed := []) (by kernel_rfl) (by kernel_rfl) (by kernel_rfl) Ty3 rfl (Up_weirref3_Buf_N (⟨x9.Place, x9.Since, x9.N, r11⟩ : weirref3_Buf) (a1.len : Int)) (by kernel_rfl) (by kernel_rfl) rfl ?_
        refine OW.nil ?_
        refine OJ.nil ?_
        refine SJ.seq (by kernel_rfl) ?_
        refine SJ.region (id := 11) (by kernel_rfl) [0, 1, 2, 3, 4] (by kernel_rfl) ?_
        refine OJ.kld (d := 39) (T := 59) (y := .tmp 2) (cd := c_weirref3_Port) (j := 2) (b := b1) (o := 0) a0 (pend2 := []) (by kernel_rfl) (by kernel_rfl) Ty59 (by kernel_rfl) rfl (At.whole _) (by kernel_rfl) rfl ?_
        refine OJ.run [1] [2, 3, 4] [2, 4, 6, 7, 39, 40] (m2 := [(2, .pointer (some (pt b1 0))), (4, .pointer (some (pt b2 0))), (6, .int .i64 r3), (7, .pointer (some (pt b10 0))), (39, c_weirref3_Port.val a0), (40, .int .i64 r3)]) (by kernel_rfl) (by kernel_rfl) ?_
        refine OJ.kld (d := 41) (T := 110) (y := .tmp 7) (cd := c_weirref3_Buf) (j := 0) (b := b10) (o := 0) (⟨x9.Place, x9.Since, (a1.len : Int), r11⟩ : weirref3_Buf) (pend2 := []) (by kernel_rfl) (by kernel_rfl) Ty110 (by kernel_rfl) rfl (At.whole _) (by kernel_rfl) rfl ?_
        refine OJ.call (d := 42) (g := 79) (ats := #[59, 3, 110]) (args := [.tmp 39, .tmp 40, .tmp 41]) (vals := [c_weirref3_Port.val a0, .int .i64 r3, c_weirref3_Buf.val (⟨x9.Place, x9.Since, (a1.len : Int), r11⟩ : weirref3_Buf)]) (owed := []) (by kernel_rfl) F79 (by kernel_rfl) (weirref3_put_ok a0 r3 (⟨x9.Place, x9.Since, (a1.len : Int), r11⟩ : weirref3_Buf)) (by kernel_rfl) (by kernel_rfl) (by kernel_rfl) (fun r12 => ?_)
        refine OW.nil ?_
        refine OJ.kst (T := 59) (y := .tmp 2) (z := .tmp 42) (cd := c_weirref3_Port) (u := r12) (j := 2) (b := b1) (o := 0) (c_weirref3_Port.enc r12) (h2 := [(b10, c_weirref3_Buf.enc (⟨x9.Place, x9.Since, (a1.len : Int), r11⟩ : weirref3_Buf)), (b2, c_weirref3_Port.enc z_weirref3_Port), (b1, c_weirref3_Port.enc r12)]) (owed := []) (by kernel_rfl) (by kernel_rfl) (by kernel_rfl) Ty59 rfl (Upd.whole ((Cod.len _ _).trans (Cod.len _ _).symm)) (by kernel_rfl) (by kernel_rfl) rfl ?_
        refine OW.nil ?_
        refine OJ.nil ?_
        refine SJ.seq (by kernel_rfl) ?_
        refine SJ.region (id := 12) (by kernel_rfl) [0, 1, 2, 3, 4] (by kernel_rfl) ?_
        refine OJ.kld (d := 43) (T := 59) (y := .tmp 2) (cd := c_weirref3_Port) (j := 2) (b := b1) (o := 0) r12 (pend2 := []) (by kernel_rfl) (by kernel_rfl) Ty59 (by kernel_rfl) rfl (At.whole _) (by kernel_rfl) rfl ?_
        refine OJ.run [1] [2, 3, 4] [4, 43, 44] (m2 := [(4, .pointer (some (pt b2 0))), (43, c_weirref3_Port.val r12), (44, .int .i64 r3)]) (by kernel_rfl) (by kernel_rfl) ?_
        refine OJ.call (d := 45) (g := 80) (ats := #[59, 3, 3]) (args := [.tmp 43, .tmp 44, .const (.int .i64 3)]) (vals := [c_weirref3_Port.val r12, .int .i64 r3, .int .i64 3]) (owed := []) (by kernel_rfl) F80 (by kernel_rfl) (weirref3_moved_ok r12 r3 3) (by kernel_rfl) (by kernel_rfl) (by kernel_rfl) (fun r13 => ?_)
        refine OW.nil ?_
        refine OJ.kst (T := 59) (y := .tmp 4) (z := .tmp 45) (cd := c_weirref3_Port) (u := r13) (j := 1) (b := b2) (o := 0) (c_weirref3_Port.enc r13) (h2 := [(b10, c_weirref3_Buf.enc (⟨x9.Place, x9.Since, (a1.len : Int), r11⟩ : weirref3_Buf)), (b2, c_weirref3_Port.enc r13), (b1, c_weirref3_Port.enc r12)]) (owed := []) (by kernel_rfl) (by kernel_rfl) (by kernel_rfl) Ty59 rfl (Upd.whole ((Cod.len _ _).trans (Cod.len _ _).symm)) (by kernel_rfl) (by kernel_rfl) rfl ?_
        refine OW.nil ?_
        refine OJ.run [4] [] [4, 5] (m2 := [(4, .pointer (some (pt b2 0))), (5, .int .i64 0)]) (by kernel_rfl) (by kernel_rfl) ?_
        refine OJ.nil ?_
        exact SJ.ret (by kernel_rfl) rfl (Res.run (ys := [c_weirref3_Port.val r13, .int .i64 0]) (.cell (j := 1) (b := b2) (cd := c_weirref3_Port) (q := r13) (by kernel_rfl) rfl Ty59 (At.whole _) (.tmp (by kernel_rfl) .nil)) rfl)

/-! ### weir/weirlaw3.alike: function 19 -/
noncomputable def weirlaw3_alike.B : Code := (Try.f19.body).getD .skip
noncomputable def weirlaw3_alike.cx : Fx := ⟨Try.prog, 19, Try.f19⟩
noncomputable def weirlaw3_alike.out (r_ : Bool) : Value := .bool r_
noncomputable def weirlaw3_alike.F0 (r_ : Bool) : Reach := .ret (weirlaw3_alike.out r_)
noncomputable def weirlaw3_alike (a0 : Sl) (a1 : Sl) : M Bool :=
  toStr a0 >>= fun r1 =>
  toStr a1 >>= fun r2 =>
  pure (r1.toList == r2.toList)
theorem weirlaw3_alike_ok (a0 : Sl) (a1 : Sl) : Ref Try.prog 19 [Sl.v a0, Sl.v a1] (weirlaw3_alike a0 a1) weirlaw3_alike.out := by
  refine Ref.of (cd := weirlaw3_alike.B) Try.func19 (by kernel_rfl) (by kernel_rfl) ?_
  show SJ weirlaw3_alike.cx [.code weirlaw3_alike.B] [(0, Sl.v a0), (1, Sl.v a1)] [] (weirlaw3_alike a0 a1) weirlaw3_alike.F0
  unfold weirlaw3_alike
  refine SJ.seq (by kernel_rfl) ?_
  refine SJ.region (id := 0) (by kernel_rfl) [0] (by kernel_rfl) ?_
  refine OJ.run [0] [] [0, 1] (m2 := [(0, Sl.v a0), (1, Sl.v a1)]) (by kernel_rfl) (by kernel_rfl) ?_
  refine OJ.nil ?_
  refine SJ.seq (by kernel_rfl) ?_
  refine SJ.region (id := 1) (by kernel_rfl) [0, 1, 2, 3, 4, 5] (by kernel_rfl) ?_
  refine OJ.run [0] [1, 2, 3, 4, 5] [1, 5] (m2 := [(1, Sl.v a1), (5, Sl.v a0)]) (by kernel_rfl) (by kernel_rfl) ?_
  refine OJ.toStr (d := 6) (t := 22) (u := 9) (E := 5) (x := .tmp 5) (owed := []) (by kernel_rfl) (by kernel_rfl) (by kernel_rfl) (by kernel_rfl) (by kernel_rfl) (by kernel_rfl) (by kernel_rfl) (by kernel_rfl) (fun r1 => ?_)
  refine OW.nil ?_
  refine OJ.run [2] [3, 4, 5] [6, 7] (m2 := [(6, .string r1), (7, Sl.v a1)]) (by kernel_rfl) (by kernel_rfl) ?_
  refine OJ.toStr (d := 8) (t := 22) (u := 9) (E := 5) (x := .tmp 7) (owed := []) (by kernel_rfl) (by kernel_rfl) (by kernel_rfl) (by kernel_rfl) (by kernel_rfl) (by kernel_rfl) (by kernel_rfl) (by kernel_rfl) (fun r2 => ?_)
  refine OW.nil ?_
  refine OJ.run [4, 5] [] [4] (m2 := [(4, .bool (r1.toList == r2.toList))]) (by kernel_rfl) (by kernel_rfl) ?_
  refine OJ.nil ?_
  exact SJ.ret (by kernel_rfl) rfl (Res.run (ys := [.bool (r1.toList == r2.toList)]) (.tmp (by kernel_rfl) .nil) rfl)

/-! ### weir/weirlaw3.kept: function 65 -/
noncomputable def weirlaw3_kept.B : Code := (Try.f65.body).getD .skip
noncomputable def weirlaw3_kept.cx : Fx := ⟨Try.prog, 65, Try.f65⟩
noncomputable def weirlaw3_kept.out (r_ : Bool) : Value := .bool r_
noncomputable def weirlaw3_kept.F0 (r_ : Bool) : Reach := .ret (weirlaw3_kept.out r_)
noncomputable def weirlaw3_kept (a0 : Sl) (a1 : Sl) : M Bool :=
  (if (a0.len : Int) = (IntKind.wrap .i64 ((a1.len : Int) + 3)) then
      cut 1 a0 none (some (a1.len : Int)) none >>= fun r1 =>
      weirlaw3_alike r1 a1 >>= fun r2 =>
      pure r2
    else
      pure false) >>= fun y3 =>
  (if y3 = true then
      idx a0.a a0.len (a1.len : Int) 1 >>= fun p4 =>
      ld (cI .u8) p4 >>= fun x5 =>
      pure (x5 == 91)
    else
      pure false) >>= fun y6 =>
  (if y6 = true then
      idx a0.a a0.len (IntKind.wrap .i64 ((a1.len : Int) + 1)) 1 >>= fun p7 =>
      ld (cI .u8) p7 >>= fun x8 =>
      pure (x8 == 92)
    else
      pure false) >>= fun y9 =>
  (if y9 = true then
      idx a0.a a0.len (IntKind.wrap .i64 ((a1.len : Int) + 2)) 1 >>= fun p10 =>
      ld (cI .u8) p10 >>= fun x11 =>
      pure (x11 == 93)
    else
      pure false) >>= fun y12 =>
  pure y12
theorem weirlaw3_kept_ok (a0 : Sl) (a1 : Sl) : Ref Try.prog 65 [Sl.v a0, Sl.v a1] (weirlaw3_kept a0 a1) weirlaw3_kept.out := by
  refine Ref.of (cd := weirlaw3_kept.B) Try.func65 (by kernel_rfl) (by kernel_rfl) ?_
  show SJ weirlaw3_kept.cx [.code weirlaw3_kept.B] [(0, Sl.v a0), (1, Sl.v a1)] [] (weirlaw3_kept a0 a1) weirlaw3_kept.F0
  unfold weirlaw3_kept
  refine SJ.seq (by kernel_rfl) ?_
  refine SJ.region (id := 0) (by kernel_rfl) [0] (by kernel_rfl) ?_
  refine OJ.run [0] [] [0, 1] (m2 := [(0, Sl.v a0), (1, Sl.v a1)]) (by kernel_rfl) (by kernel_rfl) ?_
  refine OJ.nil ?_
  refine SJ.seq (by kernel_rfl) ?_
  refine SJ.region (id := 1) (by kernel_rfl) [0, 1, 2] (by kernel_rfl) ?_
  refine OJ.run [0, 1, 2] [] [0, 1, 5] (m2 := [(0, Sl.v a0), (1, Sl.v a1), (5, .int .i64 (a1.len : Int))]) (by kernel_rfl) (by kernel_rfl) ?_
  refine OJ.nil ?_
  refine SJ.seq (by kernel_rfl) ?_
  refine SJ.region (id := 2) (by kernel_rfl) [0, 1, 2, 3, 4, 5, 6, 7, 8, 9, 10, 11, 12, 13, 14, 15, 16, 17, 18, 19, 20, 21, 22, 23, 24, 25, 26, 27, 28, 29, 30, 31, 32, 33, 34, 35] (by kernel_rfl) ?_
  refine OJ.run [0, 1, 2, 3, 4, 5] [6, 7, 8, 9, 10, 11, 12, 13, 14, 15, 16, 17, 18, 19, 20, 21, 22, 23, 24, 25, 26, 27, 28, 29, 30, 31, 32, 33, 34, 35] [0, 1, 5, 13] (m2 := [(0, Sl.v a0), (1, Sl.v a1), (5, .int .i64 (a1.len : Int)), (13, .bool ((a0.len : Int) == (IntKind.wrap .i64 ((a1.len : Int) + 3))))]) (by kernel_rfl) (by kernel_rfl) ?_
  refine OJ.join (b := ((a0.len : Int) == (IntKind.wrap .i64 ((a1.len : Int) + 3)))) [6, 7, 8, 9, 10, 11] [12, 13, 14, 15, 16, 17, 18, 19, 20, 21, 22, 23, 24, 25, 26, 27, 28, 29, 30, 31, 32, 33, 34, 35] [0, 5, 19] (fun y3 => [(0, Sl.v a0), (5, .int .i64 (a1.len : Int)), (19, .bool y3)]) [] [] (by kernel_rfl) (t := 13) (by kernel_rfl) beq_iff_eq (fun hp_ => ?_) (fun hp_ => ?_) (by kernel_rfl) (fun _ _ _ _ _ _ h_ => h_) (fun y3 => ?_)
  · refine OJ.run [6, 7] [8, 9, 10, 11] [0, 1, 5, 13, 14, 15] (m2 := [(0, Sl.v a0), (1, Sl.v a1), (5, .int .i64 (a1.len : Int)), (13, .bool true), (14, Sl.v a0), (15, .int .i64 (a1.len : Int))]) (by kernel_rfl) (by kernel_rfl) ?_
    refine OJ.cut (d := 16) (t := 22) (E := 5) (y := .tmp 14) (lo := none) (hi := (some (.tmp 15))) (mx := none) (lo' := none) (hi' := some (.i64, (a1.len : Int))) (mx' := none) (by kernel_rfl) (by kernel_rfl) (by kernel_rfl) (by kernel_rfl) (by kernel_rfl) (by kernel_rfl) (by kernel_rfl) (fun h => by cases h) (by kernel_rfl) (by kernel_rfl) (by kernel_rfl) (fun r1 => ?_)
    refine OJ.run [9] [10, 11] [0, 5, 13, 16, 17] (m2 := [(0, Sl.v a0), (5, .int .i64 (a1.len : Int)), (13, .bool true), (16, Sl.v r1), (17, Sl.v a1)]) (by kernel_rfl) (by kernel_rfl) ?_
    refine OJ.call (d := 18) (g := 19) (ats := #[22, 22]) (args := [.tmp 16, .tmp 17]) (vals := [Sl.v r1, Sl.v a1]) (owed := []) (by kernel_rfl) F19 (by kernel_rfl) (weirlaw3_alike_ok r1 a1) (by kernel_rfl) (by kernel_rfl) (by kernel_rfl) (fun r2 => ?_)
    refine OW.nil ?_
    refine OJ.run [11] [] [0, 5, 19] (m2 := [(0, Sl.v a0), (5, .int .i64 (a1.len : Int)), (19, .bool r2)]) (by kernel_rfl) (by kernel_rfl) ?_
    exact OJ.nil ⟨(Cov.mem Cov.nil), rfl, _, rfl, by kernel_rfl⟩
  · refine OJ.run [6, 7, 8, 9, 10, 11] [] [0, 5, 19] (m2 := [(0, Sl.v a0), (5, .int .i64 (a1.len : Int)), (19, .bool false)]) (by kernel_rfl) (by kernel_rfl) ?_
    exact OJ.nil ⟨(Cov.mem Cov.nil), rfl, _, rfl, by kernel_rfl⟩
  · refine OJ.run [12] [13, 14, 15, 16, 17, 18, 19, 20, 21, 22, 23, 24, 25, 26, 27, 28, 29, 30, 31, 32, 33, 34, 35] [0, 5, 20] (m2 := [(0, Sl.v a0), (5, .int .i64 (a1.len : Int)), (20, .bool y3)]) (by kernel_rfl) (by kernel_rfl) ?_
    refine OJ.join (b := y3) [13, 14, 15, 16, 17, 18] [19, 20, 21, 22, 23, 24, 25, 26, 27, 28, 29, 30, 31, 32, 33, 34, 35] [0, 5, 26] (fun y6 => [(0, Sl.v a0), (5, .int .i64 (a1.len : Int)), (26, .bool y6)]) [] [] (by kernel_rfl) (t := 20) (by kernel_rfl) Iff.rfl (fun hp_ => ?_) (fun hp_ => ?_) (by kernel_rfl) (fun _ _ _ _ _ _ h_ => h_) (fun y6 => ?_)
    · refine OJ.run [13, 14] [15, 16, 17, 18] [0, 5, 20, 21, 22] (m2 := [(0, Sl.v a0), (5, .int .i64 (a1.len : Int)), (20, .bool true), (21, Sl.v a0), (22, .int .i64 (a1.len : Int))]) (by kernel_rfl) (by kernel_rfl) ?_
      refine OJ.idxS (d := 23) (T := 22) (y := .tmp 21) (j := .tmp 22) (E := 5) (cap := a0.cap) (k := .i64) (by kernel_rfl) (by kernel_rfl) (by kernel_rfl) (by kernel_rfl) (by kernel_rfl) (by kernel_rfl) (by kernel_rfl) (by kernel_rfl) (fun p4 => ?_)
      refine OJ.ld (d := 24) (T := 5) (y := .tmp 23) (pend2 := fun x5 => []) (by kernel_rfl) (by kernel_rfl) Ty5 (by kernel_rfl) (by kernel_rfl) (fun _ => rfl) (fun x5 => ?_)
      refine OJ.run [17, 18] [] [0, 5, 26] (m2 := [(0, Sl.v a0), (5, .int .i64 (a1.len : Int)), (26, .bool (x5 == 91))]) (by kernel_rfl) (by kernel_rfl) ?_
      exact OJ.nil ⟨(Cov.mem Cov.nil), rfl, _, rfl, by kernel_rfl⟩
    · refine OJ.run [13, 14, 15, 16, 17, 18] [] [0, 5, 26] (m2 := [(0, Sl.v a0), (5, .int .i64 (a1.len : Int)), (26, .bool false)]) (by kernel_rfl) (by kernel_rfl) ?_
      exact OJ.nil ⟨(Cov.mem Cov.nil), rfl, _, rfl, by kernel_rfl⟩
    · refine OJ.run [19] [20, 21, 22, 23, 24, 25, 26, 27, 28, 29, 30, 31, 32, 33, 34, 35] [0, 5, 27] (m2 := [(0, Sl.v a0), (5, .int .i64 (a1.len : Int)), (27, .bool y6)]) (by kernel_rfl) (by kernel_rfl) ?_
      refine OJ.join (b := y6) [20, 21, 22, 23, 24, 25, 26] [27, 28, 29, 30, 31, 32, 33, 34, 35] [0, 5, 34] (fun y9 => [(0, Sl.v a0), (5, .int .i64 (a1.len : Int)), (34, .bool y9)]) [] [] (by kernel_rfl) (t := 27) (by kernel_rfl) Iff.rfl (fun hp_ => ?_) (fun hp_ => ?_) (by kernel_rfl) (fun _ _ _ _ _ _ h_ => h_) (fun y9 => ?_)
      · refine OJ.run [20, 21, 22] [23, 24, 25, 26] [0, 5, 27, 28, 30] (m2 := [(0, Sl.v a0), (5, .int .i64 (a1.len : Int)), (27, .bool true), (28, Sl.v a0), (30, .int .i64 (IntKind.wrap .i64 ((a1.len : Int) + 1)))]) (by kernel_rfl) (by kernel_rfl) ?_
        refine OJ.idxS (d := 31) (T := 22) (y := .tmp 28) (j := .tmp 30) (E := 5) (cap := a0.cap) (k := .i64) (by kernel_rfl) (by kernel_rfl) (by kernel_rfl) (by kernel_rfl) (by kernel_rfl) (by kernel_rfl) (by kernel_rfl) (by kernel_rfl) (fun p7 => ?_)
        refine OJ.ld (d := 32) (T := 5) (y := .tmp 31) (pend2 := fun x8 => []) (by kernel_rfl) (by kernel_rfl) Ty5 (by kernel_rfl) (by kernel_rfl) (fun _ => rfl) (fun x8 => ?_)
        refine OJ.run [25, 26] [] [0, 5, 34] (m2 := [(0, Sl.v a0), (5, .int .i64 (a1.len : Int)), (34, .bool (x8 == 92))]) (by kernel_rfl) (by kernel_rfl) ?_
        exact OJ.nil ⟨(Cov.mem Cov.nil), rfl, _, rfl, by kernel_rfl⟩
      · refine OJ.run [20, 21, 22, 23, 24, 25, 26] [] [0, 5, 34] (m2 := [(0, Sl.v a0), (5, .int .i64 (a1.len : Int)), (34, .bool false)]) (by kernel_rfl) (by kernel_rfl) ?_
        exact OJ.nil ⟨(Cov.mem Cov.nil), rfl, _, rfl, by kernel_rfl⟩
      · refine OJ.run [27] [28, 29, 30, 31, 32, 33, 34, 35] [0, 5, 35] (m2 := [(0, Sl.v a0), (5, .int .i64 (a1.len : Int)), (35, .bool y9)]) (by kernel_rfl) (by kernel_rfl) ?_
        refine OJ.join (b := y9) [28, 29, 30, 31, 32, 33, 34] [35] [42] (fun y12 => [(42, .bool y12)]) [] [] (by kernel_rfl) (t := 35) (by kernel_rfl) Iff.rfl (fun hp_ => ?_) (fun hp_ => ?_) (by kernel_rfl) (fun _ _ _ _ _ _ h_ => h_) (fun y12 => ?_)
        · refine OJ.run [28, 29, 30] [31, 32, 33, 34] [35, 36, 38] (m2 := [(35, .bool true), (36, Sl.v a0), (38, .int .i64 (IntKind.wrap .i64 ((a1.len : Int) + 2)))]) (by kernel_rfl) (by kernel_rfl) ?_
          refine OJ.idxS (d := 39) (T := 22) (y := .tmp 36) (j := .tmp 38) (E := 5) (cap := a0.cap) (k := .i64) (by kernel_rfl) (by kernel_rfl) (by kernel_rfl) (by kernel_rfl) (by kernel_rfl) (by kernel_rfl) (by kernel_rfl) (by kernel_rfl) (fun p10 => ?_)
          refine OJ.ld (d := 40) (T := 5) (y := .tmp 39) (pend2 := fun x11 => []) (by kernel_rfl) (by kernel_rfl) Ty5 (by kernel_rfl) (by kernel_rfl) (fun _ => rfl) (fun x11 => ?_)
          refine OJ.run [33, 34] [] [42] (m2 := [(42, .bool (x11 == 93))]) (by kernel_rfl) (by kernel_rfl) ?_
          exact OJ.nil ⟨(Cov.mem Cov.nil), rfl, _, rfl, by kernel_rfl⟩
        · refine OJ.run [28, 29, 30, 31, 32, 33, 34] [] [42] (m2 := [(42, .bool false)]) (by kernel_rfl) (by kernel_rfl) ?_
          exact OJ.nil ⟨(Cov.mem Cov.nil), rfl, _, rfl, by kernel_rfl⟩
        · refine OJ.run [35] [] [4] (m2 := [(4, .bool y12)]) (by kernel_rfl) (by kernel_rfl) ?_
          refine OJ.nil ?_
          exact SJ.ret (by kernel_rfl) rfl (Res.run (ys := [.bool y12]) (.tmp (by kernel_rfl) .nil) rfl)

/-! ### weir/weirlaw3.arrived: function 57 -/
noncomputable def weirlaw3_arrived.B : Code := (Try.f57.body).getD .skip
noncomputable def weirlaw3_arrived.cx : Fx := ⟨Try.prog, 57, Try.f57⟩
noncomputable def weirlaw3_arrived.out (r_ : (weirlaw3_Side × Bool)) : Value := .tuple #[c_weirlaw3_Side.val r_.1, .bool r_.2]
noncomputable def weirlaw3_arrived.F0 (r_ : (weirlaw3_Side × Bool)) : Reach := .ret (weirlaw3_arrived.out r_)
noncomputable def weirlaw3_arrived.F1 (a0 : weirlaw3_Side) (b1 : Nat) (b2 : Nat) (r3 : Sl) (r6 : (weirref3_Port × Int)) (y10 : Bool) : (LS Int (weirlaw3_Side × Bool)) → Reach := loopF [.inLoop (c1 (c1 (c2 (c1 (c2 (c2 (c2 (c2 (c2 (c2 weirlaw3_arrived.B)))))))))), .inBlock 0, .code (c2 (c2 (c2 (c2 (c2 (c2 (c2 weirlaw3_arrived.B)))))))] (fun s_ : Int => [(2, .pointer (some (pt b1 0))), (4, .pointer (some (pt b2 0))), (6, Sl.v r3), (10, .bool y10), (11, .int .i64 s_)]) (fun s_ : Int => [(b2, c_weirlaw3_Side.enc z_weirlaw3_Side), (b1, c_weirlaw3_Side.enc (⟨a0.P, r6.1, a0.W⟩ : weirlaw3_Side))]) weirlaw3_arrived.F0
noncomputable def weirlaw3_arrived.L1 (a0 : weirlaw3_Side) (r3 : Sl) (r6 : (weirref3_Port × Int)) (y10 : Bool) (s11 : Int) : M (LS Int (weirlaw3_Side × Bool)) :=
  if s11 < (r3.len : Int) then
    idx r3.a r3.len s11 1 >>= fun p16 =>
    ld (cI .u8) p16 >>= fun x17 =>
    idx r3.a r3.len s11 1 >>= fun p18 =>
    st (cI .u8) p18 (bxor .u8 x17 255) >>= fun _ =>
    pure (LS.next (IntKind.wrap .i64 (s11 + 1)))
  else
    pure (LS.done ((⟨a0.P, r6.1, a0.W⟩ : weirlaw3_Side), y10))
theorem weirlaw3_arrived.L1_ok (a0 : weirlaw3_Side) (b1 : Nat) (b2 : Nat) (r3 : Sl) (r6 : (weirref3_Port × Int)) (y10 : Bool) (s11 : Int) :
    SJ weirlaw3_arrived.cx [.code (c1 (c1 (c2 (c1 (c2 (c2 (c2 (c2 (c2 (c2 weirlaw3_arrived.B)))))))))), .inLoop (c1 (c1 (c2 (c1 (c2 (c2 (c2 (c2 (c2 (c2 weirlaw3_arrived.B)))))))))), .inBlock 0, .code (c2 (c2 (c2 (c2 (c2 (c2 (c2 weirlaw3_arrived.B)))))))] [(2, .pointer (some (pt b1 0))), (4, .pointer (some (pt b2 0))), (6, Sl.v r3), (10, .bool y10), (11, .int .i64 s11)] [(b2, c_weirlaw3_Side.enc z_weirlaw3_Side), (b1, c_weirlaw3_Side.enc (⟨a0.P, r6.1, a0.W⟩ : weirlaw3_Side))] (weirlaw3_arrived.L1 a0 r3 r6 y10 s11) (weirlaw3_arrived.F1 a0 b1 b2 r3 r6 y10) := by
  unfold weirlaw3_arrived.L1
  refine SJ.seq (by kernel_rfl) ?_
  refine SJ.seq (by kernel_rfl) ?_
  refine SJ.region (id := 7) (by kernel_rfl) [0, 1, 2, 3] (by kernel_rfl) ?_
  refine OJ.run [0, 1, 2, 3] [] [2, 4, 6, 10, 11, 42] (m2 := [(2, .pointer (some (pt b1 0))), (4, .pointer (some (pt b2 0))), (6, Sl.v r3), (10, .bool y10), (11, .int .i64 s11), (42, .bool (decide (s11 < (r3.len : Int))))]) (by kernel_rfl) (by kernel_rfl) ?_
  refine OJ.nil ?_
  refine SJ.cond (t := (.tmp 42)) (b := decide (s11 < (r3.len : Int))) (by kernel_rfl) (by kernel_rfl) decide_eq_true_iff (fun hc19 => ?_) (fun hc19 => ?_)
  · refine SJ.skip (by kernel_rfl) ?_
    refine SJ.seq (by kernel_rfl) ?_
    refine SJ.block (id := 1) (by kernel_rfl) ?_
    refine SJ.region (id := 9) (by kernel_rfl) [0, 1, 2, 3, 4, 5, 6, 7, 8] (by kernel_rfl) ?_
    refine OJ.run [0, 1, 2, 3] [4, 5, 6, 7, 8] [2, 4, 6, 10, 11, 45, 46, 47, 48] (m2 := [(2, .pointer (some (pt b1 0))), (4, .pointer (some (pt b2 0))), (6, Sl.v r3), (10, .bool y10), (11, .int .i64 s11), (45, Sl.v r3), (46, .int .i64 s11), (47, Sl.v r3), (48, .int .i64 s11)]) (by kernel_rfl) (by kernel_rfl) ?_
    refine OJ.idxS (d := 49) (T := 22) (y := .tmp 47) (j := .tmp 48) (E := 5) (cap := r3.cap) (k := .i64) (by kernel_rfl) (by kernel_rfl) (by kernel_rfl) (by kernel_rfl) (by kernel_rfl) (by kernel_rfl) (by kernel_rfl) (by kernel_rfl) (fun p16 => ?_)
    refine OJ.ld (d := 50) (T := 5) (y := .tmp 49) (pend2 := fun x17 => []) (by kernel_rfl) (by kernel_rfl) Ty5 (by kernel_rfl) (by kernel_rfl) (fun _ => rfl) (fun x17 => ?_)
    refine OJ.run [6] [7, 8] [2, 4, 6, 10, 11, 45, 46, 51] (m2 := [(2, .pointer (some (pt b1 0))), (4, .pointer (some (pt b2 0))), (6, Sl.v r3), (10, .bool y10), (11, .int .i64 s11), (45, Sl.v r3), (46, .int .i64 s11), (51, .int .u8 (bxor .u8 x17 255))]) (by kernel_rfl) (by kernel_rfl) ?_
    refine OJ.idxS (d := 52) (T := 22) (y := .tmp 45) (j := .tmp 46) (E := 5) (cap := r3.cap) (k := .i64) (by kernel_rfl) (by kernel_rfl) (by kernel_rfl) (by kernel_rfl) (by kernel_rfl) (by kernel_rfl) (by kernel_rfl) (by kernel_rfl) (fun p18 => ?_)
    refine OJ.st (T := 5) (y := .tmp 52) (z := .tmp 51) (owed := []) (by kernel_rfl) (by kernel_rfl) (by kernel_rfl) Ty5 (by kernel_rfl) (by kernel_rfl) ?_
    refine OW.nil ?_
    refine OJ.nil ?_
    refine SJ.inBlock ?_
    refine SJ.region (id := 8) (by kernel_rfl) [0, 1, 2] (by kernel_rfl) ?_
    refine OJ.run [0, 1, 2] [] [2, 4, 6, 10, 11] (m2 := [(2, .pointer (some (pt b1 0))), (4, .pointer (some (pt b2 0))), (6, Sl.v r3), (10, .bool y10), (11, .int .i64 (IntKind.wrap .i64 (s11 + 1)))]) (by kernel_rfl) (by kernel_rfl) ?_
    refine OJ.nil ?_
    exact SJ.at_ [2, 4, 6, 10, 11] rfl (by kernel_rfl)
  · refine SJ.exit (id := 0) (by kernel_rfl) (by rfl) ?_
    refine SJ.seq (by kernel_rfl) ?_
    refine SJ.region (id := 10) (by kernel_rfl) [0, 1, 2, 3] (by kernel_rfl) ?_
    refine OJ.kld (d := 53) (T := 62) (y := .tmp 2) (cd := c_weirlaw3_Side) (j := 1) (b := b1) (o := 0) (⟨a0.P, r6.1, a0.W⟩ : weirlaw3_Side) (pend2 := []) (by kernel_rfl) (by kernel_rfl) Ty62 (by kernel_rfl) rfl (At.whole _) (by kernel_rfl) rfl ?_
    refine OJ.run [1] [2, 3] [4, 53, 54] (m2 := [(4, .pointer (some (pt b2 0))), (53, c_weirlaw3_Side.val (⟨a0.P, r6.1, a0.W⟩ : weirlaw3_Side)), (54, .bool y10)]) (by kernel_rfl) (by kernel_rfl) ?_
    refine OJ.kst (T := 62) (y := .tmp 4) (z := .tmp 53) (cd := c_weirlaw3_Side) (u := (⟨a0.P, r6.1, a0.W⟩ : weirlaw3_Side)) (j := 0) (b := b2) (o := 0) (c_weirlaw3_Side.enc (⟨a0.P, r6.1, a0.W⟩ : weirlaw3_Side)) (h2 := [(b2, c_weirlaw3_Side.enc (⟨a0.P, r6.1, a0.W⟩ : weirlaw3_Side)), (b1, c_weirlaw3_Side.enc (⟨a0.P, r6.1, a0.W⟩ : weirlaw3_Side))]) (owed := []) (by kernel_rfl) (by kernel_rfl) (by kernel_rfl) Ty62 rfl (Upd.whole ((Cod.len _ _).trans (Cod.len _ _).symm)) (by kernel_rfl) (by kernel_rfl) rfl ?_
    refine OW.nil ?_
    refine OJ.run [3] [] [4, 5] (m2 := [(4, .pointer (some (pt b2 0))), (5, .bool y10)]) (by kernel_rfl) (by kernel_rfl) ?_
    refine OJ.nil ?_
    exact SJ.ret (by kernel_rfl) rfl (Res.run (ys := [c_weirlaw3_Side.val (⟨a0.P, r6.1, a0.W⟩ : weirlaw3_Side), .bool y10]) (.cell (j := 0) (b := b2) (cd := c_weirlaw3_Side) (q := (⟨a0.P, r6.1, a0.W⟩ : weirlaw3_Side)) (by kernel_rfl) rfl Ty62 (At.whole _) (.tmp (by kernel_rfl) .nil)) rfl)
noncomputable def weirlaw3_arrived (a0 : weirlaw3_Side) (a1 : Sl) : M (weirlaw3_Side × Bool) :=
  slot 62 >>= fun b1 =>
  slot 62 >>= fun b2 =>
  weirlaw3_wide a1 >>= fun r3 =>
  draw >>= fun _ =>
  cut 1 r3 none (some (a1.len : Int)) none >>= fun r4 =>
  ring_Port_Arrive a0.P r4 >>= fun r5 =>
  weirref3_Arrive a0.R a1 >>= fun r6 =>
  slot 59 >>= fun b7 =>
  weirlaw3_num r5 >>= fun r8 =>
  (if r8 = r6.2 then
      weirlaw3_kept r3 a1 >>= fun r9 =>
      pure r9
    else
      pure false) >>= fun y10 =>
  loopM (fun s_ : Int => weirlaw3_arrived.L1 a0 r3 r6 y10 s_) 0
theorem weirlaw3_arrived_ok (a0 : weirlaw3_Side) (a1 : Sl) : Ref Try.prog 57 [c_weirlaw3_Side.val a0, Sl.v a1] (weirlaw3_arrived a0 a1) weirlaw3_arrived.out := by
  refine Ref.of (cd := weirlaw3_arrived.B) Try.func57 (by kernel_rfl) (by kernel_rfl) ?_
  show SJ weirlaw3_arrived.cx [.code weirlaw3_arrived.B] [(0, c_weirlaw3_Side.val a0), (1, Sl.v a1)] [] (weirlaw3_arrived a0 a1) weirlaw3_arrived.F0
  unfold weirlaw3_arrived
  refine SJ.seq (by kernel_rfl) ?_
  refine SJ.region (id := 0) (by kernel_rfl) [0, 1, 2] (by kernel_rfl) ?_
  refine OJ.slotOf (d := 2) (op := (.box 62 (.tmp 0))) (cd := c_weirlaw3_Side) (u := a0) (owed := []) (by kernel_rfl) (box_run (by kernel_rfl)) (by kernel_rfl) (by kernel_rfl) (by kernel_rfl) (fun b1 => ?_)
  refine OW.nil ?_
  refine OJ.slotOf (d := 4) (op := (.alloc 62)) (cd := c_weirlaw3_Side) (u := z_weirlaw3_Side) (owed := []) (by kernel_rfl) (alloc_run Ty62) (by kernel_rfl) (by kernel_rfl) (by kernel_rfl) (fun b2 => ?_)
  refine OW.nil ?_
  refine OJ.run [2] [] [1, 2, 4] (m2 := [(1, Sl.v a1), (2, .pointer (some (pt b1 0))), (4, .pointer (some (pt b2 0)))]) (by kernel_rfl) (by kernel_rfl) ?_
  refine OJ.nil ?_
  refine SJ.seq (by kernel_rfl) ?_
  refine SJ.region (id := 1) (by kernel_rfl) [0, 1, 2] (by kernel_rfl) ?_
  refine OJ.run [0] [1, 2] [1, 2, 4, 12] (m2 := [(1, Sl.v a1), (2, .pointer (some (pt b1 0))), (4, .pointer (some (pt b2 0))), (12, Sl.v a1)]) (by kernel_rfl) (by kernel_rfl) ?_
  refine OJ.call (d := 13) (g := 20) (ats := #[22]) (args := [.tmp 12]) (vals := [Sl.v a1]) (owed := []) (by kernel_rfl) F20 (by kernel_rfl) (weirlaw3_wide_ok a1) (by kernel_rfl) (by kernel_rfl) (by kernel_rfl) (fun r3 => ?_)
  refine OW.nil ?_
  refine OJ.run [2] [] [1, 2, 4, 6] (m2 := [(1, Sl.v a1), (2, .pointer (some (pt b1 0))), (4, .pointer (some (pt b2 0))), (6, Sl.v r3)]) (by kernel_rfl) (by kernel_rfl) ?_
  refine OJ.nil ?_
  refine SJ.seq (by kernel_rfl) ?_
  refine SJ.draw (id := 2) (kd := [0, 1, 0, 0, 0, 0, 2, 0]) (bef := [0, 1, 0, 0, 8, 28, 63, 127]) (ord := [0, 1, 2, 3, 4, 5, 6, 7]) (by kernel_rfl) mixed (by kernel_rfl) ?_
  refine OJ.run [0] [1, 2, 3, 4, 5, 6, 7] [1, 2, 4, 6, 14] (m2 := [(1, Sl.v a1), (2, .pointer (some (pt b1 0))), (4, .pointer (some (pt b2 0))), (6, Sl.v r3), (14, .pointer (some (pt b1 0)))]) (by kernel_rfl) (by kernel_rfl) ?_
  refine OJ.kld (d := 15) (T := 23) (y := .tmp 14) (cd := cP) (j := 1) (b := b1) (o := 0) a0.P (pend2 := [⟨1, 23, (pt b1 0), cP.val a0.P⟩]) (by kernel_rfl) (by kernel_rfl) Ty23 (by kernel_rfl) rfl (At_weirlaw3_Side_P a0) (by kernel_rfl) rfl ?_
  refine OJ.run [2, 3, 4] [5, 6, 7] [1, 2, 4, 6, 15, 16, 18] (m2 := [(1, Sl.v a1), (2, .pointer (some (pt b1 0))), (4, .pointer (some (pt b2 0))), (6, Sl.v r3), (15, .pointer a0.P), (16, Sl.v r3), (18, .int .i64 (a1.len : Int))]) (by kernel_rfl) (by kernel_rfl) ?_
  refine OJ.cut (d := 19) (t := 22) (E := 5) (y := .tmp 16) (lo := none) (hi := (some (.tmp 18))) (mx := none) (lo' := none) (hi' := some (.i64, (a1.len : Int))) (mx' := none) (by kernel_rfl) (by kernel_rfl) (by kernel_rfl) (by kernel_rfl) (by kernel_rfl) (by kernel_rfl) (by kernel_rfl) (fun h => by cases h) (by kernel_rfl) (by kernel_rfl) (by kernel_rfl) (fun r4 => ?_)
  refine OJ.call (d := 20) (g := 16) (ats := #[23, 22]) (args := [.tmp 15, .tmp 19]) (vals := [.pointer a0.P, Sl.v r4]) (owed := []) (by kernel_rfl) F16 (by kernel_rfl) (ring_Port_Arrive_ok a0.P r4) (by kernel_rfl) (by kernel_rfl) (by kernel_rfl) (fun r5 => ?_)
  refine OW.nil ?_
  refine OJ.run [7] [] [1, 2, 4, 6, 7] (m2 := [(1, Sl.v a1), (2, .pointer (some (pt b1 0))), (4, .pointer (some (pt b2 0))), (6, Sl.v r3), (7, .int .i64 r5)]) (by kernel_rfl) (by kernel_rfl) ?_
  refine OJ.nil ?_
  refine SJ.seq (by kernel_rfl) ?_
  refine SJ.region (id := 3) (by kernel_rfl) [0, 1, 2, 3, 4, 5, 6, 7, 8, 9] (by kernel_rfl) ?_
  refine OJ.run [0] [1, 2, 3, 4, 5, 6, 7, 8, 9] [1, 2, 4, 6, 7, 22] (m2 := [(1, Sl.v a1), (2, .pointer (some (pt b1 0))), (4, .pointer (some (pt b2 0))), (6, Sl.v r3), (7, .int .i64 r5), (22, .pointer (some (pt b1 1)))]) (by kernel_rfl) (by kernel_rfl) ?_
  refine OJ.kld (d := 23) (T := 59) (y := .tmp 22) (cd := c_weirref3_Port) (j := 1) (b := b1) (o := 1) a0.R (pend2 := []) (by kernel_rfl) (by kernel_rfl) Ty59 (by kernel_rfl) rfl (At_weirlaw3_Side_R a0) (by kernel_rfl) rfl ?_
  refine OJ.run [2] [3, 4, 5, 6, 7, 8, 9] [1, 2, 4, 6, 7, 23, 24] (m2 := [(1, Sl.v a1), (2, .pointer (some (pt b1 0))), (4, .pointer (some (pt b2 0))), (6, Sl.v r3), (7, .int .i64 r5), (23, c_weirref3_Port.val a0.R), (24, Sl.v a1)]) (by kernel_rfl) (by kernel_rfl) ?_
  refine OJ.call (d := 25) (g := 64) (ats := #[59, 22]) (args := [.tmp 23, .tmp 24]) (vals := [c_weirref3_Port.val a0.R, Sl.v a1]) (owed := []) (by kernel_rfl) F64 (by kernel_rfl) (weirref3_Arrive_ok a0.R a1) (by kernel_rfl) (by kernel_rfl) (by kernel_rfl) (fun r6 => ?_)
  refine OW.nil ?_
  refine OJ.run [4, 5, 6] [7, 8, 9] [1, 2, 4, 6, 7, 26, 27] (m2 := [(1, Sl.v a1), (2, .pointer (some (pt b1 0))), (4, .pointer (some (pt b2 0))), (6, Sl.v r3), (7, .int .i64 r5), (26, c_weirref3_Port.val r6.1), (27, .int .i64 r6.2)]) (by kernel_rfl) (by kernel_rfl) ?_
  refine OJ.slotOf (d := 8) (op := (.alloc 59)) (cd := c_weirref3_Port) (u := z_weirref3_Port) (owed := []) (by kernel_rfl) (alloc_run Ty59) (by kernel_rfl) (by kernel_rfl) (by kernel_rfl) (fun b7 => ?_)
  refine OW.nil ?_
  refine OJ.kst (T := 59) (y := .tmp 8) (z := .tmp 26) (cd := c_weirref3_Port) (u := r6.1) (j := 0) (b := b7) (o := 0) (c_weirref3_Port.enc r6.1) (h2 := [(b7, c_weirref3_Port.enc r6.1), (b2, c_weirlaw3_Side.enc z_weirlaw3_Side), (b1, c_weirlaw3_Side.enc a0)]) (owed := []) (by kernel_rfl) (by kernel_rfl) (by kernel_rfl) Ty59 rfl (Upd.whole ((Cod.len _ _).trans (Cod.len _ _).symm)) (by kernel_rfl) (by kernel_rfl) rfl ?_
  refine OW.nil ?_
  refine OJ.run [9] [] [1, 2, 4, 6, 7, 8, 9] (m2 := [(1, Sl.v a1), (2, .pointer (some (pt b1 0))), (4, .pointer (some (pt b2 0))), (6, Sl.v r3), (7, .int .i64 r5), (8, .pointer (some (pt b7 0))), (9, .int .i64 r6.2)]) (by kernel_rfl) (by kernel_rfl) ?_
  refine OJ.nil ?_
  refine SJ.seq (by kernel_rfl) ?_
  refine SJ.region (id := 4) (by kernel_rfl) [0, 1, 2] (by kernel_rfl) ?_
  refine OJ.kld (d := 28) (T := 59) (y := .tmp 8) (cd := c_weirref3_Port) (j := 0) (b := b7) (o := 0) r6.1 (pend2 := []) (by kernel_rfl) (by kernel_rfl) Ty59 (by kernel_rfl) rfl (At.whole _) (by kernel_rfl) rfl ?_
  refine OJ.run [1] [2] [1, 2, 4, 6, 7, 9, 28, 29] (m2 := [(1, Sl.v a1), (2, .pointer (some (pt b1 0))), (4, .pointer (some (pt b2 0))), (6, Sl.v r3), (7, .int .i64 r5), (9, .int .i64 r6.2), (28, c_weirref3_Port.val r6.1), (29, .pointer (some (pt b1 1)))]) (by kernel_rfl) (by kernel_rfl) ?_
  refine OJ.kst (T := 59) (y := .tmp 29) (z := .tmp 28) (cd := c_weirref3_Port) (u := r6.1) (j := 2) (b := b1) (o := 1) (c_weirlaw3_Side.enc (⟨a0.P, r6.1, a0.W⟩ : weirlaw3_Side)) (h2 := [(b7, c_weirref3_Port.enc r6.1), (b2, c_weirlaw3_Side.enc z_weirlaw3_Side), (b1, c_weirlaw3_Side.enc (⟨a0.P, r6.1, a0.W⟩ : weirlaw3_Side))]) (owed := []) (by kernel_rfl) (by kernel_rfl) (by kernel_rfl) Ty59 rfl (Up_weirlaw3_Side_R a0 r6.1) (by kernel_rfl) (by kernel_rfl) rfl ?_
  refine OW.nil ?_
  refine OJ.nil ?_
  refine SJ.seq (by kernel_rfl) ?_
  refine SJ.region (id := 5) (by kernel_rfl) [0, 1, 2, 3, 4, 5, 6, 7, 8, 9] (by kernel_rfl) ?_
  refine OJ.run [0] [1, 2, 3, 4, 5, 6, 7, 8, 9] [1, 2, 4, 6, 9, 30] (m2 := [(1, Sl.v a1), (2, .pointer (some (pt b1 0))), (4, .pointer (some (pt b2 0))), (6, Sl.v r3), (9, .int .i64 r6.2), (30, .int .i64 r5)]) (by kernel_rfl) (by kernel_rfl) ?_
  refine OJ.call (d := 31) (g := 14) (ats := #[24]) (args := [.tmp 30]) (vals := [.int .i64 r5]) (owed := []) (by kernel_rfl) F14 (by kernel_rfl) (weirlaw3_num_ok r5) (by kernel_rfl) (by kernel_rfl) (by kernel_rfl) (fun r8 => ?_)
  refine OW.nil ?_
  refine OJ.run [2, 3, 4] [5, 6, 7, 8, 9] [1, 2, 4, 6, 34] (m2 := [(1, Sl.v a1), (2, .pointer (some (pt b1 0))), (4, .pointer (some (pt b2 0))), (6, Sl.v r3), (34, .bool (r8 == r6.2))]) (by kernel_rfl) (by kernel_rfl) ?_
  refine OJ.join (b := (r8 == r6.2)) [5, 6, 7, 8] [9] [2, 4, 6, 38] (fun y10 => [(2, .pointer (some (pt b1 0))), (4, .pointer (some (pt b2 0))), (6, Sl.v r3), (38, .bool y10)]) [] [] (by kernel_rfl) (t := 34) (by kernel_rfl) beq_iff_eq (fun hp_ => ?_) (fun hp_ => ?_) (by kernel_rfl) (fun _ _ _ _ _ _ h_ => h_) (fun y10 => ?_)
  · refine OJ.run [5, 6] [7, 8] [2, 4, 6, 34, 35, 36] (m2 := [(2, .pointer (some (pt b1 0))), (4, .pointer (some (pt b2 0))), (6, Sl.v r3), (34, .bool true), (35, Sl.v r3), (36, Sl.v a1)]) (by kernel_rfl) (by kernel_rfl) ?_
    refine OJ.call (d := 37) (g := 65) (ats := #[22, 22]) (args := [.tmp 35, .tmp 36]) (vals := [Sl.v r3, Sl.v a1]) (owed := []) (by kernel_rfl) F65 (by kernel_rfl) (weirlaw3_kept_ok r3 a1) (by kernel_rfl) (by kernel_rfl) (by kernel_rfl) (fun r9 => ?_)
    refine OW.nil ?_
    refine OJ.run [8] [] [2, 4, 6, 38] (m2 := [(2, .pointer (some (pt b1 0))), (4, .pointer (some (pt b2 0))), (6, Sl.v r3), (38, .bool r9)]) (by kernel_rfl) (by kernel_rfl) ?_
    exact OJ.nil ⟨(Cov.mem Cov.nil), rfl, _, rfl, by kernel_rfl⟩
  · refine OJ.run [5, 6, 7, 8] [] [2, 4, 6, 38] (m2 := [(2, .pointer (some (pt b1 0))), (4, .pointer (some (pt b2 0))), (6, Sl.v r3), (38, .bool false)]) (by kernel_rfl) (by kernel_rfl) ?_
    exact OJ.nil ⟨(Cov.mem Cov.nil), rfl, _, rfl, by kernel_rfl⟩
  · refine OJ.run [9] [] [2, 4, 6, 10] (m2 := [(2, .pointer (some (pt b1 0))), (4, .pointer (some (pt b2 0))), (6, Sl.v r3), (10, .bool y10)]) (by kernel_rfl) (by kernel_rfl) ?_
    refine OJ.nil ?_
    refine SJ.seq (by kernel_rfl) ?_
    refine SJ.seq (by kernel_rfl) ?_
    refine SJ.region (id := 6) (by kernel_rfl) [0] (by kernel_rfl) ?_
    refine OJ.run [0] [] [2, 4, 6, 10, 11] (m2 := [(2, .pointer (some (pt b1 0))), (4, .pointer (some (pt b2 0))), (6, Sl.v r3), (10, .bool y10), (11, .int .i64 0)]) (by kernel_rfl) (by kernel_rfl) ?_
    refine OJ.nil ?_
    refine SJ.block (id := 0) (by kernel_rfl) ?_
    refine SJ.forget (List.Sublist.cons _ (List.Sublist.cons_cons _ (List.Sublist.cons_cons _ List.Sublist.slnil))) ?_
    exact SJ.loop (fun s_ : Int => [(2, .pointer (some (pt b1 0))), (4, .pointer (some (pt b2 0))), (6, Sl.v r3), (10, .bool y10), (11, .int .i64 s_)]) (fun s_ : Int => [(b2, c_weirlaw3_Side.enc z_weirlaw3_Side), (b1, c_weirlaw3_Side.enc (⟨a0.P, r6.1, a0.W⟩ : weirlaw3_Side))]) [2, 4, 6, 10, 11] (by kernel_rfl) (by kernel_rfl) rfl (fun _ _ => rfl) (fun s_ => weirlaw3_arrived.L1_ok a0 b1 b2 r3 r6 y10 s_)

/-! ### weir/weirref3.Poll: function 66 -/
noncomputable def weirref3_Poll.B : Code := (Try.f66.body).getD .skip
noncomputable def weirref3_Poll.cx : Fx := ⟨Try.prog, 66, Try.f66⟩
noncomputable def weirref3_Poll.out (r_ : (weirref3_Port × Int × Int × Bool)) : Value := .tuple #[c_weirref3_Port.val r_.1, .int .i64 r_.2.1, .int .i64 r_.2.2.1, .bool r_.2.2.2]
noncomputable def weirref3_Poll.F0 (r_ : (weirref3_Port × Int × Int × Bool)) : Reach := .ret (weirref3_Poll.out r_)
noncomputable def weirref3_Poll (a0 : weirref3_Port) : M (weirref3_Port × Int × Int × Bool) :=
  slot 59 >>= fun b1 =>
  slot 59 >>= fun b2 =>
  weirref3_first a0 3 >>= fun r3 =>
  if r3 < 0 then
    pure (a0, 0, 0, false)
  else
    draw >>= fun _ =>
    idx a0.L.a a0.L.len r3 4 >>= fun p4 =>
    ld (cI .i64) (Addr.add p4 2) >>= fun x5 =>
    weirref3_moved a0 r3 4 >>= fun r6 =>
    same (cI .i64) (Addr.add p4 2) x5 >>= fun _ =>
    same (cI .i64) (Addr.add p4 2) x5 >>= fun _ =>
    pure (r6, r3, x5, true)
theorem weirref3_Poll_ok (a0 : weirref3_Port) : Ref Try.prog 66 [c_weirref3_Port.val a0] (weirref3_Poll a0) weirref3_Poll.out := by
  refine Ref.of (cd := weirref3_Poll.B) Try.func66 (by kernel_rfl) (by kernel_rfl) ?_
  show SJ weirref3_Poll.cx [.code weirref3_Poll.B] [(0, c_weirref3_Port.val a0)] [] (weirref3_Poll a0) weirref3_Poll.F0
  unfold weirref3_Poll
  refine SJ.seq (by kernel_rfl) ?_
  refine SJ.region (id := 0) (by kernel_rfl) [0, 1, 2, 3, 4] (by kernel_rfl) ?_
  refine OJ.slotOf (d := 1) (op := (.box 59 (.tmp 0))) (cd := c_weirref3_Port) (u := a0) (owed := []) (by kernel_rfl) (box_run (by kernel_rfl)) (by kernel_rfl) (by kernel_rfl) (by kernel_rfl) (fun b1 => ?_)
  refine OW.nil ?_
  refine OJ.slotOf (d := 2) (op := (.alloc 59)) (cd := c_weirref3_Port) (u := z_weirref3_Port) (owed := []) (by kernel_rfl) (alloc_run Ty59) (by kernel_rfl) (by kernel_rfl) (by kernel_rfl) (fun b2 => ?_)
  refine OW.nil ?_
  refine OJ.run [2, 3, 4] [] [1, 2] (m2 := [(1, .pointer (some (pt b1 0))), (2, .pointer (some (pt b2 0)))]) (by kernel_rfl) (by kernel_rfl) ?_
  refine OJ.nil ?_
  refine SJ.seq (by kernel_rfl) ?_
  refine SJ.region (id := 1) (by kernel_rfl) [0, 1, 2] (by kernel_rfl) ?_
  refine OJ.kld (d := 7) (T := 59) (y := .tmp 1) (cd := c_weirref3_Port) (j := 1) (b := b1) (o := 0) a0 (pend2 := []) (by kernel_rfl) (by kernel_rfl) Ty59 (by kernel_rfl) rfl (At.whole _) (by kernel_rfl) rfl ?_
  refine OJ.call (d := 8) (g := 77) (ats := #[59, 3]) (args := [.tmp 7, .const (.int .i64 3)]) (vals := [c_weirref3_Port.val a0, .int .i64 3]) (owed := []) (by kernel_rfl) F77 (by kernel_rfl) (weirref3_first_ok a0 3) (by kernel_rfl) (by kernel_rfl) (by kernel_rfl) (fun r3 => ?_)
  refine OW.nil ?_
  refine OJ.run [2] [] [1, 2, 6] (m2 := [(1, .pointer (some (pt b1 0))), (2, .pointer (some (pt b2 0))), (6, .int .i64 r3)]) (by kernel_rfl) (by kernel_rfl) ?_
  refine OJ.nil ?_
  refine SJ.seq (by kernel_rfl) ?_
  refine SJ.seq (by kernel_rfl) ?_
  refine SJ.region (id := 2) (by kernel_rfl) [0, 1] (by kernel_rfl) ?_
  refine OJ.run [0, 1] [] [1, 2, 6, 10] (m2 := [(1, .pointer (some (pt b1 0))), (2, .pointer (some (pt b2 0))), (6, .int .i64 r3), (10, .bool (decide (r3 < 0)))]) (by kernel_rfl) (by kernel_rfl) ?_
  refine OJ.nil ?_
  refine SJ.cond (t := (.tmp 10)) (b := decide (r3 < 0)) (by kernel_rfl) (by kernel_rfl) decide_eq_true_iff (fun hc7 => ?_) (fun hc7 => ?_)
  · refine SJ.seq (by kernel_rfl) ?_
    refine SJ.region (id := 3) (by kernel_rfl) [0, 1, 2, 3, 4] (by kernel_rfl) ?_
    refine OJ.kld (d := 11) (T := 59) (y := .tmp 1) (cd := c_weirref3_Port) (j := 1) (b := b1) (o := 0) a0 (pend2 := []) (by kernel_rfl) (by kernel_rfl) Ty59 (by kernel_rfl) rfl (At.whole _) (by kernel_rfl) rfl ?_
    refine OJ.kst (T := 59) (y := .tmp 2) (z := .tmp 11) (cd := c_weirref3_Port) (u := a0) (j := 0) (b := b2) (o := 0) (c_weirref3_Port.enc a0) (h2 := [(b2, c_weirref3_Port.enc a0), (b1, c_weirref3_Port.enc a0)]) (owed := []) (by kernel_rfl) (by kernel_rfl) (by kernel_rfl) Ty59 rfl (Upd.whole ((Cod.len _ _).trans (Cod.len _ _).symm)) (by kernel_rfl) (by kernel_rfl) rfl ?_
    refine OW.nil ?_
    refine OJ.run [2, 3, 4] [] [2, 3, 4, 5] (m2 := [(2, .pointer (some (pt b2 0))), (3, .int .i64 0), (4, .int .i64 0), (5, .bool false)]) (by kernel_rfl) (by kernel_rfl) ?_
    refine OJ.nil ?_
    exact SJ.ret (by kernel_rfl) rfl (Res.run (ys := [c_weirref3_Port.val a0, .int .i64 0, .int .i64 0, .bool false]) (.cell (j := 0) (b := b2) (cd := c_weirref3_Port) (q := a0) (by kernel_rfl) rfl Ty59 (At.whole _) (.tmp (by kernel_rfl) (.tmp (by kernel_rfl) (.tmp (by kernel_rfl) .nil)))) rfl)
  · refine SJ.skip (by kernel_rfl) ?_
    refine SJ.seq (by kernel_rfl) ?_
    refine SJ.draw (id := 4) (kd := [1, 0, 2, 0, 0, 1, 0, 0, 0, 1, 2, 0, 0, 0]) (bef := [0, 0, 3, 0, 0, 16, 0, 112, 240, 496, 7, 1039, 4095, 8191]) (ord := [0, 1, 4, 5, 6, 7, 8, 9, 2, 3, 10, 11, 12, 13]) (by kernel_rfl) mixed (by kernel_rfl) ?_
    refine OJ.kld (d := 12) (T := 59) (y := .tmp 1) (cd := c_weirref3_Port) (j := 1) (b := b1) (o := 0) a0 (pend2 := [⟨0, 59, (pt b1 0), c_weirref3_Port.val a0⟩]) (by kernel_rfl) (by kernel_rfl) Ty59 (by kernel_rfl) rfl (At.whole _) (by kernel_rfl) rfl ?_
    refine OJ.run [1, 4] [5, 6, 7, 8, 9, 2, 3, 10, 11, 12, 13] [2, 6, 12, 13, 16] (m2 := [(2, .pointer (some (pt b2 0))), (6, .int .i64 r3), (12, c_weirref3_Port.val a0), (13, .int .i64 r3), (16, .pointer (some (pt b1 3)))]) (by kernel_rfl) (by kernel_rfl) ?_
    refine OJ.kld (d := 17) (T := 57) (y := .tmp 16) (cd := cL) (j := 1) (b := b1) (o := 3) a0.L (pend2 := [⟨5, 57, (pt b1 3), cL.val a0.L⟩, ⟨0, 59, (pt b1 0), c_weirref3_Port.val a0⟩]) (by kernel_rfl) (by kernel_rfl) Ty57 (by kernel_rfl) rfl (At_weirref3_Port_L a0) (by kernel_rfl) rfl ?_
    refine OJ.run [6] [7, 8, 9, 2, 3, 10, 11, 12, 13] [2, 6, 12, 13, 17, 18] (m2 := [(2, .pointer (some (pt b2 0))), (6, .int .i64 r3), (12, c_weirref3_Port.val a0), (13, .int .i64 r3), (17, Sl.v a0.L), (18, .int .i64 r3)]) (by kernel_rfl) (by kernel_rfl) ?_
    refine OJ.idxS (d := 19) (T := 57) (y := .tmp 17) (j := .tmp 18) (E := 110) (cap := a0.L.cap) (k := .i64) (by kernel_rfl) (by kernel_rfl) (by kernel_rfl) (by kernel_rfl) (by kernel_rfl) (by kernel_rfl) (by kernel_rfl) (by kernel_rfl) (fun p4 => ?_)
    refine OJ.run [8] [9, 2, 3, 10, 11, 12, 13] [2, 6, 12, 13, 20] (m2 := [(2, .pointer (some (pt b2 0))), (6, .int .i64 r3), (12, c_weirref3_Port.val a0), (13, .int .i64 r3), (20, .pointer (some (Addr.add p4 2)))]) (by kernel_rfl) (by kernel_rfl) ?_
    refine OJ.ld (d := 21) (T := 3) (y := .tmp 20) (pend2 := fun x5 => [⟨9, 3, (Addr.add p4 2), (cI .i64).val x5⟩, ⟨5, 57, (pt b1 3), cL.val a0.L⟩, ⟨0, 59, (pt b1 0), c_weirref3_Port.val a0⟩]) (by kernel_rfl) (by kernel_rfl) Ty3 (by kernel_rfl) (by kernel_rfl) (fun _ => rfl) (fun x5 => ?_)
    refine OJ.call (d := 14) (g := 80) (ats := #[59, 3, 3]) (args := [.tmp 12, .tmp 13, .const (.int .i64 4)]) (vals := [c_weirref3_Port.val a0, .int .i64 r3, .int .i64 4]) (owed := [⟨9, 3, (Addr.add p4 2), (cI .i64).val x5⟩, ⟨5, 57, (pt b1 3), cL.val a0.L⟩]) (by kernel_rfl) F80 (by kernel_rfl) (weirref3_moved_ok a0 r3 4) (by kernel_rfl) (by kernel_rfl) (by kernel_rfl) (fun r6 => ?_)
    refine OW.same Ty3 ?_
    refine OW.known (j := 1) (q := a0.L) Ty57 rfl (At_weirref3_Port_L a0) ?_
    refine OW.nil ?_
    refine OJ.run [3] [10, 11, 12, 13] [2, 21, 14, 15] (m2 := [(2, .pointer (some (pt b2 0))), (21, .int .i64 x5), (14, c_weirref3_Port.val r6), (15, .int .i64 r3)]) (by kernel_rfl) (by kernel_rfl) ?_
    refine OJ.kst (T := 59) (y := .tmp 2) (z := .tmp 14) (cd := c_weirref3_Port) (u := r6) (j := 0) (b := b2) (o := 0) (c_weirref3_Port.enc r6) (h2 := [(b2, c_weirref3_Port.enc r6), (b1, c_weirref3_Port.enc a0)]) (owed := [⟨9, 3, (Addr.add p4 2), (cI .i64).val x5⟩, ⟨5, 57, (pt b1 3), cL.val a0.L⟩]) (by kernel_rfl) (by kernel_rfl) (by kernel_rfl) Ty59 rfl (Upd.whole ((Cod.len _ _).trans (Cod.len _ _).symm)) (by kernel_rfl) (by kernel_rfl) rfl ?_
    refine OW.same Ty3 ?_
    refine OW.known (j := 1) (q := a0.L) Ty57 rfl (At_weirref3_Port_L a0) ?_
    refine OW.nil ?_
    refine OJ.run [11, 12, 13] [] [2, 3, 4, 5] (m2 := [(2, .pointer (some (pt b2 0))), (3, .int .i64 r3), (4, .int .i64 x5), (5, .bool true)]) (by kernel_rfl) (by kernel_rfl) ?_
    refine OJ.nil ?_
    exact SJ.ret (by kernel_rfl) rfl (Res.run (ys := [c_weirref3_Port.val r6, .int .i64 r3, .int .i64 x5, .bool true]) (.cell (j := 0) (b := b2) (cd := c_weirref3_Port) (q := r6) (by kernel_rfl) rfl Ty59 (At.whole _) (.tmp (by kernel_rfl) (.tmp (by kernel_rfl) (.tmp (by kernel_rfl) .nil)))) rfl)
end Go.Proofs.Ytoddkagehbcfjaa.Lx
