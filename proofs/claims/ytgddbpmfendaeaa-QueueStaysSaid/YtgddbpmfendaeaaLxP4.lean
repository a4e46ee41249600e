/- Programs of the M-world for Go functions, each with the proof that the Go text does what it says. Printed by lxgen.py. -/
import Derived.Test.YtgddbpmfendaeaaLxT
import Derived.Test.YtgddbpmfendaeaaLxP0
import Derived.Test.YtgddbpmfendaeaaLxP1
import Derived.Test.YtgddbpmfendaeaaLxP2
import Derived.Test.YtgddbpmfendaeaaLxP3
set_option linter.unusedVariables false
set_option linter.unusedSimpArgs false
namespace Go.Proofs.Ytgddbpmfendaeaa.Lx
open Go Go.Proofs
/-! ### weir/weirlaw18.QueueStays: function 12 -/
noncomputable def weirlaw18_QueueStays.B : Code := (Try.f12.body).getD .skip
noncomputable def weirlaw18_QueueStays.cx : Fx := ⟨Try.prog, 12, Try.f12⟩
noncomputable def weirlaw18_QueueStays.out (r_ : Bool) : Value := .bool r_
noncomputable def weirlaw18_QueueStays.F0 (r_ : Bool) : Reach := .ret (weirlaw18_QueueStays.out r_)
noncomputable def weirlaw18_QueueStays.F1 (a1 : Sl) (r1 : ((Option Addr) × Sl)) (r2 : ((Option Addr) × Sl)) : (LS Int Bool) → Reach := loopF [.inLoop (c1 (c1 (c2 (c1 (c2 (c2 (c2 (c2 weirlaw18_QueueStays.B)))))))), .inBlock 0, .code (c2 (c2 (c2 (c2 (c2 weirlaw18_QueueStays.B)))))] (fun s_ : Int => [(0, Sl.v r1.2), (1, Sl.v a1), (5, .pointer r1.1), (6, .pointer r2.1), (8, .int .i64 s_)]) (fun s_ : Int => []) weirlaw18_QueueStays.F0
noncomputable def weirlaw18_QueueStays.L1 (a1 : Sl) (r1 : ((Option Addr) × Sl)) (r2 : ((Option Addr) × Sl)) (s10 : Int) : M (LS Int Bool) :=
  if s10 < (a1.len : Int) then
    idx a1.a a1.len s10 5 >>= fun p77 =>
    ld c_weirlaw18_Op p77 >>= fun x78 =>
    slot 48 >>= fun b79 =>
    queue_Queue_Peek r1.1 >>= fun r80 =>
    queue_Queue_Len r1.1 x78.Class >>= fun r81 =>
    queue_Queue_Bytes r1.1 x78.Class >>= fun r82 =>
    queue_Queue_Push r1.1 (r1.2.len : Int) 5 5 >>= fun r83 =>
    weirlaw18_num r83 >>= fun r84 =>
    (if r84 ≠ 181 then
        pure true
      else
        queue_Queue_Push r1.1 0 0 5 >>= fun r85 =>
        weirlaw18_num r85 >>= fun r86 =>
        pure (r86 != 182)) >>= fun y87 =>
    if y87 = true then
      pure (LS.done false)
    else
      if x78.Kind = 1 then
        draw >>= fun _ =>
        queue_Queue_Push r1.1 x78.Class x78.Size x78.Item >>= fun r114 =>
        weirlaw18_num r114 >>= fun r115 =>
        queue_Queue_Push r2.1 x78.Class x78.Size x78.Item >>= fun r116 =>
        weirlaw18_num r116 >>= fun r117 =>
        if r115 ≠ r117 then
          pure (LS.done false)
        else
          pure (LS.next (IntKind.wrap .i64 (s10 + 1)))
      else
        if x78.Kind = 2 then
          queue_Queue_Pop r1.1 >>= fun r129 =>
          queue_Queue_Pop r2.1 >>= fun r130 =>
          (if r129.1 ≠ r130.1 then
              pure true
            else
              pure (r129.2.1 != r130.2.1)) >>= fun y131 =>
          (if y131 = true then
              pure true
            else
              pure (!(r129.2.2 == r130.2.2))) >>= fun y132 =>
          if y132 = true then
            pure (LS.done false)
          else
            pure (LS.next (IntKind.wrap .i64 (s10 + 1)))
        else
          if x78.Kind = 4 then
            queue_Queue_Tick r1.1 >>= fun r136 =>
            queue_Queue_Tick r2.1 >>= fun r137 =>
            pure (LS.next (IntKind.wrap .i64 (s10 + 1)))
          else
            pure (LS.next (IntKind.wrap .i64 (s10 + 1)))
  else
    pure (LS.done true)
theorem weirlaw18_QueueStays.L1_ok (a1 : Sl) (r1 : ((Option Addr) × Sl)) (r2 : ((Option Addr) × Sl)) (s10 : Int) :
    SJ weirlaw18_QueueStays.cx [.code (c1 (c1 (c2 (c1 (c2 (c2 (c2 (c2 weirlaw18_QueueStays.B)))))))), .inLoop (c1 (c1 (c2 (c1 (c2 (c2 (c2 (c2 weirlaw18_QueueStays.B)))))))), .inBlock 0, .code (c2 (c2 (c2 (c2 (c2 weirlaw18_QueueStays.B)))))] [(0, Sl.v r1.2), (1, Sl.v a1), (5, .pointer r1.1), (6, .pointer r2.1), (8, .int .i64 s10)] [] (weirlaw18_QueueStays.L1 a1 r1 r2 s10) (weirlaw18_QueueStays.F1 a1 r1 r2) := by
  unfold weirlaw18_QueueStays.L1
  refine SJ.seq (by kernel_rfl) ?_
  refine SJ.seq (by kernel_rfl) ?_
  refine SJ.region (id := 6) (by kernel_rfl) [0, 1, 2, 3] (by kernel_rfl) ?_
  refine OJ.run [0, 1, 2, 3] [] [0, 1, 5, 6, 8, 47] (m2 := [(0, Sl.v r1.2), (1, Sl.v a1), (5, .pointer r1.1), (6, .pointer r2.1), (8, .int .i64 s10), (47, .bool (decide (s10 < (a1.len : Int))))]) (by kernel_rfl) (by kernel_rfl) ?_
  refine OJ.nil ?_
  refine SJ.cond (t := (.tmp 47)) (b := decide (s10 < (a1.len : Int))) (by kernel_rfl) (by kernel_rfl) decide_eq_true_iff (fun hc142 => ?_) (fun hc142 => ?_)
  · refine SJ.skip (by kernel_rfl) ?_
    refine SJ.seq (by kernel_rfl) ?_
    refine SJ.block (id := 1) (by kernel_rfl) ?_
    refine SJ.seq (by kernel_rfl) ?_
    refine SJ.region (id := 8) (by kernel_rfl) [0, 1, 2, 3, 4, 5] (by kernel_rfl) ?_
    refine OJ.run [0, 1] [2, 3, 4, 5] [0, 1, 5, 6, 8, 50, 51] (m2 := [(0, Sl.v r1.2), (1, Sl.v a1), (5, .pointer r1.1), (6, .pointer r2.1), (8, .int .i64 s10), (50, Sl.v a1), (51, .int .i64 s10)]) (by kernel_rfl) (by kernel_rfl) ?_
    refine OJ.idxS (d := 52) (T := 53) (y := .tmp 50) (j := .tmp 51) (E := 48) (cap := a1.cap) (k := .i64) (by kernel_rfl) (by kernel_rfl) (by kernel_rfl) (by kernel_rfl) (by kernel_rfl) (by kernel_rfl) (by kernel_rfl) (by kernel_rfl) (fun p77 => ?_)
    refine OJ.ld (d := 53) (T := 48) (y := .tmp 52) (pend2 := fun x78 => []) (by kernel_rfl) (by kernel_rfl) Ty48 (by kernel_rfl) (by kernel_rfl) (fun _ => rfl) (fun x78 => ?_)
    refine OJ.slotOf (d := 9) (op := (.alloc 48)) (cd := c_weirlaw18_Op) (u := z_weirlaw18_Op) (owed := []) (by kernel_rfl) (alloc_run Ty48) (by kernel_rfl) (by kernel_rfl) (by kernel_rfl) (fun b79 => ?_)
    refine OW.nil ?_
    refine OJ.kst (T := 48) (y := .tmp 9) (z := .tmp 53) (cd := c_weirlaw18_Op) (u := x78) (j := 0) (b := b79) (o := 0) (c_weirlaw18_Op.enc x78) (h2 := [(b79, c_weirlaw18_Op.enc x78)]) (owed := []) (by kernel_rfl) (by kernel_rfl) (by kernel_rfl) Ty48 rfl (Upd.whole ((Cod.len _ _).trans (Cod.len _ _).symm)) (by kernel_rfl) (by kernel_rfl) rfl ?_
    refine OW.nil ?_
    refine OJ.nil ?_
    refine SJ.seq (by kernel_rfl) ?_
    refine SJ.region (id := 9) (by kernel_rfl) [0, 1] (by kernel_rfl) ?_
    refine OJ.run [0] [1] [0, 1, 5, 6, 8, 9, 54] (m2 := [(0, Sl.v r1.2), (1, Sl.v a1), (5, .pointer r1.1), (6, .pointer r2.1), (8, .int .i64 s10), (9, .pointer (some (pt b79 0))), (54, .pointer r1.1)]) (by kernel_rfl) (by kernel_rfl) ?_
    refine OJ.call (d := 55) (g := 31) (ats := #[29]) (args := [.tmp 54]) (vals := [.pointer r1.1]) (owed := []) (by kernel_rfl) F31 (by kernel_rfl) (queue_Queue_Peek_ok r1.1) (by kernel_rfl) (by kernel_rfl) (by kernel_rfl) (fun r80 => ?_)
    refine OW.nil ?_
    refine OJ.nil ?_
    refine SJ.seq (by kernel_rfl) ?_
    refine SJ.region (id := 10) (by kernel_rfl) [0, 1, 2, 3] (by kernel_rfl) ?_
    refine OJ.run [0, 1] [2, 3] [0, 1, 5, 6, 8, 9, 56, 57] (m2 := [(0, Sl.v r1.2), (1, Sl.v a1), (5, .pointer r1.1), (6, .pointer r2.1), (8, .int .i64 s10), (9, .pointer (some (pt b79 0))), (56, .pointer r1.1), (57, .pointer (some (pt b79 2)))]) (by kernel_rfl) (by kernel_rfl) ?_
    refine OJ.kld (d := 58) (T := 3) (y := .tmp 57) (cd := (cI .i64)) (j := 0) (b := b79) (o := 2) x78.Class (pend2 := []) (by kernel_rfl) (by kernel_rfl) Ty3 (by kernel_rfl) rfl (At_weirlaw18_Op_Class x78) (by kernel_rfl) rfl ?_
    refine OJ.call (d := 59) (g := 35) (ats := #[29, 3]) (args := [.tmp 56, .tmp 58]) (vals := [.pointer r1.1, .int .i64 x78.Class]) (owed := []) (by kernel_rfl) F35 (by kernel_rfl) (queue_Queue_Len_ok r1.1 x78.Class) (by kernel_rfl) (by kernel_rfl) (by kernel_rfl) (fun r81 => ?_)
    refine OW.nil ?_
    refine OJ.nil ?_
    refine SJ.seq (by kernel_rfl) ?_
    refine SJ.region (id := 11) (by kernel_rfl) [0, 1, 2, 3] (by kernel_rfl) ?_
    refine OJ.run [0, 1] [2, 3] [0, 1, 5, 6, 8, 9, 60, 61] (m2 := [(0, Sl.v r1.2), (1, Sl.v a1), (5, .pointer r1.1), (6, .pointer r2.1), (8, .int .i64 s10), (9, .pointer (some (pt b79 0))), (60, .pointer r1.1), (61, .pointer (some (pt b79 2)))]) (by kernel_rfl) (by kernel_rfl) ?_
    refine OJ.kld (d := 62) (T := 3) (y := .tmp 61) (cd := (cI .i64)) (j := 0) (b := b79) (o := 2) x78.Class (pend2 := []) (by kernel_rfl) (by kernel_rfl) Ty3 (by kernel_rfl) rfl (At_weirlaw18_Op_Class x78) (by kernel_rfl) rfl ?_
    refine OJ.call (d := 63) (g := 36) (ats := #[29, 3]) (args := [.tmp 60, .tmp 62]) (vals := [.pointer r1.1, .int .i64 x78.Class]) (owed := []) (by kernel_rfl) F36 (by kernel_rfl) (queue_Queue_Bytes_ok r1.1 x78.Class) (by kernel_rfl) (by kernel_rfl) (by kernel_rfl) (fun r82 => ?_)
    refine OW.nil ?_
    refine OJ.nil ?_
    refine SJ.seq (by kernel_rfl) ?_
    refine SJ.seq (by kernel_rfl) ?_
    refine SJ.region (id := 12) (by kernel_rfl) [0, 1, 2, 3, 4, 5, 6, 7, 8, 9, 10, 11] (by kernel_rfl) ?_
    refine OJ.run [0, 1, 2] [3, 4, 5, 6, 7, 8, 9, 10, 11] [0, 1, 5, 6, 8, 9, 64, 66] (m2 := [(0, Sl.v r1.2), (1, Sl.v a1), (5, .pointer r1.1), (6, .pointer r2.1), (8, .int .i64 s10), (9, .pointer (some (pt b79 0))), (64, .pointer r1.1), (66, .int .i64 (r1.2.len : Int))]) (by kernel_rfl) (by kernel_rfl) ?_
    refine OJ.call (d := 67) (g := 18) (ats := #[29, 3, 3, 3]) (args := [.tmp 64, .tmp 66, .const (.int .i64 5), .const (.int .i64 5)]) (vals := [.pointer r1.1, .int .i64 (r1.2.len : Int), .int .i64 5, .int .i64 5]) (owed := []) (by kernel_rfl) F18 (by kernel_rfl) (queue_Queue_Push_ok r1.1 (r1.2.len : Int) 5 5) (by kernel_rfl) (by kernel_rfl) (by kernel_rfl) (fun r83 => ?_)
    refine OW.nil ?_
    refine OJ.call (d := 68) (g := 17) (ats := #[35]) (args := [.tmp 67]) (vals := [.int .i64 r83]) (owed := []) (by kernel_rfl) F17 (by kernel_rfl) (weirlaw18_num_ok r83) (by kernel_rfl) (by kernel_rfl) (by kernel_rfl) (fun r84 => ?_)
    refine OW.nil ?_
    refine OJ.run [5, 6] [7, 8, 9, 10, 11] [0, 1, 5, 6, 8, 9, 70] (m2 := [(0, Sl.v r1.2), (1, Sl.v a1), (5, .pointer r1.1), (6, .pointer r2.1), (8, .int .i64 s10), (9, .pointer (some (pt b79 0))), (70, .bool (r84 != 181))]) (by kernel_rfl) (by kernel_rfl) ?_
    refine OJ.join (b := (r84 != 181)) [7, 8, 9, 10, 11] [] [0, 1, 5, 6, 8, 9, 75] (fun y87 => [(0, Sl.v r1.2), (1, Sl.v a1), (5, .pointer r1.1), (6, .pointer r2.1), (8, .int .i64 s10), (9, .pointer (some (pt b79 0))), (75, .bool y87)]) [] [] (by kernel_rfl) (t := 70) (by kernel_rfl) bne_iff_ne (fun hp_ => ?_) (fun hp_ => ?_) (by kernel_rfl) (fun _ _ _ _ _ _ h_ => h_) (fun y87 => ?_)
    · refine OJ.run [7, 8, 9, 10, 11] [] [0, 1, 5, 6, 8, 9, 75] (m2 := [(0, Sl.v r1.2), (1, Sl.v a1), (5, .pointer r1.1), (6, .pointer r2.1), (8, .int .i64 s10), (9, .pointer (some (pt b79 0))), (75, .bool true)]) (by kernel_rfl) (by kernel_rfl) ?_
      exact OJ.nil ⟨(Cov.mem Cov.nil), rfl, _, rfl, by kernel_rfl⟩
    · refine OJ.run [7] [8, 9, 10, 11] [0, 1, 5, 6, 8, 9, 70, 71] (m2 := [(0, Sl.v r1.2), (1, Sl.v a1), (5, .pointer r1.1), (6, .pointer r2.1), (8, .int .i64 s10), (9, .pointer (some (pt b79 0))), (70, .bool false), (71, .pointer r1.1)]) (by kernel_rfl) (by kernel_rfl) ?_
      refine OJ.call (d := 72) (g := 18) (ats := #[29, 3, 3, 3]) (args := [.tmp 71, .const (.int .i64 0), .const (.int .i64 0), .const (.int .i64 5)]) (vals := [.pointer r1.1, .int .i64 0, .int .i64 0, .int .i64 5]) (owed := []) (by kernel_rfl) F18 (by kernel_rfl) (queue_Queue_Push_ok r1.1 0 0 5) (by kernel_rfl) (by kernel_rfl) (by kernel_rfl) (fun r85 => ?_)
      refine OW.nil ?_
      refine OJ.call (d := 73) (g := 17) (ats := #[35]) (args := [.tmp 72]) (vals := [.int .i64 r85]) (owed := []) (by kernel_rfl) F17 (by kernel_rfl) (weirlaw18_num_ok r85) (by kernel_rfl) (by kernel_rfl) (by kernel_rfl) (fun r86 => ?_)
      refine OW.nil ?_
      refine OJ.run [10, 11] [] [0, 1, 5, 6, 8, 9, 75] (m2 := [(0, Sl.v r1.2), (1, Sl.v a1), (5, .pointer r1.1), (6, .pointer r2.1), (8, .int .i64 s10), (9, .pointer (some (pt b79 0))), (75, .bool (r86 != 182))]) (by kernel_rfl) (by kernel_rfl) ?_
      exact OJ.nil ⟨(Cov.mem Cov.nil), rfl, _, rfl, by kernel_rfl⟩
    · refine OJ.nil ?_
      refine SJ.cond (t := (.tmp 75)) (b := y87) (by kernel_rfl) (by kernel_rfl) Iff.rfl (fun hc141 => ?_) (fun hc141 => ?_)
      · refine SJ.seq (by kernel_rfl) ?_
        refine SJ.region (id := 13) (by kernel_rfl) [0] (by kernel_rfl) ?_
        refine OJ.run [0] [] [4] (m2 := [(4, .bool false)]) (by kernel_rfl) (by kernel_rfl) ?_
        refine OJ.nil ?_
        exact SJ.ret (by kernel_rfl) rfl (Res.run (ys := [.bool false]) (.tmp (by kernel_rfl) .nil) rfl)
      · refine SJ.skip (by kernel_rfl) ?_
        refine SJ.seq (by kernel_rfl) ?_
        refine SJ.region (id := 14) (by kernel_rfl) [0, 1] (by kernel_rfl) ?_
        refine OJ.run [0] [1] [0, 1, 5, 6, 8, 9, 76] (m2 := [(0, Sl.v r1.2), (1, Sl.v a1), (5, .pointer r1.1), (6, .pointer r2.1), (8, .int .i64 s10), (9, .pointer (some (pt b79 0))), (76, .pointer (some (pt b79 0)))]) (by kernel_rfl) (by kernel_rfl) ?_
        refine OJ.kld (d := 77) (T := 3) (y := .tmp 76) (cd := (cI .i64)) (j := 0) (b := b79) (o := 0) x78.Kind (pend2 := []) (by kernel_rfl) (by kernel_rfl) Ty3 (by kernel_rfl) rfl (At_weirlaw18_Op_Kind x78) (by kernel_rfl) rfl ?_
        refine OJ.nil ?_
        refine SJ.block (id := 2) (by kernel_rfl) ?_
        refine SJ.seq (by kernel_rfl) ?_
        refine SJ.region (id := 15) (by kernel_rfl) [0, 1] (by kernel_rfl) ?_
        refine OJ.run [0, 1] [] [0, 1, 5, 6, 8, 9, 77, 78] (m2 := [(0, Sl.v r1.2), (1, Sl.v a1), (5, .pointer r1.1), (6, .pointer r2.1), (8, .int .i64 s10), (9, .pointer (some (pt b79 0))), (77, .int .i64 x78.Kind), (78, .bool (x78.Kind == 1))]) (by kernel_rfl) (by kernel_rfl) ?_
        refine OJ.nil ?_
        refine SJ.cond (t := (.tmp 78)) (b := (x78.Kind == 1)) (by kernel_rfl) (by kernel_rfl) beq_iff_eq (fun hc140 => ?_) (fun hc140 => ?_)
        · refine SJ.seq (by kernel_rfl) ?_
          refine SJ.draw (id := 16) (kd := [0, 0, 1, 0, 1, 0, 1, 2, 2, 0, 0, 1, 0, 1, 0, 1, 2, 2, 0]) (bef := [0, 0, 2, 0, 8, 0, 32, 127, 255, 0, 0, 1024, 0, 4096, 0, 16384, 65535, 131071, 262143]) (ord := [0, 1, 2, 3, 4, 5, 6, 10, 11, 12, 13, 14, 15, 7, 8, 9, 16, 17, 18]) (by kernel_rfl) mixed (by kernel_rfl) ?_
          refine OJ.run [0, 1] [2, 3, 4, 5, 6, 10, 11, 12, 13, 14, 15, 7, 8, 9, 16, 17, 18] [0, 1, 5, 6, 8, 9, 80, 81] (m2 := [(0, Sl.v r1.2), (1, Sl.v a1), (5, .pointer r1.1), (6, .pointer r2.1), (8, .int .i64 s10), (9, .pointer (some (pt b79 0))), (80, .pointer r1.1), (81, .pointer (some (pt b79 2)))]) (by kernel_rfl) (by kernel_rfl) ?_
          refine OJ.kld (d := 82) (T := 3) (y := .tmp 81) (cd := (cI .i64)) (j := 0) (b := b79) (o := 2) x78.Class (pend2 := [⟨2, 3, (pt b79 2), (cI .i64).val x78.Class⟩]) (by kernel_rfl) (by kernel_rfl) Ty3 (by kernel_rfl) rfl (At_weirlaw18_Op_Class x78) (by kernel_rfl) rfl ?_
          refine OJ.run [3] [4, 5, 6, 10, 11, 12, 13, 14, 15, 7, 8, 9, 16, 17, 18] [0, 1, 5, 6, 8, 9, 80, 82, 83] (m2 := [(0, Sl.v r1.2), (1, Sl.v a1), (5, .pointer r1.1), (6, .pointer r2.1), (8, .int .i64 s10), (9, .pointer (some (pt b79 0))), (80, .pointer r1.1), (82, .int .i64 x78.Class), (83, .pointer (some (pt b79 3)))]) (by kernel_rfl) (by kernel_rfl) ?_
          refine OJ.kld (d := 84) (T := 3) (y := .tmp 83) (cd := (cI .i64)) (j := 0) (b := b79) (o := 3) x78.Size (pend2 := [⟨4, 3, (pt b79 3), (cI .i64).val x78.Size⟩, ⟨2, 3, (pt b79 2), (cI .i64).val x78.Class⟩]) (by kernel_rfl) (by kernel_rfl) Ty3 (by kernel_rfl) rfl (At_weirlaw18_Op_Size x78) (by kernel_rfl) rfl ?_
          refine OJ.run [5] [6, 10, 11, 12, 13, 14, 15, 7, 8, 9, 16, 17, 18] [0, 1, 5, 6, 8, 9, 80, 82, 84, 85] (m2 := [(0, Sl.v r1.2), (1, Sl.v a1), (5, .pointer r1.1), (6, .pointer r2.1), (8, .int .i64 s10), (9, .pointer (some (pt b79 0))), (80, .pointer r1.1), (82, .int .i64 x78.Class), (84, .int .i64 x78.Size), (85, .pointer (some (pt b79 4)))]) (by kernel_rfl) (by kernel_rfl) ?_
          refine OJ.kld (d := 86) (T := 3) (y := .tmp 85) (cd := (cI .i64)) (j := 0) (b := b79) (o := 4) x78.Item (pend2 := [⟨6, 3, (pt b79 4), (cI .i64).val x78.Item⟩, ⟨4, 3, (pt b79 3), (cI .i64).val x78.Size⟩, ⟨2, 3, (pt b79 2), (cI .i64).val x78.Class⟩]) (by kernel_rfl) (by kernel_rfl) Ty3 (by kernel_rfl) rfl (At_weirlaw18_Op_Item x78) (by kernel_rfl) rfl ?_
          refine OJ.run [10] [11, 12, 13, 14, 15, 7, 8, 9, 16, 17, 18] [0, 1, 5, 6, 8, 9, 80, 82, 84, 86, 90] (m2 := [(0, Sl.v r1.2), (1, Sl.v a1), (5, .pointer r1.1), (6, .pointer r2.1), (8, .int .i64 s10), (9, .pointer (some (pt b79 0))), (80, .pointer r1.1), (82, .int .i64 x78.Class), (84, .int .i64 x78.Size), (86, .int .i64 x78.Item), (90, .pointer (some (pt b79 2)))]) (by kernel_rfl) (by kernel_rfl) ?_
          refine OJ.kld (d := 91) (T := 3) (y := .tmp 90) (cd := (cI .i64)) (j := 0) (b := b79) (o := 2) x78.Class (pend2 := [⟨11, 3, (pt b79 2), (cI .i64).val x78.Class⟩, ⟨6, 3, (pt b79 4), (cI .i64).val x78.Item⟩, ⟨4, 3, (pt b79 3), (cI .i64).val x78.Size⟩, ⟨2, 3, (pt b79 2), (cI .i64).val x78.Class⟩]) (by kernel_rfl) (by kernel_rfl) Ty3 (by kernel_rfl) rfl (At_weirlaw18_Op_Class x78) (by kernel_rfl) rfl ?_
          refine OJ.run [12] [13, 14, 15, 7, 8, 9, 16, 17, 18] [0, 1, 5, 6, 8, 9, 80, 82, 84, 86, 91, 92] (m2 := [(0, Sl.v r1.2), (1, Sl.v a1), (5, .pointer r1.1), (6, .pointer r2.1), (8, .int .i64 s10), (9, .pointer (some (pt b79 0))), (80, .pointer r1.1), (82, .int .i64 x78.Class), (84, .int .i64 x78.Size), (86, .int .i64 x78.Item), (91, .int .i64 x78.Class), (92, .pointer (some (pt b79 3)))]) (by kernel_rfl) (by kernel_rfl) ?_
          refine OJ.kld (d := 93) (T := 3) (y := .tmp 92) (cd := (cI .i64)) (j := 0) (b := b79) (o := 3) x78.Size (pend2 := [⟨13, 3, (pt b79 3), (cI .i64).val x78.Size⟩, ⟨11, 3, (pt b79 2), (cI .i64).val x78.Class⟩, ⟨6, 3, (pt b79 4), (cI .i64).val x78.Item⟩, ⟨4, 3, (pt b79 3), (cI .i64).val x78.Size⟩, ⟨2, 3, (pt b79 2), (cI .i64).val x78.Class⟩]) (by kernel_rfl) (by kernel_rfl) Ty3 (by kernel_rfl) rfl (At_weirlaw18_Op_Size x78) (by kernel_rfl) rfl ?_
          refine OJ.run [14] [15, 7, 8, 9, 16, 17, 18] [0, 1, 5, 6, 8, 80, 82, 84, 86, 91, 93, 94] (m2 := [(0, Sl.v r1.2), (1, Sl.v a1), (5, .pointer r1.1), (6, .pointer r2.1), (8, .int .i64 s10), (80, .pointer r1.1), (82, .int .i64 x78.Class), (84, .int .i64 x78.Size), (86, .int .i64 x78.Item), (91, .int .i64 x78.Class), (93, .int .i64 x78.Size), (94, .pointer (some (pt b79 4)))]) (by kernel_rfl) (by kernel_rfl) ?_
          refine OJ.kld (d := 95) (T := 3) (y := .tmp 94) (cd := (cI .i64)) (j := 0) (b := b79) (o := 4) x78.Item (pend2 := [⟨15, 3, (pt b79 4), (cI .i64).val x78.Item⟩, ⟨13, 3, (pt b79 3), (cI .i64).val x78.Size⟩, ⟨11, 3, (pt b79 2), (cI .i64).val x78.Class⟩, ⟨6, 3, (pt b79 4), (cI .i64).val x78.Item⟩, ⟨4, 3, (pt b79 3), (cI .i64).val x78.Size⟩, ⟨2, 3, (pt b79 2), (cI .i64).val x78.Class⟩]) (by kernel_rfl) (by kernel_rfl) Ty3 (by kernel_rfl) rfl (At_weirlaw18_Op_Item x78) (by kernel_rfl) rfl ?_
          refine OJ.call (d := 87) (g := 18) (ats := #[29, 3, 3, 3]) (args := [.tmp 80, .tmp 82, .tmp 84, .tmp 86]) (vals := [.pointer r1.1, .int .i64 x78.Class, .int .i64 x78.Size, .int .i64 x78.Item]) (owed := [⟨15, 3, (pt b79 4), (cI .i64).val x78.Item⟩, ⟨13, 3, (pt b79 3), (cI .i64).val x78.Size⟩, ⟨11, 3, (pt b79 2), (cI .i64).val x78.Class⟩]) (by kernel_rfl) F18 (by kernel_rfl) (queue_Queue_Push_ok r1.1 x78.Class x78.Size x78.Item) (by kernel_rfl) (by kernel_rfl) (by kernel_rfl) (fun r114 => ?_)
          refine OW.known (j := 0) (q := x78.Item) Ty3 rfl (At_weirlaw18_Op_Item x78) ?_
          refine OW.known (j := 0) (q := x78.Size) Ty3 rfl (At_weirlaw18_Op_Size x78) ?_
          refine OW.known (j := 0) (q := x78.Class) Ty3 rfl (At_weirlaw18_Op_Class x78) ?_
          refine OW.nil ?_
          refine OJ.call (d := 88) (g := 17) (ats := #[35]) (args := [.tmp 87]) (vals := [.int .i64 r114]) (owed := [⟨15, 3, (pt b79 4), (cI .i64).val x78.Item⟩, ⟨13, 3, (pt b79 3), (cI .i64).val x78.Size⟩, ⟨11, 3, (pt b79 2), (cI .i64).val x78.Class⟩]) (by kernel_rfl) F17 (by kernel_rfl) (weirlaw18_num_ok r114) (by kernel_rfl) (by kernel_rfl) (by kernel_rfl) (fun r115 => ?_)
          refine OW.known (j := 0) (q := x78.Item) Ty3 rfl (At_weirlaw18_Op_Item x78) ?_
          refine OW.known (j := 0) (q := x78.Size) Ty3 rfl (At_weirlaw18_Op_Size x78) ?_
          refine OW.known (j := 0) (q := x78.Class) Ty3 rfl (At_weirlaw18_Op_Class x78) ?_
          refine OW.nil ?_
          refine OJ.run [9] [16, 17, 18] [0, 1, 5, 6, 8, 91, 93, 95, 88, 89] (m2 := [(0, Sl.v r1.2), (1, Sl.v a1), (5, .pointer r1.1), (6, .pointer r2.1), (8, .int .i64 s10), (91, .int .i64 x78.Class), (93, .int .i64 x78.Size), (95, .int .i64 x78.Item), (88, .int .i64 r115), (89, .pointer r2.1)]) (by kernel_rfl) (by kernel_rfl) ?_
          refine OJ.call (d := 96) (g := 18) (ats := #[29, 3, 3, 3]) (args := [.tmp 89, .tmp 91, .tmp 93, .tmp 95]) (vals := [.pointer r2.1, .int .i64 x78.Class, .int .i64 x78.Size, .int .i64 x78.Item]) (owed := []) (by kernel_rfl) F18 (by kernel_rfl) (queue_Queue_Push_ok r2.1 x78.Class x78.Size x78.Item) (by kernel_rfl) (by kernel_rfl) (by kernel_rfl) (fun r116 => ?_)
          refine OW.nil ?_
          refine OJ.call (d := 97) (g := 17) (ats := #[35]) (args := [.tmp 96]) (vals := [.int .i64 r116]) (owed := []) (by kernel_rfl) F17 (by kernel_rfl) (weirlaw18_num_ok r116) (by kernel_rfl) (by kernel_rfl) (by kernel_rfl) (fun r117 => ?_)
          refine OW.nil ?_
          refine OJ.run [18] [] [0, 1, 5, 6, 8, 98] (m2 := [(0, Sl.v r1.2), (1, Sl.v a1), (5, .pointer r1.1), (6, .pointer r2.1), (8, .int .i64 s10), (98, .bool (r115 != r117))]) (by kernel_rfl) (by kernel_rfl) ?_
          refine OJ.nil ?_
          refine SJ.cond (t := (.tmp 98)) (b := (r115 != r117)) (by kernel_rfl) (by kernel_rfl) bne_iff_ne (fun hc118 => ?_) (fun hc118 => ?_)
          · refine SJ.seq (by kernel_rfl) ?_
            refine SJ.region (id := 17) (by kernel_rfl) [0] (by kernel_rfl) ?_
            refine OJ.run [0] [] [4] (m2 := [(4, .bool false)]) (by kernel_rfl) (by kernel_rfl) ?_
            refine OJ.nil ?_
            exact SJ.ret (by kernel_rfl) rfl (Res.run (ys := [.bool false]) (.tmp (by kernel_rfl) .nil) rfl)
          · refine SJ.skip (by kernel_rfl) ?_
            refine SJ.inBlock ?_
            refine SJ.inBlock ?_
            refine SJ.region (id := 7) (by kernel_rfl) [0, 1, 2] (by kernel_rfl) ?_
            refine OJ.run [0, 1, 2] [] [0, 1, 5, 6, 8] (m2 := [(0, Sl.v r1.2), (1, Sl.v a1), (5, .pointer r1.1), (6, .pointer r2.1), (8, .int .i64 (IntKind.wrap .i64 (s10 + 1)))]) (by kernel_rfl) (by kernel_rfl) ?_
            refine OJ.nil ?_
            refine SJ.forget (List.Sublist.cons _ List.Sublist.slnil) ?_
            exact SJ.at_ [0, 1, 5, 6, 8] rfl (by kernel_rfl)
        · refine SJ.seq (by kernel_rfl) ?_
          refine SJ.region (id := 18) (by kernel_rfl) [0, 1] (by kernel_rfl) ?_
          refine OJ.run [0, 1] [] [0, 1, 5, 6, 8, 77, 99] (m2 := [(0, Sl.v r1.2), (1, Sl.v a1), (5, .pointer r1.1), (6, .pointer r2.1), (8, .int .i64 s10), (77, .int .i64 x78.Kind), (99, .bool (x78.Kind == 2))]) (by kernel_rfl) (by kernel_rfl) ?_
          refine OJ.nil ?_
          refine SJ.cond (t := (.tmp 99)) (b := (x78.Kind == 2)) (by kernel_rfl) (by kernel_rfl) beq_iff_eq (fun hc139 => ?_) (fun hc139 => ?_)
          · refine SJ.seq (by kernel_rfl) ?_
            refine SJ.region (id := 19) (by kernel_rfl) [0, 1, 2, 3, 4, 5, 6, 7, 8] (by kernel_rfl) ?_
            refine OJ.run [0] [1, 2, 3, 4, 5, 6, 7, 8] [0, 1, 5, 6, 8, 102] (m2 := [(0, Sl.v r1.2), (1, Sl.v a1), (5, .pointer r1.1), (6, .pointer r2.1), (8, .int .i64 s10), (102, .pointer r1.1)]) (by kernel_rfl) (by kernel_rfl) ?_
            refine OJ.call (d := 103) (g := 19) (ats := #[29]) (args := [.tmp 102]) (vals := [.pointer r1.1]) (owed := []) (by kernel_rfl) F19 (by kernel_rfl) (queue_Queue_Pop_ok r1.1) (by kernel_rfl) (by kernel_rfl) (by kernel_rfl) (fun r129 => ?_)
            refine OW.nil ?_
            refine OJ.run [2, 3, 4, 5, 6, 7, 8] [] [0, 1, 5, 6, 8, 10, 11, 12] (m2 := [(0, Sl.v r1.2), (1, Sl.v a1), (5, .pointer r1.1), (6, .pointer r2.1), (8, .int .i64 s10), (10, .int .i64 r129.1), (11, .int .i64 r129.2.1), (12, .bool r129.2.2)]) (by kernel_rfl) (by kernel_rfl) ?_
            refine OJ.nil ?_
            refine SJ.seq (by kernel_rfl) ?_
            refine SJ.region (id := 20) (by kernel_rfl) [0, 1, 2, 3, 4, 5, 6, 7, 8] (by kernel_rfl) ?_
            refine OJ.run [0] [1, 2, 3, 4, 5, 6, 7, 8] [0, 1, 5, 6, 8, 10, 11, 12, 108] (m2 := [(0, Sl.v r1.2), (1, Sl.v a1), (5, .pointer r1.1), (6, .pointer r2.1), (8, .int .i64 s10), (10, .int .i64 r129.1), (11, .int .i64 r129.2.1), (12, .bool r129.2.2), (108, .pointer r2.1)]) (by kernel_rfl) (by kernel_rfl) ?_
            refine OJ.call (d := 109) (g := 19) (ats := #[29]) (args := [.tmp 108]) (vals := [.pointer r2.1]) (owed := []) (by kernel_rfl) F19 (by kernel_rfl) (queue_Queue_Pop_ok r2.1) (by kernel_rfl) (by kernel_rfl) (by kernel_rfl) (fun r130 => ?_)
            refine OW.nil ?_
            refine OJ.run [2, 3, 4, 5, 6, 7, 8] [] [0, 1, 5, 6, 8, 10, 11, 12, 13, 14, 15] (m2 := [(0, Sl.v r1.2), (1, Sl.v a1), (5, .pointer r1.1), (6, .pointer r2.1), (8, .int .i64 s10), (10, .int .i64 r129.1), (11, .int .i64 r129.2.1), (12, .bool r129.2.2), (13, .int .i64 r130.1), (14, .int .i64 r130.2.1), (15, .bool r130.2.2)]) (by kernel_rfl) (by kernel_rfl) ?_
            refine OJ.nil ?_
            refine SJ.seq (by kernel_rfl) ?_
            refine SJ.region (id := 21) (by kernel_rfl) [0, 1, 2, 3, 4, 5, 6, 7, 8, 9, 10, 11, 12] (by kernel_rfl) ?_
            refine OJ.run [0, 1, 2, 3] [4, 5, 6, 7, 8, 9, 10, 11, 12] [0, 1, 5, 6, 8, 11, 12, 14, 15, 116] (m2 := [(0, Sl.v r1.2), (1, Sl.v a1), (5, .pointer r1.1), (6, .pointer r2.1), (8, .int .i64 s10), (11, .int .i64 r129.2.1), (12, .bool r129.2.2), (14, .int .i64 r130.2.1), (15, .bool r130.2.2), (116, .bool (r129.1 != r130.1))]) (by kernel_rfl) (by kernel_rfl) ?_
            refine OJ.join (b := (r129.1 != r130.1)) [4, 5, 6, 7] [8, 9, 10, 11, 12] [0, 1, 5, 6, 8, 12, 15, 120] (fun y131 => [(0, Sl.v r1.2), (1, Sl.v a1), (5, .pointer r1.1), (6, .pointer r2.1), (8, .int .i64 s10), (12, .bool r129.2.2), (15, .bool r130.2.2), (120, .bool y131)]) [] [] (by kernel_rfl) (t := 116) (by kernel_rfl) bne_iff_ne (fun hp_ => ?_) (fun hp_ => ?_) (by kernel_rfl) (fun _ _ _ _ _ _ h_ => h_) (fun y131 => ?_)
            · refine OJ.run [4, 5, 6, 7] [] [0, 1, 5, 6, 8, 12, 15, 120] (m2 := [(0, Sl.v r1.2), (1, Sl.v a1), (5, .pointer r1.1), (6, .pointer r2.1), (8, .int .i64 s10), (12, .bool r129.2.2), (15, .bool r130.2.2), (120, .bool true)]) (by kernel_rfl) (by kernel_rfl) ?_
              exact OJ.nil ⟨(Cov.mem Cov.nil), rfl, _, rfl, by kernel_rfl⟩
            · refine OJ.run [4, 5, 6, 7] [] [0, 1, 5, 6, 8, 12, 15, 120] (m2 := [(0, Sl.v r1.2), (1, Sl.v a1), (5, .pointer r1.1), (6, .pointer r2.1), (8, .int .i64 s10), (12, .bool r129.2.2), (15, .bool r130.2.2), (120, .bool (r129.2.1 != r130.2.1))]) (by kernel_rfl) (by kernel_rfl) ?_
              exact OJ.nil ⟨(Cov.mem Cov.nil), rfl, _, rfl, by kernel_rfl⟩
            · refine OJ.run [8] [9, 10, 11, 12] [0, 1, 5, 6, 8, 12, 15, 121] (m2 := [(0, Sl.v r1.2), (1, Sl.v a1), (5, .pointer r1.1), (6, .pointer r2.1), (8, .int .i64 s10), (12, .bool r129.2.2), (15, .bool r130.2.2), (121, .bool y131)]) (by kernel_rfl) (by kernel_rfl) ?_
              refine OJ.join (b := y131) [9, 10, 11, 12] [] [0, 1, 5, 6, 8, 125] (fun y132 => [(0, Sl.v r1.2), (1, Sl.v a1), (5, .pointer r1.1), (6, .pointer r2.1), (8, .int .i64 s10), (125, .bool y132)]) [] [] (by kernel_rfl) (t := 121) (by kernel_rfl) Iff.rfl (fun hp_ => ?_) (fun hp_ => ?_) (by kernel_rfl) (fun _ _ _ _ _ _ h_ => h_) (fun y132 => ?_)
              · refine OJ.run [9, 10, 11, 12] [] [0, 1, 5, 6, 8, 125] (m2 := [(0, Sl.v r1.2), (1, Sl.v a1), (5, .pointer r1.1), (6, .pointer r2.1), (8, .int .i64 s10), (125, .bool true)]) (by kernel_rfl) (by kernel_rfl) ?_
                exact OJ.nil ⟨(Cov.mem Cov.nil), rfl, _, rfl, by kernel_rfl⟩
              · refine OJ.run [9, 10, 11, 12] [] [0, 1, 5, 6, 8, 125] (m2 := [(0, Sl.v r1.2), (1, Sl.v a1), (5, .pointer r1.1), (6, .pointer r2.1), (8, .int .i64 s10), (125, .bool (!(r129.2.2 == r130.2.2)))]) (by kernel_rfl) (by kernel_rfl) ?_
                exact OJ.nil ⟨(Cov.mem Cov.nil), rfl, _, rfl, by kernel_rfl⟩
              · refine OJ.nil ?_
                refine SJ.cond (t := (.tmp 125)) (b := y132) (by kernel_rfl) (by kernel_rfl) Iff.rfl (fun hc133 => ?_) (fun hc133 => ?_)
                · refine SJ.seq (by kernel_rfl) ?_
                  refine SJ.region (id := 22) (by kernel_rfl) [0] (by kernel_rfl) ?_
                  refine OJ.run [0] [] [4] (m2 := [(4, .bool false)]) (by kernel_rfl) (by kernel_rfl) ?_
                  refine OJ.nil ?_
                  exact SJ.ret (by kernel_rfl) rfl (Res.run (ys := [.bool false]) (.tmp (by kernel_rfl) .nil) rfl)
                · refine SJ.skip (by kernel_rfl) ?_
                  refine SJ.inBlock ?_
                  refine SJ.inBlock ?_
                  refine SJ.region (id := 7) (by kernel_rfl) [0, 1, 2] (by kernel_rfl) ?_
                  refine OJ.run [0, 1, 2] [] [0, 1, 5, 6, 8] (m2 := [(0, Sl.v r1.2), (1, Sl.v a1), (5, .pointer r1.1), (6, .pointer r2.1), (8, .int .i64 (IntKind.wrap .i64 (s10 + 1)))]) (by kernel_rfl) (by kernel_rfl) ?_
                  refine OJ.nil ?_
                  refine SJ.forget (List.Sublist.cons _ List.Sublist.slnil) ?_
                  exact SJ.at_ [0, 1, 5, 6, 8] rfl (by kernel_rfl)
          · refine SJ.seq (by kernel_rfl) ?_
            refine SJ.region (id := 23) (by kernel_rfl) [0, 1] (by kernel_rfl) ?_
            refine OJ.run [0, 1] [] [0, 1, 5, 6, 8, 126] (m2 := [(0, Sl.v r1.2), (1, Sl.v a1), (5, .pointer r1.1), (6, .pointer r2.1), (8, .int .i64 s10), (126, .bool (x78.Kind == 4))]) (by kernel_rfl) (by kernel_rfl) ?_
            refine OJ.nil ?_
            refine SJ.cond (t := (.tmp 126)) (b := (x78.Kind == 4)) (by kernel_rfl) (by kernel_rfl) beq_iff_eq (fun hc138 => ?_) (fun hc138 => ?_)
            · refine SJ.seq (by kernel_rfl) ?_
              refine SJ.region (id := 24) (by kernel_rfl) [0, 1] (by kernel_rfl) ?_
              refine OJ.run [0] [1] [0, 1, 5, 6, 8, 128] (m2 := [(0, Sl.v r1.2), (1, Sl.v a1), (5, .pointer r1.1), (6, .pointer r2.1), (8, .int .i64 s10), (128, .pointer r1.1)]) (by kernel_rfl) (by kernel_rfl) ?_
              refine OJ.call (d := 129) (g := 26) (ats := #[29]) (args := [.tmp 128]) (vals := [.pointer r1.1]) (owed := []) (by kernel_rfl) F26 (by kernel_rfl) (queue_Queue_Tick_ok r1.1) (by kernel_rfl) (by kernel_rfl) (by kernel_rfl) (fun r136 => ?_)
              refine OW.nil ?_
              refine OJ.nil ?_
              refine SJ.region (id := 25) (by kernel_rfl) [0, 1] (by kernel_rfl) ?_
              refine OJ.run [0] [1] [0, 1, 5, 6, 8, 130] (m2 := [(0, Sl.v r1.2), (1, Sl.v a1), (5, .pointer r1.1), (6, .pointer r2.1), (8, .int .i64 s10), (130, .pointer r2.1)]) (by kernel_rfl) (by kernel_rfl) ?_
              refine OJ.call (d := 131) (g := 26) (ats := #[29]) (args := [.tmp 130]) (vals := [.pointer r2.1]) (owed := []) (by kernel_rfl) F26 (by kernel_rfl) (queue_Queue_Tick_ok r2.1) (by kernel_rfl) (by kernel_rfl) (by kernel_rfl) (fun r137 => ?_)
              refine OW.nil ?_
              refine OJ.nil ?_
              refine SJ.inBlock ?_
              refine SJ.inBlock ?_
              refine SJ.region (id := 7) (by kernel_rfl) [0, 1, 2] (by kernel_rfl) ?_
              refine OJ.run [0, 1, 2] [] [0, 1, 5, 6, 8] (m2 := [(0, Sl.v r1.2), (1, Sl.v a1), (5, .pointer r1.1), (6, .pointer r2.1), (8, .int .i64 (IntKind.wrap .i64 (s10 + 1)))]) (by kernel_rfl) (by kernel_rfl) ?_
              refine OJ.nil ?_
              refine SJ.forget (List.Sublist.cons _ List.Sublist.slnil) ?_
              exact SJ.at_ [0, 1, 5, 6, 8] rfl (by kernel_rfl)
            · refine SJ.skip (by kernel_rfl) ?_
              refine SJ.inBlock ?_
              refine SJ.inBlock ?_
              refine SJ.region (id := 7) (by kernel_rfl) [0, 1, 2] (by kernel_rfl) ?_
              refine OJ.run [0, 1, 2] [] [0, 1, 5, 6, 8] (m2 := [(0, Sl.v r1.2), (1, Sl.v a1), (5, .pointer r1.1), (6, .pointer r2.1), (8, .int .i64 (IntKind.wrap .i64 (s10 + 1)))]) (by kernel_rfl) (by kernel_rfl) ?_
              refine OJ.nil ?_
              refine SJ.forget (List.Sublist.cons _ List.Sublist.slnil) ?_
              exact SJ.at_ [0, 1, 5, 6, 8] rfl (by kernel_rfl)
  · refine SJ.exit (id := 0) (by kernel_rfl) (by rfl) ?_
    refine SJ.seq (by kernel_rfl) ?_
    refine SJ.region (id := 26) (by kernel_rfl) [0] (by kernel_rfl) ?_
    refine OJ.run [0] [] [4] (m2 := [(4, .bool true)]) (by kernel_rfl) (by kernel_rfl) ?_
    refine OJ.nil ?_
    exact SJ.ret (by kernel_rfl) rfl (Res.run (ys := [.bool true]) (.tmp (by kernel_rfl) .nil) rfl)
noncomputable def weirlaw18_QueueStays (a0 : Sl) (a1 : Sl) : M Bool :=
  weirlaw18_queueOf a0 >>= fun r1 =>
  weirlaw18_queueOf r1.2 >>= fun r2 =>
  (if r1.1 = none then
      pure true
    else
      pure (Option.isNone r2.1)) >>= fun y3 =>
  (if y3 = true then
      pure true
    else
      queue_Queue_Push r1.1 0 1 7 >>= fun r4 =>
      weirlaw18_num r4 >>= fun r5 =>
      pure (r5 != 0)) >>= fun y6 =>
  (if y6 = true then
      pure true
    else
      queue_Queue_Push r2.1 0 1 7 >>= fun r7 =>
      weirlaw18_num r7 >>= fun r8 =>
      pure (r8 != 0)) >>= fun y9 =>
  if y9 = true then
    pure false
  else
    loopM (fun s_ : Int => weirlaw18_QueueStays.L1 a1 r1 r2 s_) 0
theorem weirlaw18_QueueStays_ok (a0 : Sl) (a1 : Sl) : Ref Try.prog 12 [Sl.v a0, Sl.v a1] (weirlaw18_QueueStays a0 a1) weirlaw18_QueueStays.out := by
  refine Ref.of (cd := weirlaw18_QueueStays.B) Try.func12 (by kernel_rfl) (by kernel_rfl) ?_
  show SJ weirlaw18_QueueStays.cx [.code weirlaw18_QueueStays.B] [(0, Sl.v a0), (1, Sl.v a1)] [] (weirlaw18_QueueStays a0 a1) weirlaw18_QueueStays.F0
  unfold weirlaw18_QueueStays
  refine SJ.seq (by kernel_rfl) ?_
  refine SJ.region (id := 0) (by kernel_rfl) [0] (by kernel_rfl) ?_
  refine OJ.run [0] [] [0, 1] (m2 := [(0, Sl.v a0), (1, Sl.v a1)]) (by kernel_rfl) (by kernel_rfl) ?_
  refine OJ.nil ?_
  refine SJ.seq (by kernel_rfl) ?_
  refine SJ.region (id := 1) (by kernel_rfl) [0, 1, 2, 3, 4, 5, 6] (by kernel_rfl) ?_
  refine OJ.run [0] [1, 2, 3, 4, 5, 6] [0, 1, 17] (m2 := [(0, Sl.v a0), (1, Sl.v a1), (17, Sl.v a0)]) (by kernel_rfl) (by kernel_rfl) ?_
  refine OJ.call (d := 18) (g := 15) (ats := #[27]) (args := [.tmp 17]) (vals := [Sl.v a0]) (owed := []) (by kernel_rfl) F15 (by kernel_rfl) (weirlaw18_queueOf_ok a0) (by kernel_rfl) (by kernel_rfl) (by kernel_rfl) (fun r1 => ?_)
  refine OW.nil ?_
  refine OJ.run [2, 3, 4, 5, 6] [] [0, 1, 5] (m2 := [(0, Sl.v r1.2), (1, Sl.v a1), (5, .pointer r1.1)]) (by kernel_rfl) (by kernel_rfl) ?_
  refine OJ.nil ?_
  refine SJ.seq (by kernel_rfl) ?_
  refine SJ.region (id := 2) (by kernel_rfl) [0, 1, 2, 3, 4, 5, 6] (by kernel_rfl) ?_
  refine OJ.run [0] [1, 2, 3, 4, 5, 6] [0, 1, 5, 22] (m2 := [(0, Sl.v r1.2), (1, Sl.v a1), (5, .pointer r1.1), (22, Sl.v r1.2)]) (by kernel_rfl) (by kernel_rfl) ?_
  refine OJ.call (d := 23) (g := 15) (ats := #[27]) (args := [.tmp 22]) (vals := [Sl.v r1.2]) (owed := []) (by kernel_rfl) F15 (by kernel_rfl) (weirlaw18_queueOf_ok r1.2) (by kernel_rfl) (by kernel_rfl) (by kernel_rfl) (fun r2 => ?_)
  refine OW.nil ?_
  refine OJ.run [2, 3, 4, 5, 6] [] [0, 1, 5, 6] (m2 := [(0, Sl.v r1.2), (1, Sl.v a1), (5, .pointer r1.1), (6, .pointer r2.1)]) (by kernel_rfl) (by kernel_rfl) ?_
  refine OJ.nil ?_
  refine SJ.seq (by kernel_rfl) ?_
  refine SJ.seq (by kernel_rfl) ?_
  refine SJ.region (id := 3) (by kernel_rfl) [0, 1, 2, 3, 4, 5, 6, 7, 8, 9, 10, 11, 12, 13, 14, 15, 16, 17] (by kernel_rfl) ?_
  refine OJ.run [0, 1, 2] [3, 4, 5, 6, 7, 8, 9, 10, 11, 12, 13, 14, 15, 16, 17] [0, 1, 5, 6, 28] (m2 := [(0, Sl.v r1.2), (1, Sl.v a1), (5, .pointer r1.1), (6, .pointer r2.1), (28, .bool (Option.isNone r1.1))]) (by kernel_rfl) (by kernel_rfl) ?_
  refine OJ.join (b := (Option.isNone r1.1)) [3, 4, 5] [6, 7, 8, 9, 10, 11, 12, 13, 14, 15, 16, 17] [0, 1, 5, 6, 31] (fun y3 => [(0, Sl.v r1.2), (1, Sl.v a1), (5, .pointer r1.1), (6, .pointer r2.1), (31, .bool y3)]) [] [] (by kernel_rfl) (t := 28) (by kernel_rfl) Option.isNone_iff_eq_none (fun hp_ => ?_) (fun hp_ => ?_) (by kernel_rfl) (fun _ _ _ _ _ _ h_ => h_) (fun y3 => ?_)
  · refine OJ.run [3, 4, 5] [] [0, 1, 5, 6, 31] (m2 := [(0, Sl.v r1.2), (1, Sl.v a1), (5, .pointer r1.1), (6, .pointer r2.1), (31, .bool true)]) (by kernel_rfl) (by kernel_rfl) ?_
    exact OJ.nil ⟨(Cov.mem Cov.nil), rfl, _, rfl, by kernel_rfl⟩
  · refine OJ.run [3, 4, 5] [] [0, 1, 5, 6, 31] (m2 := [(0, Sl.v r1.2), (1, Sl.v a1), (5, .pointer r1.1), (6, .pointer r2.1), (31, .bool (Option.isNone r2.1))]) (by kernel_rfl) (by kernel_rfl) ?_
    exact OJ.nil ⟨(Cov.mem Cov.nil), rfl, _, rfl, by kernel_rfl⟩
  · refine OJ.run [6] [7, 8, 9, 10, 11, 12, 13, 14, 15, 16, 17] [0, 1, 5, 6, 32] (m2 := [(0, Sl.v r1.2), (1, Sl.v a1), (5, .pointer r1.1), (6, .pointer r2.1), (32, .bool y3)]) (by kernel_rfl) (by kernel_rfl) ?_
    refine OJ.join (b := y3) [7, 8, 9, 10, 11] [12, 13, 14, 15, 16, 17] [0, 1, 5, 6, 37] (fun y6 => [(0, Sl.v r1.2), (1, Sl.v a1), (5, .pointer r1.1), (6, .pointer r2.1), (37, .bool y6)]) [] [] (by kernel_rfl) (t := 32) (by kernel_rfl) Iff.rfl (fun hp_ => ?_) (fun hp_ => ?_) (by kernel_rfl) (fun _ _ _ _ _ _ h_ => h_) (fun y6 => ?_)
    · refine OJ.run [7, 8, 9, 10, 11] [] [0, 1, 5, 6, 37] (m2 := [(0, Sl.v r1.2), (1, Sl.v a1), (5, .pointer r1.1), (6, .pointer r2.1), (37, .bool true)]) (by kernel_rfl) (by kernel_rfl) ?_
      exact OJ.nil ⟨(Cov.mem Cov.nil), rfl, _, rfl, by kernel_rfl⟩
    · refine OJ.run [7] [8, 9, 10, 11] [0, 1, 5, 6, 32, 33] (m2 := [(0, Sl.v r1.2), (1, Sl.v a1), (5, .pointer r1.1), (6, .pointer r2.1), (32, .bool false), (33, .pointer r1.1)]) (by kernel_rfl) (by kernel_rfl) ?_
      refine OJ.call (d := 34) (g := 18) (ats := #[29, 3, 3, 3]) (args := [.tmp 33, .const (.int .i64 0), .const (.int .i64 1), .const (.int .i64 7)]) (vals := [.pointer r1.1, .int .i64 0, .int .i64 1, .int .i64 7]) (owed := []) (by kernel_rfl) F18 (by kernel_rfl) (queue_Queue_Push_ok r1.1 0 1 7) (by kernel_rfl) (by kernel_rfl) (by kernel_rfl) (fun r4 => ?_)
      refine OW.nil ?_
      refine OJ.call (d := 35) (g := 17) (ats := #[35]) (args := [.tmp 34]) (vals := [.int .i64 r4]) (owed := []) (by kernel_rfl) F17 (by kernel_rfl) (weirlaw18_num_ok r4) (by kernel_rfl) (by kernel_rfl) (by kernel_rfl) (fun r5 => ?_)
      refine OW.nil ?_
      refine OJ.run [10, 11] [] [0, 1, 5, 6, 37] (m2 := [(0, Sl.v r1.2), (1, Sl.v a1), (5, .pointer r1.1), (6, .pointer r2.1), (37, .bool (r5 != 0))]) (by kernel_rfl) (by kernel_rfl) ?_
      exact OJ.nil ⟨(Cov.mem Cov.nil), rfl, _, rfl, by kernel_rfl⟩
    · refine OJ.run [12] [13, 14, 15, 16, 17] [0, 1, 5, 6, 38] (m2 := [(0, Sl.v r1.2), (1, Sl.v a1), (5, .pointer r1.1), (6, .pointer r2.1), (38, .bool y6)]) (by kernel_rfl) (by kernel_rfl) ?_
      refine OJ.join (b := y6) [13, 14, 15, 16, 17] [] [0, 1, 5, 6, 43] (fun y9 => [(0, Sl.v r1.2), (1, Sl.v a1), (5, .pointer r1.1), (6, .pointer r2.1), (43, .bool y9)]) [] [] (by kernel_rfl) (t := 38) (by kernel_rfl) Iff.rfl (fun hp_ => ?_) (fun hp_ => ?_) (by kernel_rfl) (fun _ _ _ _ _ _ h_ => h_) (fun y9 => ?_)
      · refine OJ.run [13, 14, 15, 16, 17] [] [0, 1, 5, 6, 43] (m2 := [(0, Sl.v r1.2), (1, Sl.v a1), (5, .pointer r1.1), (6, .pointer r2.1), (43, .bool true)]) (by kernel_rfl) (by kernel_rfl) ?_
        exact OJ.nil ⟨(Cov.mem Cov.nil), rfl, _, rfl, by kernel_rfl⟩
      · refine OJ.run [13] [14, 15, 16, 17] [0, 1, 5, 6, 38, 39] (m2 := [(0, Sl.v r1.2), (1, Sl.v a1), (5, .pointer r1.1), (6, .pointer r2.1), (38, .bool false), (39, .pointer r2.1)]) (by kernel_rfl) (by kernel_rfl) ?_
        refine OJ.call (d := 40) (g := 18) (ats := #[29, 3, 3, 3]) (args := [.tmp 39, .const (.int .i64 0), .const (.int .i64 1), .const (.int .i64 7)]) (vals := [.pointer r2.1, .int .i64 0, .int .i64 1, .int .i64 7]) (owed := []) (by kernel_rfl) F18 (by kernel_rfl) (queue_Queue_Push_ok r2.1 0 1 7) (by kernel_rfl) (by kernel_rfl) (by kernel_rfl) (fun r7 => ?_)
        refine OW.nil ?_
        refine OJ.call (d := 41) (g := 17) (ats := #[35]) (args := [.tmp 40]) (vals := [.int .i64 r7]) (owed := []) (by kernel_rfl) F17 (by kernel_rfl) (weirlaw18_num_ok r7) (by kernel_rfl) (by kernel_rfl) (by kernel_rfl) (fun r8 => ?_)
        refine OW.nil ?_
        refine OJ.run [16, 17] [] [0, 1, 5, 6, 43] (m2 := [(0, Sl.v r1.2), (1, Sl.v a1), (5, .pointer r1.1), (6, .pointer r2.1), (43, .bool (r8 != 0))]) (by kernel_rfl) (by kernel_rfl) ?_
        exact OJ.nil ⟨(Cov.mem Cov.nil), rfl, _, rfl, by kernel_rfl⟩
      · refine OJ.nil ?_
        refine SJ.cond (t := (.tmp 43)) (b := y9) (by kernel_rfl) (by kernel_rfl) Iff.rfl (fun hc143 => ?_) (fun hc143 => ?_)
        · refine SJ.seq (by kernel_rfl) ?_
          refine SJ.region (id := 4) (by kernel_rfl) [0] (by kernel_rfl) ?_
          refine OJ.run [0] [] [4] (m2 := [(4, .bool false)]) (by kernel_rfl) (by kernel_rfl) ?_
          refine OJ.nil ?_
          exact SJ.ret (by kernel_rfl) rfl (Res.run (ys := [.bool false]) (.tmp (by kernel_rfl) .nil) rfl)
        · refine SJ.skip (by kernel_rfl) ?_
          refine SJ.seq (by kernel_rfl) ?_
          refine SJ.seq (by kernel_rfl) ?_
          refine SJ.region (id := 5) (by kernel_rfl) [0] (by kernel_rfl) ?_
          refine OJ.run [0] [] [0, 1, 5, 6, 8] (m2 := [(0, Sl.v r1.2), (1, Sl.v a1), (5, .pointer r1.1), (6, .pointer r2.1), (8, .int .i64 0)]) (by kernel_rfl) (by kernel_rfl) ?_
          refine OJ.nil ?_
          refine SJ.block (id := 0) (by kernel_rfl) ?_
          exact SJ.loop (fun s_ : Int => [(0, Sl.v r1.2), (1, Sl.v a1), (5, .pointer r1.1), (6, .pointer r2.1), (8, .int .i64 s_)]) (fun s_ : Int => []) [0, 1, 5, 6, 8] (by kernel_rfl) (by kernel_rfl) rfl (fun _ _ => rfl) (fun s_ => weirlaw18_QueueStays.L1_ok a1 r1 r2 s_)
end Go.Proofs.Ytgddbpmfendaeaa.Lx
