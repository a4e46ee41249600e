/- Programs of the M-world for Go functions, each with the proof that the Go text does what it says. Printed by lxgen.py. -/
import Derived.Test.YtoddkagehbcfjaaLxT
import Derived.Test.YtoddkagehbcfjaaLxP0
import Derived.Test.YtoddkagehbcfjaaLxP1
set_option linter.unusedVariables false
set_option linter.unusedSimpArgs false
namespace Go.Proofs.Ytoddkagehbcfjaa.Lx
open Go Go.Proofs
/-! ### weir/weirlaw3.RingClean: function 5 -/
noncomputable def weirlaw3_RingClean.B : Code := (Try.f5.body).getD .skip
noncomputable def weirlaw3_RingClean.cx : Fx := ⟨Try.prog, 5, Try.f5⟩
noncomputable def weirlaw3_RingClean.out (r_ : Bool) : Value := .bool r_
noncomputable def weirlaw3_RingClean.F0 (r_ : Bool) : Reach := .ret (weirlaw3_RingClean.out r_)
noncomputable def weirlaw3_RingClean.F1 (a4 : Sl) (a5 : Int) (r1 : ((Option Addr) × Int × Int × Int × Int)) : (LS Int Bool) → Reach := loopF [.inLoop (c1 (c1 (c2 (c1 (c2 (c2 (c2 (c2 (c2 weirlaw3_RingClean.B))))))))), .inBlock 0, .code (c2 (c2 (c2 (c2 (c2 (c2 weirlaw3_RingClean.B))))))] (fun s_ : Int => [(3, .int .i64 r1.2.2.2.2), (4, Sl.v a4), (5, .int .u8 a5), (13, .pointer r1.1), (20, .int .i64 s_)]) (fun s_ : Int => []) weirlaw3_RingClean.F0
noncomputable def weirlaw3_RingClean.K1 (r1 : ((Option Addr) × Int × Int × Int × Int)) (s8 : Int) (x40 : weirlaw3_Op) (r44 : (Int × Sl × Int)) : M (LS Int Bool) :=
  (if (band .i64 x40.N 1) = 0 then
      ring_Port_Release r1.1 r44.1 >>= fun r56 =>
      weirlaw3_num r56 >>= fun r57 =>
      pure (r57 != 0)
    else
      pure false) >>= fun y58 =>
  if y58 = true then
    pure (LS.done false)
  else
    pure (LS.next (IntKind.wrap .i64 (s8 + 1)))
theorem weirlaw3_RingClean.K1_ok (a4 : Sl) (a5 : Int) (r1 : ((Option Addr) × Int × Int × Int × Int)) (s8 : Int) (x40 : weirlaw3_Op) (b41 : Nat) (r44 : (Int × Sl × Int)) :
    SJ weirlaw3_RingClean.cx [.code (c2 (c2 (c2 (c2 (c2 (c2 (c1 (c1 (c2 (c1 (c1 (c2 (c1 (c2 (c2 (c2 (c2 (c2 weirlaw3_RingClean.B)))))))))))))))))), .inBlock 1, .code (c2 (c2 (c1 (c1 (c2 (c1 (c2 (c2 (c2 (c2 (c2 weirlaw3_RingClean.B))))))))))), .inLoop (c1 (c1 (c2 (c1 (c2 (c2 (c2 (c2 (c2 weirlaw3_RingClean.B))))))))), .inBlock 0, .code (c2 (c2 (c2 (c2 (c2 (c2 weirlaw3_RingClean.B))))))] [(3, .int .i64 r1.2.2.2.2), (4, Sl.v a4), (5, .int .u8 a5), (13, .pointer r1.1), (20, .int .i64 s8), (21, .pointer (some (pt b41 0))), (17, .int .i64 r44.1)] [(b41, c_weirlaw3_Op.enc x40)] (weirlaw3_RingClean.K1 r1 s8 x40 r44) (weirlaw3_RingClean.F1 a4 a5 r1) := by
  unfold weirlaw3_RingClean.K1
  refine SJ.seq (by kernel_rfl) ?_
  refine SJ.region (id := 25) (by kernel_rfl) [0, 1, 2, 3, 4, 5, 6, 7, 8, 9, 10] (by kernel_rfl) ?_
  refine OJ.run [0] [1, 2, 3, 4, 5, 6, 7, 8, 9, 10] [3, 4, 5, 13, 20, 17, 105] (m2 := [(3, .int .i64 r1.2.2.2.2), (4, Sl.v a4), (5, .int .u8 a5), (13, .pointer r1.1), (20, .int .i64 s8), (17, .int .i64 r44.1), (105, .pointer (some (pt b41 3)))]) (by kernel_rfl) (by kernel_rfl) ?_
  refine OJ.kld (d := 106) (T := 3) (y := .tmp 105) (cd := (cI .i64)) (j := 0) (b := b41) (o := 3) x40.N (pend2 := []) (by kernel_rfl) (by kernel_rfl) Ty3 (by kernel_rfl) rfl (At_weirlaw3_Op_N x40) (by kernel_rfl) rfl ?_
  refine OJ.run [2, 3, 4] [5, 6, 7, 8, 9, 10] [3, 4, 5, 13, 20, 17, 109] (m2 := [(3, .int .i64 r1.2.2.2.2), (4, Sl.v a4), (5, .int .u8 a5), (13, .pointer r1.1), (20, .int .i64 s8), (17, .int .i64 r44.1), (109, .bool ((band .i64 x40.N 1) == 0))]) (by kernel_rfl) (by kernel_rfl) ?_
  refine OJ.join (b := ((band .i64 x40.N 1) == 0)) [5, 6, 7, 8, 9, 10] [] [3, 4, 5, 13, 20, 115] (fun y58 => [(3, .int .i64 r1.2.2.2.2), (4, Sl.v a4), (5, .int .u8 a5), (13, .pointer r1.1), (20, .int .i64 s8), (115, .bool y58)]) [] [] (by kernel_rfl) (t := 109) (by kernel_rfl) beq_iff_eq (fun hp_ => ?_) (fun hp_ => ?_) (by kernel_rfl) (fun _ _ _ _ _ _ h_ => h_) (fun y58 => ?_)
  · refine OJ.run [5, 6] [7, 8, 9, 10] [3, 4, 5, 13, 20, 109, 110, 111] (m2 := [(3, .int .i64 r1.2.2.2.2), (4, Sl.v a4), (5, .int .u8 a5), (13, .pointer r1.1), (20, .int .i64 s8), (109, .bool true), (110, .pointer r1.1), (111, .int .i64 r44.1)]) (by kernel_rfl) (by kernel_rfl) ?_
    refine OJ.call (d := 112) (g := 24) (ats := #[23, 3]) (args := [.tmp 110, .tmp 111]) (vals := [.pointer r1.1, .int .i64 r44.1]) (owed := []) (by kernel_rfl) F24 (by kernel_rfl) (ring_Port_Release_ok r1.1 r44.1) (by kernel_rfl) (by kernel_rfl) (by kernel_rfl) (fun r56 => ?_)
    refine OW.nil ?_
    refine OJ.call (d := 113) (g := 14) (ats := #[24]) (args := [.tmp 112]) (vals := [.int .i64 r56]) (owed := []) (by kernel_rfl) F14 (by kernel_rfl) (weirlaw3_num_ok r56) (by kernel_rfl) (by kernel_rfl) (by kernel_rfl) (fun r57 => ?_)
    refine OW.nil ?_
    refine OJ.run [9, 10] [] [3, 4, 5, 13, 20, 115] (m2 := [(3, .int .i64 r1.2.2.2.2), (4, Sl.v a4), (5, .int .u8 a5), (13, .pointer r1.1), (20, .int .i64 s8), (115, .bool (r57 != 0))]) (by kernel_rfl) (by kernel_rfl) ?_
    exact OJ.nil ⟨(Cov.mem Cov.nil), rfl, _, rfl, by kernel_rfl⟩
  · refine OJ.run [5, 6, 7, 8, 9, 10] [] [3, 4, 5, 13, 20, 115] (m2 := [(3, .int .i64 r1.2.2.2.2), (4, Sl.v a4), (5, .int .u8 a5), (13, .pointer r1.1), (20, .int .i64 s8), (115, .bool false)]) (by kernel_rfl) (by kernel_rfl) ?_
    exact OJ.nil ⟨(Cov.mem Cov.nil), rfl, _, rfl, by kernel_rfl⟩
  · refine OJ.nil ?_
    refine SJ.cond (t := (.tmp 115)) (b := y58) (by kernel_rfl) (by kernel_rfl) Iff.rfl (fun hc59 => ?_) (fun hc59 => ?_)
    · refine SJ.seq (by kernel_rfl) ?_
      refine SJ.region (id := 26) (by kernel_rfl) [0] (by kernel_rfl) ?_
      refine OJ.run [0] [] [12] (m2 := [(12, .bool false)]) (by kernel_rfl) (by kernel_rfl) ?_
      refine OJ.nil ?_
      exact SJ.ret (by kernel_rfl) rfl (Res.run (ys := [.bool false]) (.tmp (by kernel_rfl) .nil) rfl)
    · refine SJ.skip (by kernel_rfl) ?_
      refine SJ.inBlock ?_
      refine SJ.region (id := 9) (by kernel_rfl) [0, 1, 2] (by kernel_rfl) ?_
      refine OJ.run [0, 1, 2] [] [3, 4, 5, 13, 20] (m2 := [(3, .int .i64 r1.2.2.2.2), (4, Sl.v a4), (5, .int .u8 a5), (13, .pointer r1.1), (20, .int .i64 (IntKind.wrap .i64 (s8 + 1)))]) (by kernel_rfl) (by kernel_rfl) ?_
      refine OJ.nil ?_
      refine SJ.forget (List.Sublist.cons _ List.Sublist.slnil) ?_
      exact SJ.at_ [3, 4, 5, 13, 20] rfl (by kernel_rfl)
noncomputable def weirlaw3_RingClean.F2 (a4 : Sl) (a5 : Int) (r1 : ((Option Addr) × Int × Int × Int × Int)) (s8 : Int) (x40 : weirlaw3_Op) (b41 : Nat) (r44 : (Int × Sl × Int)) : (LS Int (LS Int Bool)) → Reach := loopF [.inLoop (c1 (c1 (c2 (c1 (c2 (c2 (c2 (c2 (c2 (c1 (c1 (c2 (c1 (c1 (c2 (c1 (c2 (c2 (c2 (c2 (c2 weirlaw3_RingClean.B))))))))))))))))))))), .inBlock 2, .code (c2 (c2 (c2 (c2 (c2 (c2 (c1 (c1 (c2 (c1 (c1 (c2 (c1 (c2 (c2 (c2 (c2 (c2 weirlaw3_RingClean.B)))))))))))))))))), .inBlock 1, .code (c2 (c2 (c1 (c1 (c2 (c1 (c2 (c2 (c2 (c2 (c2 weirlaw3_RingClean.B))))))))))), .inLoop (c1 (c1 (c2 (c1 (c2 (c2 (c2 (c2 (c2 weirlaw3_RingClean.B))))))))), .inBlock 0, .code (c2 (c2 (c2 (c2 (c2 (c2 weirlaw3_RingClean.B))))))] (fun s_ : Int => [(3, .int .i64 r1.2.2.2.2), (4, Sl.v a4), (5, .int .u8 a5), (13, .pointer r1.1), (20, .int .i64 s8), (21, .pointer (some (pt b41 0))), (17, .int .i64 r44.1), (18, Sl.v r44.2.1), (22, .int .i64 s_)]) (fun s_ : Int => [(b41, c_weirlaw3_Op.enc x40)]) (weirlaw3_RingClean.F1 a4 a5 r1)
noncomputable def weirlaw3_RingClean.L2 (a5 : Int) (r1 : ((Option Addr) × Int × Int × Int × Int)) (s8 : Int) (x40 : weirlaw3_Op) (r44 : (Int × Sl × Int)) (s50 : Int) : M (LS Int (LS Int Bool)) :=
  if s50 < r1.2.2.2.2 then
    idx r44.2.1.a r44.2.1.len s50 1 >>= fun p60 =>
    ld (cI .u8) p60 >>= fun x61 =>
    if x61 ≠ 0 then
      pure (LS.done (LS.done false))
    else
      idx r44.2.1.a r44.2.1.len s50 1 >>= fun p62 =>
      st (cI .u8) p62 a5 >>= fun _ =>
      pure (LS.next (IntKind.wrap .i64 (s50 + 1)))
  else
    (weirlaw3_RingClean.K1 r1 s8 x40 r44) >>= fun b => pure (LS.done b)
theorem weirlaw3_RingClean.L2_ok (a4 : Sl) (a5 : Int) (r1 : ((Option Addr) × Int × Int × Int × Int)) (s8 : Int) (x40 : weirlaw3_Op) (b41 : Nat) (r44 : (Int × Sl × Int)) (s50 : Int) :
    SJ weirlaw3_RingClean.cx [.code (c1 (c1 (c2 (c1 (c2 (c2 (c2 (c2 (c2 (c1 (c1 (c2 (c1 (c1 (c2 (c1 (c2 (c2 (c2 (c2 (c2 weirlaw3_RingClean.B))))))))))))))))))))), .inLoop (c1 (c1 (c2 (c1 (c2 (c2 (c2 (c2 (c2 (c1 (c1 (c2 (c1 (c1 (c2 (c1 (c2 (c2 (c2 (c2 (c2 weirlaw3_RingClean.B))))))))))))))))))))), .inBlock 2, .code (c2 (c2 (c2 (c2 (c2 (c2 (c1 (c1 (c2 (c1 (c1 (c2 (c1 (c2 (c2 (c2 (c2 (c2 weirlaw3_RingClean.B)))))))))))))))))), .inBlock 1, .code (c2 (c2 (c1 (c1 (c2 (c1 (c2 (c2 (c2 (c2 (c2 weirlaw3_RingClean.B))))))))))), .inLoop (c1 (c1 (c2 (c1 (c2 (c2 (c2 (c2 (c2 weirlaw3_RingClean.B))))))))), .inBlock 0, .code (c2 (c2 (c2 (c2 (c2 (c2 weirlaw3_RingClean.B))))))] [(3, .int .i64 r1.2.2.2.2), (4, Sl.v a4), (5, .int .u8 a5), (13, .pointer r1.1), (20, .int .i64 s8), (21, .pointer (some (pt b41 0))), (17, .int .i64 r44.1), (18, Sl.v r44.2.1), (22, .int .i64 s50)] [(b41, c_weirlaw3_Op.enc x40)] (weirlaw3_RingClean.L2 a5 r1 s8 x40 r44 s50) (weirlaw3_RingClean.F2 a4 a5 r1 s8 x40 b41 r44) := by
  unfold weirlaw3_RingClean.L2
  refine SJ.seq (by kernel_rfl) ?_
  refine SJ.seq (by kernel_rfl) ?_
  refine SJ.region (id := 20) (by kernel_rfl) [0, 1, 2] (by kernel_rfl) ?_
  refine OJ.run [0, 1, 2] [] [3, 4, 5, 13, 20, 21, 17, 18, 22, 93] (m2 := [(3, .int .i64 r1.2.2.2.2), (4, Sl.v a4), (5, .int .u8 a5), (13, .pointer r1.1), (20, .int .i64 s8), (21, .pointer (some (pt b41 0))), (17, .int .i64 r44.1), (18, Sl.v r44.2.1), (22, .int .i64 s50), (93, .bool (decide (s50 < r1.2.2.2.2)))]) (by kernel_rfl) (by kernel_rfl) ?_
  refine OJ.nil ?_
  refine SJ.cond (t := (.tmp 93)) (b := decide (s50 < r1.2.2.2.2)) (by kernel_rfl) (by kernel_rfl) decide_eq_true_iff (fun hc64 => ?_) (fun hc64 => ?_)
  · refine SJ.skip (by kernel_rfl) ?_
    refine SJ.seq (by kernel_rfl) ?_
    refine SJ.block (id := 3) (by kernel_rfl) ?_
    refine SJ.seq (by kernel_rfl) ?_
    refine SJ.seq (by kernel_rfl) ?_
    refine SJ.region (id := 22) (by kernel_rfl) [0, 1, 2, 3, 4] (by kernel_rfl) ?_
    refine OJ.run [0, 1] [2, 3, 4] [3, 4, 5, 13, 20, 21, 17, 18, 22, 96, 97] (m2 := [(3, .int .i64 r1.2.2.2.2), (4, Sl.v a4), (5, .int .u8 a5), (13, .pointer r1.1), (20, .int .i64 s8), (21, .pointer (some (pt b41 0))), (17, .int .i64 r44.1), (18, Sl.v r44.2.1), (22, .int .i64 s50), (96, Sl.v r44.2.1), (97, .int .i64 s50)]) (by kernel_rfl) (by kernel_rfl) ?_
    refine OJ.idxS (d := 98) (T := 22) (y := .tmp 96) (j := .tmp 97) (E := 5) (cap := r44.2.1.cap) (k := .i64) (by kernel_rfl) (by kernel_rfl) (by kernel_rfl) (by kernel_rfl) (by kernel_rfl) (by kernel_rfl) (by kernel_rfl) (by kernel_rfl) (fun p60 => ?_)
    refine OJ.ld (d := 99) (T := 5) (y := .tmp 98) (pend2 := fun x61 => []) (by kernel_rfl) (by kernel_rfl) Ty5 (by kernel_rfl) (by kernel_rfl) (fun _ => rfl) (fun x61 => ?_)
    refine OJ.run [4] [] [3, 4, 5, 13, 20, 21, 17, 18, 22, 100] (m2 := [(3, .int .i64 r1.2.2.2.2), (4, Sl.v a4), (5, .int .u8 a5), (13, .pointer r1.1), (20, .int .i64 s8), (21, .pointer (some (pt b41 0))), (17, .int .i64 r44.1), (18, Sl.v r44.2.1), (22, .int .i64 s50), (100, .bool (x61 != 0))]) (by kernel_rfl) (by kernel_rfl) ?_
    refine OJ.nil ?_
    refine SJ.cond (t := (.tmp 100)) (b := (x61 != 0)) (by kernel_rfl) (by kernel_rfl) bne_iff_ne (fun hc63 => ?_) (fun hc63 => ?_)
    · refine SJ.seq (by kernel_rfl) ?_
      refine SJ.region (id := 23) (by kernel_rfl) [0] (by kernel_rfl) ?_
      refine OJ.run [0] [] [12] (m2 := [(12, .bool false)]) (by kernel_rfl) (by kernel_rfl) ?_
      refine OJ.nil ?_
      exact SJ.ret (by kernel_rfl) rfl (Res.run (ys := [.bool false]) (.tmp (by kernel_rfl) .nil) rfl)
    · refine SJ.skip (by kernel_rfl) ?_
      refine SJ.region (id := 24) (by kernel_rfl) [0, 1, 2, 3, 4] (by kernel_rfl) ?_
      refine OJ.run [0, 1, 2] [3, 4] [3, 4, 5, 13, 20, 21, 17, 18, 22, 101, 102, 103] (m2 := [(3, .int .i64 r1.2.2.2.2), (4, Sl.v a4), (5, .int .u8 a5), (13, .pointer r1.1), (20, .int .i64 s8), (21, .pointer (some (pt b41 0))), (17, .int .i64 r44.1), (18, Sl.v r44.2.1), (22, .int .i64 s50), (101, Sl.v r44.2.1), (102, .int .i64 s50), (103, .int .u8 a5)]) (by kernel_rfl) (by kernel_rfl) ?_
      refine OJ.idxS (d := 104) (T := 22) (y := .tmp 101) (j := .tmp 102) (E := 5) (cap := r44.2.1.cap) (k := .i64) (by kernel_rfl) (by kernel_rfl) (by kernel_rfl) (by kernel_rfl) (by kernel_rfl) (by kernel_rfl) (by kernel_rfl) (by kernel_rfl) (fun p62 => ?_)
      refine OJ.st (T := 5) (y := .tmp 104) (z := .tmp 103) (owed := []) (by kernel_rfl) (by kernel_rfl) (by kernel_rfl) Ty5 (by kernel_rfl) (by kernel_rfl) ?_
      refine OW.nil ?_
      refine OJ.nil ?_
      refine SJ.inBlock ?_
      refine SJ.region (id := 21) (by kernel_rfl) [0, 1, 2] (by kernel_rfl) ?_
      refine OJ.run [0, 1, 2] [] [3, 4, 5, 13, 20, 21, 17, 18, 22] (m2 := [(3, .int .i64 r1.2.2.2.2), (4, Sl.v a4), (5, .int .u8 a5), (13, .pointer r1.1), (20, .int .i64 s8), (21, .pointer (some (pt b41 0))), (17, .int .i64 r44.1), (18, Sl.v r44.2.1), (22, .int .i64 (IntKind.wrap .i64 (s50 + 1)))]) (by kernel_rfl) (by kernel_rfl) ?_
      refine OJ.nil ?_
      exact SJ.at_ [3, 4, 5, 13, 20, 21, 17, 18, 22] rfl (by kernel_rfl)
  · refine SJ.exit (id := 2) (by kernel_rfl) (by rfl) ?_
    refine SJ.less [3, 4, 5, 13, 20, 21, 17] (m' := [(3, .int .i64 r1.2.2.2.2), (4, Sl.v a4), (5, .int .u8 a5), (13, .pointer r1.1), (20, .int .i64 s8), (21, .pointer (some (pt b41 0))), (17, .int .i64 r44.1)]) (by kernel_rfl) ?_
    refine SJ.done ?_
    exact weirlaw3_RingClean.K1_ok a4 a5 r1 s8 x40 b41 r44
noncomputable def weirlaw3_RingClean.L1 (a4 : Sl) (a5 : Int) (r1 : ((Option Addr) × Int × Int × Int × Int)) (s8 : Int) : M (LS Int Bool) :=
  if s8 < (a4.len : Int) then
    idx a4.a a4.len s8 5 >>= fun p39 =>
    ld c_weirlaw3_Op p39 >>= fun x40 =>
    slot 45 >>= fun b41 =>
    if x40.Kind ≠ 4 then
      weirlaw3_do r1.1 x40 >>= fun r43 =>
      pure (LS.next (IntKind.wrap .i64 (s8 + 1)))
    else
      ring_Port_Take r1.1 >>= fun r44 =>
      weirlaw3_num r44.2.2 >>= fun r45 =>
      if r45 ≠ 0 then
        ring_Port_Stat r1.1 >>= fun r48 =>
        if r48.Free ≠ 0 then
          pure (LS.done false)
        else
          pure (LS.next (IntKind.wrap .i64 (s8 + 1)))
      else
        if (r44.2.1.len : Int) ≠ r1.2.2.2.2 then
          pure (LS.done false)
        else
          loopM (fun s_ : Int => weirlaw3_RingClean.L2 a5 r1 s8 x40 r44 s_) 0
  else
    pure (LS.done true)
theorem weirlaw3_RingClean.L1_ok (a4 : Sl) (a5 : Int) (r1 : ((Option Addr) × Int × Int × Int × Int)) (s8 : Int) :
    SJ weirlaw3_RingClean.cx [.code (c1 (c1 (c2 (c1 (c2 (c2 (c2 (c2 (c2 weirlaw3_RingClean.B))))))))), .inLoop (c1 (c1 (c2 (c1 (c2 (c2 (c2 (c2 (c2 weirlaw3_RingClean.B))))))))), .inBlock 0, .code (c2 (c2 (c2 (c2 (c2 (c2 weirlaw3_RingClean.B))))))] [(3, .int .i64 r1.2.2.2.2), (4, Sl.v a4), (5, .int .u8 a5), (13, .pointer r1.1), (20, .int .i64 s8)] [] (weirlaw3_RingClean.L1 a4 a5 r1 s8) (weirlaw3_RingClean.F1 a4 a5 r1) := by
  unfold weirlaw3_RingClean.L1
  refine SJ.seq (by kernel_rfl) ?_
  refine SJ.seq (by kernel_rfl) ?_
  refine SJ.region (id := 8) (by kernel_rfl) [0, 1, 2, 3] (by kernel_rfl) ?_
  refine OJ.run [0, 1, 2, 3] [] [3, 4, 5, 13, 20, 61] (m2 := [(3, .int .i64 r1.2.2.2.2), (4, Sl.v a4), (5, .int .u8 a5), (13, .pointer r1.1), (20, .int .i64 s8), (61, .bool (decide (s8 < (a4.len : Int))))]) (by kernel_rfl) (by kernel_rfl) ?_
  refine OJ.nil ?_
  refine SJ.cond (t := (.tmp 61)) (b := decide (s8 < (a4.len : Int))) (by kernel_rfl) (by kernel_rfl) decide_eq_true_iff (fun hc68 => ?_) (fun hc68 => ?_)
  · refine SJ.skip (by kernel_rfl) ?_
    refine SJ.seq (by kernel_rfl) ?_
    refine SJ.block (id := 1) (by kernel_rfl) ?_
    refine SJ.seq (by kernel_rfl) ?_
    refine SJ.region (id := 10) (by kernel_rfl) [0, 1, 2, 3, 4, 5] (by kernel_rfl) ?_
    refine OJ.run [0, 1] [2, 3, 4, 5] [3, 4, 5, 13, 20, 64, 65] (m2 := [(3, .int .i64 r1.2.2.2.2), (4, Sl.v a4), (5, .int .u8 a5), (13, .pointer r1.1), (20, .int .i64 s8), (64, Sl.v a4), (65, .int .i64 s8)]) (by kernel_rfl) (by kernel_rfl) ?_
    refine OJ.idxS (d := 66) (T := 40) (y := .tmp 64) (j := .tmp 65) (E := 45) (cap := a4.cap) (k := .i64) (by kernel_rfl) (by kernel_rfl) (by kernel_rfl) (by kernel_rfl) (by kernel_rfl) (by kernel_rfl) (by kernel_rfl) (by kernel_rfl) (fun p39 => ?_)
    refine OJ.ld (d := 67) (T := 45) (y := .tmp 66) (pend2 := fun x40 => []) (by kernel_rfl) (by kernel_rfl) Ty45 (by kernel_rfl) (by kernel_rfl) (fun _ => rfl) (fun x40 => ?_)
    refine OJ.slotOf (d := 21) (op := (.alloc 45)) (cd := c_weirlaw3_Op) (u := z_weirlaw3_Op) (owed := []) (by kernel_rfl) (alloc_run Ty45) (by kernel_rfl) (by kernel_rfl) (by kernel_rfl) (fun b41 => ?_)
    refine OW.nil ?_
    refine OJ.kst (T := 45) (y := .tmp 21) (z := .tmp 67) (cd := c_weirlaw3_Op) (u := x40) (j := 0) (b := b41) (o := 0) (c_weirlaw3_Op.enc x40) (h2 := [(b41, c_weirlaw3_Op.enc x40)]) (owed := []) (by kernel_rfl) (by kernel_rfl) (by kernel_rfl) Ty45 rfl (Upd.whole ((Cod.len _ _).trans (Cod.len _ _).symm)) (by kernel_rfl) (by kernel_rfl) rfl ?_
    refine OW.nil ?_
    refine OJ.nil ?_
    refine SJ.seq (by kernel_rfl) ?_
    refine SJ.seq (by kernel_rfl) ?_
    refine SJ.region (id := 11) (by kernel_rfl) [0, 1, 2] (by kernel_rfl) ?_
    refine OJ.run [0] [1, 2] [3, 4, 5, 13, 20, 21, 68] (m2 := [(3, .int .i64 r1.2.2.2.2), (4, Sl.v a4), (5, .int .u8 a5), (13, .pointer r1.1), (20, .int .i64 s8), (21, .pointer (some (pt b41 0))), (68, .pointer (some (pt b41 0)))]) (by kernel_rfl) (by kernel_rfl) ?_
    refine OJ.kld (d := 69) (T := 3) (y := .tmp 68) (cd := (cI .i64)) (j := 0) (b := b41) (o := 0) x40.Kind (pend2 := []) (by kernel_rfl) (by kernel_rfl) Ty3 (by kernel_rfl) rfl (At_weirlaw3_Op_Kind x40) (by kernel_rfl) rfl ?_
    refine OJ.run [2] [] [3, 4, 5, 13, 20, 21, 70] (m2 := [(3, .int .i64 r1.2.2.2.2), (4, Sl.v a4), (5, .int .u8 a5), (13, .pointer r1.1), (20, .int .i64 s8), (21, .pointer (some (pt b41 0))), (70, .bool (x40.Kind != 4))]) (by kernel_rfl) (by kernel_rfl) ?_
    refine OJ.nil ?_
    refine SJ.cond (t := (.tmp 70)) (b := (x40.Kind != 4)) (by kernel_rfl) (by kernel_rfl) bne_iff_ne (fun hc67 => ?_) (fun hc67 => ?_)
    · refine SJ.seq (by kernel_rfl) ?_
      refine SJ.region (id := 12) (by kernel_rfl) [0, 1, 2] (by kernel_rfl) ?_
      refine OJ.run [0] [1, 2] [3, 4, 5, 13, 20, 21, 71] (m2 := [(3, .int .i64 r1.2.2.2.2), (4, Sl.v a4), (5, .int .u8 a5), (13, .pointer r1.1), (20, .int .i64 s8), (21, .pointer (some (pt b41 0))), (71, .pointer r1.1)]) (by kernel_rfl) (by kernel_rfl) ?_
      refine OJ.kld (d := 72) (T := 45) (y := .tmp 21) (cd := c_weirlaw3_Op) (j := 0) (b := b41) (o := 0) x40 (pend2 := []) (by kernel_rfl) (by kernel_rfl) Ty45 (by kernel_rfl) rfl (At.whole _) (by kernel_rfl) rfl ?_
      refine OJ.call (d := 73) (g := 26) (ats := #[23, 45]) (args := [.tmp 71, .tmp 72]) (vals := [.pointer r1.1, c_weirlaw3_Op.val x40]) (owed := []) (by kernel_rfl) F26 (by kernel_rfl) (weirlaw3_do_ok r1.1 x40) (by kernel_rfl) (by kernel_rfl) (by kernel_rfl) (fun r43 => ?_)
      refine OW.nil ?_
      refine OJ.nil ?_
      refine SJ.exit (id := 1) (by kernel_rfl) (by rfl) ?_
      refine SJ.region (id := 9) (by kernel_rfl) [0, 1, 2] (by kernel_rfl) ?_
      refine OJ.run [0, 1, 2] [] [3, 4, 5, 13, 20] (m2 := [(3, .int .i64 r1.2.2.2.2), (4, Sl.v a4), (5, .int .u8 a5), (13, .pointer r1.1), (20, .int .i64 (IntKind.wrap .i64 (s8 + 1)))]) (by kernel_rfl) (by kernel_rfl) ?_
      refine OJ.nil ?_
      refine SJ.forget (List.Sublist.cons _ List.Sublist.slnil) ?_
      exact SJ.at_ [3, 4, 5, 13, 20] rfl (by kernel_rfl)
    · refine SJ.skip (by kernel_rfl) ?_
      refine SJ.seq (by kernel_rfl) ?_
      refine SJ.region (id := 13) (by kernel_rfl) [0, 1, 2, 3, 4, 5, 6, 7, 8] (by kernel_rfl) ?_
      refine OJ.run [0] [1, 2, 3, 4, 5, 6, 7, 8] [3, 4, 5, 13, 20, 21, 75] (m2 := [(3, .int .i64 r1.2.2.2.2), (4, Sl.v a4), (5, .int .u8 a5), (13, .pointer r1.1), (20, .int .i64 s8), (21, .pointer (some (pt b41 0))), (75, .pointer r1.1)]) (by kernel_rfl) (by kernel_rfl) ?_
      refine OJ.call (d := 76) (g := 25) (ats := #[23]) (args := [.tmp 75]) (vals := [.pointer r1.1]) (owed := []) (by kernel_rfl) F25 (by kernel_rfl) (ring_Port_Take_ok r1.1) (by kernel_rfl) (by kernel_rfl) (by kernel_rfl) (fun r44 => ?_)
      refine OW.nil ?_
      refine OJ.run [2, 3, 4, 5, 6, 7, 8] [] [3, 4, 5, 13, 20, 21, 17, 18, 19] (m2 := [(3, .int .i64 r1.2.2.2.2), (4, Sl.v a4), (5, .int .u8 a5), (13, .pointer r1.1), (20, .int .i64 s8), (21, .pointer (some (pt b41 0))), (17, .int .i64 r44.1), (18, Sl.v r44.2.1), (19, .int .i64 r44.2.2)]) (by kernel_rfl) (by kernel_rfl) ?_
      refine OJ.nil ?_
      refine SJ.seq (by kernel_rfl) ?_
      refine SJ.seq (by kernel_rfl) ?_
      refine SJ.region (id := 14) (by kernel_rfl) [0, 1, 2] (by kernel_rfl) ?_
      refine OJ.run [0] [1, 2] [3, 4, 5, 13, 20, 21, 17, 18, 80] (m2 := [(3, .int .i64 r1.2.2.2.2), (4, Sl.v a4), (5, .int .u8 a5), (13, .pointer r1.1), (20, .int .i64 s8), (21, .pointer (some (pt b41 0))), (17, .int .i64 r44.1), (18, Sl.v r44.2.1), (80, .int .i64 r44.2.2)]) (by kernel_rfl) (by kernel_rfl) ?_
      refine OJ.call (d := 81) (g := 14) (ats := #[24]) (args := [.tmp 80]) (vals := [.int .i64 r44.2.2]) (owed := []) (by kernel_rfl) F14 (by kernel_rfl) (weirlaw3_num_ok r44.2.2) (by kernel_rfl) (by kernel_rfl) (by kernel_rfl) (fun r45 => ?_)
      refine OW.nil ?_
      refine OJ.run [2] [] [3, 4, 5, 13, 20, 21, 17, 18, 82] (m2 := [(3, .int .i64 r1.2.2.2.2), (4, Sl.v a4), (5, .int .u8 a5), (13, .pointer r1.1), (20, .int .i64 s8), (21, .pointer (some (pt b41 0))), (17, .int .i64 r44.1), (18, Sl.v r44.2.1), (82, .bool (r45 != 0))]) (by kernel_rfl) (by kernel_rfl) ?_
      refine OJ.nil ?_
      refine SJ.cond (t := (.tmp 82)) (b := (r45 != 0)) (by kernel_rfl) (by kernel_rfl) bne_iff_ne (fun hc66 => ?_) (fun hc66 => ?_)
      · refine SJ.seq (by kernel_rfl) ?_
        refine SJ.seq (by kernel_rfl) ?_
        refine SJ.region (id := 15) (by kernel_rfl) [0, 1, 2, 3] (by kernel_rfl) ?_
        refine OJ.run [0] [1, 2, 3] [3, 4, 5, 13, 20, 83] (m2 := [(3, .int .i64 r1.2.2.2.2), (4, Sl.v a4), (5, .int .u8 a5), (13, .pointer r1.1), (20, .int .i64 s8), (83, .pointer r1.1)]) (by kernel_rfl) (by kernel_rfl) ?_
        refine OJ.call (d := 84) (g := 27) (ats := #[23]) (args := [.tmp 83]) (vals := [.pointer r1.1]) (owed := []) (by kernel_rfl) F27 (by kernel_rfl) (ring_Port_Stat_ok r1.1) (by kernel_rfl) (by kernel_rfl) (by kernel_rfl) (fun r48 => ?_)
        refine OW.nil ?_
        refine OJ.field (d := 85) (S := 52) (f := 0) (T := 3) (y := .tmp 84) (o := 0) (l := c_api_RingStat.enc r48) (cd := (cI .i64)) r48.Free (by kernel_rfl) (by kernel_rfl) (by kernel_rfl) Ty3 (At_api_RingStat_Free r48) (by kernel_rfl) (by kernel_rfl) (by kernel_rfl) ?_
        refine OJ.run [3] [] [3, 4, 5, 13, 20, 86] (m2 := [(3, .int .i64 r1.2.2.2.2), (4, Sl.v a4), (5, .int .u8 a5), (13, .pointer r1.1), (20, .int .i64 s8), (86, .bool (r48.Free != 0))]) (by kernel_rfl) (by kernel_rfl) ?_
        refine OJ.nil ?_
        refine SJ.cond (t := (.tmp 86)) (b := (r48.Free != 0)) (by kernel_rfl) (by kernel_rfl) bne_iff_ne (fun hc49 => ?_) (fun hc49 => ?_)
        · refine SJ.seq (by kernel_rfl) ?_
          refine SJ.region (id := 16) (by kernel_rfl) [0] (by kernel_rfl) ?_
          refine OJ.run [0] [] [12] (m2 := [(12, .bool false)]) (by kernel_rfl) (by kernel_rfl) ?_
          refine OJ.nil ?_
          exact SJ.ret (by kernel_rfl) rfl (Res.run (ys := [.bool false]) (.tmp (by kernel_rfl) .nil) rfl)
        · refine SJ.skip (by kernel_rfl) ?_
          refine SJ.exit (id := 1) (by kernel_rfl) (by rfl) ?_
          refine SJ.region (id := 9) (by kernel_rfl) [0, 1, 2] (by kernel_rfl) ?_
          refine OJ.run [0, 1, 2] [] [3, 4, 5, 13, 20] (m2 := [(3, .int .i64 r1.2.2.2.2), (4, Sl.v a4), (5, .int .u8 a5), (13, .pointer r1.1), (20, .int .i64 (IntKind.wrap .i64 (s8 + 1)))]) (by kernel_rfl) (by kernel_rfl) ?_
          refine OJ.nil ?_
          refine SJ.forget (List.Sublist.cons _ List.Sublist.slnil) ?_
          exact SJ.at_ [3, 4, 5, 13, 20] rfl (by kernel_rfl)
      · refine SJ.skip (by kernel_rfl) ?_
        refine SJ.seq (by kernel_rfl) ?_
        refine SJ.seq (by kernel_rfl) ?_
        refine SJ.region (id := 17) (by kernel_rfl) [0, 1, 2, 3] (by kernel_rfl) ?_
        refine OJ.run [0, 1, 2, 3] [] [3, 4, 5, 13, 20, 21, 17, 18, 90] (m2 := [(3, .int .i64 r1.2.2.2.2), (4, Sl.v a4), (5, .int .u8 a5), (13, .pointer r1.1), (20, .int .i64 s8), (21, .pointer (some (pt b41 0))), (17, .int .i64 r44.1), (18, Sl.v r44.2.1), (90, .bool ((r44.2.1.len : Int) != r1.2.2.2.2))]) (by kernel_rfl) (by kernel_rfl) ?_
        refine OJ.nil ?_
        refine SJ.cond (t := (.tmp 90)) (b := ((r44.2.1.len : Int) != r1.2.2.2.2)) (by kernel_rfl) (by kernel_rfl) bne_iff_ne (fun hc65 => ?_) (fun hc65 => ?_)
        · refine SJ.seq (by kernel_rfl) ?_
          refine SJ.region (id := 18) (by kernel_rfl) [0] (by kernel_rfl) ?_
          refine OJ.run [0] [] [12] (m2 := [(12, .bool false)]) (by kernel_rfl) (by kernel_rfl) ?_
          refine OJ.nil ?_
          exact SJ.ret (by kernel_rfl) rfl (Res.run (ys := [.bool false]) (.tmp (by kernel_rfl) .nil) rfl)
        · refine SJ.skip (by kernel_rfl) ?_
          refine SJ.seq (by kernel_rfl) ?_
          refine SJ.seq (by kernel_rfl) ?_
          refine SJ.region (id := 19) (by kernel_rfl) [0] (by kernel_rfl) ?_
          refine OJ.run [0] [] [3, 4, 5, 13, 20, 21, 17, 18, 22] (m2 := [(3, .int .i64 r1.2.2.2.2), (4, Sl.v a4), (5, .int .u8 a5), (13, .pointer r1.1), (20, .int .i64 s8), (21, .pointer (some (pt b41 0))), (17, .int .i64 r44.1), (18, Sl.v r44.2.1), (22, .int .i64 0)]) (by kernel_rfl) (by kernel_rfl) ?_
          refine OJ.nil ?_
          refine SJ.block (id := 2) (by kernel_rfl) ?_
          exact SJ.loop (fun s_ : Int => [(3, .int .i64 r1.2.2.2.2), (4, Sl.v a4), (5, .int .u8 a5), (13, .pointer r1.1), (20, .int .i64 s8), (21, .pointer (some (pt b41 0))), (17, .int .i64 r44.1), (18, Sl.v r44.2.1), (22, .int .i64 s_)]) (fun s_ : Int => [(b41, c_weirlaw3_Op.enc x40)]) [3, 4, 5, 13, 20, 21, 17, 18, 22] (by kernel_rfl) (by kernel_rfl) rfl (fun _ _ => rfl) (fun s_ => weirlaw3_RingClean.L2_ok a4 a5 r1 s8 x40 b41 r44 s_)
  · refine SJ.exit (id := 0) (by kernel_rfl) (by rfl) ?_
    refine SJ.seq (by kernel_rfl) ?_
    refine SJ.region (id := 27) (by kernel_rfl) [0] (by kernel_rfl) ?_
    refine OJ.run [0] [] [12] (m2 := [(12, .bool true)]) (by kernel_rfl) (by kernel_rfl) ?_
    refine OJ.nil ?_
    exact SJ.ret (by kernel_rfl) rfl (Res.run (ys := [.bool true]) (.tmp (by kernel_rfl) .nil) rfl)
noncomputable def weirlaw3_RingClean (a0 : Int) (a1 : Int) (a2 : Int) (a3 : Int) (a4 : Sl) (a5 : Int) : M Bool :=
  weirlaw3_port a0 a1 a2 a3 >>= fun r1 =>
  if r1.1 = none then
    pure false
  else
    ring_Port_Take r1.1 >>= fun r2 =>
    weirlaw3_num r2.2.2 >>= fun r3 =>
    (if r3 ≠ 0 then
        pure true
      else
        pure ((r2.2.1.len : Int) != r1.2.2.2.2)) >>= fun y4 =>
    (if y4 = true then
        pure true
      else
        ring_Port_Release r1.1 r2.1 >>= fun r5 =>
        weirlaw3_num r5 >>= fun r6 =>
        pure (r6 != 0)) >>= fun y7 =>
    if y7 = true then
      pure false
    else
      loopM (fun s_ : Int => weirlaw3_RingClean.L1 a4 a5 r1 s_) 0
theorem weirlaw3_RingClean_ok (a0 : Int) (a1 : Int) (a2 : Int) (a3 : Int) (a4 : Sl) (a5 : Int) : Ref Try.prog 5 [.int .i64 a0, .int .i64 a1, .int .i64 a2, .int .i64 a3, Sl.v a4, .int .u8 a5] (weirlaw3_RingClean a0 a1 a2 a3 a4 a5) weirlaw3_RingClean.out := by
  refine Ref.of (cd := weirlaw3_RingClean.B) Try.func5 (by kernel_rfl) (by kernel_rfl) ?_
  show SJ weirlaw3_RingClean.cx [.code weirlaw3_RingClean.B] [(0, .int .i64 a0), (1, .int .i64 a1), (2, .int .i64 a2), (3, .int .i64 a3), (4, Sl.v a4), (5, .int .u8 a5)] [] (weirlaw3_RingClean a0 a1 a2 a3 a4 a5) weirlaw3_RingClean.F0
  unfold weirlaw3_RingClean
  refine SJ.seq (by kernel_rfl) ?_
  refine SJ.region (id := 0) (by kernel_rfl) [0] (by kernel_rfl) ?_
  refine OJ.run [0] [] [0, 1, 2, 3, 4, 5] (m2 := [(0, .int .i64 a0), (1, .int .i64 a1), (2, .int .i64 a2), (3, .int .i64 a3), (4, Sl.v a4), (5, .int .u8 a5)]) (by kernel_rfl) (by kernel_rfl) ?_
  refine OJ.nil ?_
  refine SJ.seq (by kernel_rfl) ?_
  refine SJ.region (id := 1) (by kernel_rfl) [0, 1, 2, 3, 4, 5, 6, 7, 8, 9, 10, 11, 12, 13, 14, 15] (by kernel_rfl) ?_
  refine OJ.run [0, 1, 2, 3] [4, 5, 6, 7, 8, 9, 10, 11, 12, 13, 14, 15] [3, 4, 5, 24, 25, 26, 27] (m2 := [(3, .int .i64 a3), (4, Sl.v a4), (5, .int .u8 a5), (24, .int .i64 a0), (25, .int .i64 a1), (26, .int .i64 a2), (27, .int .i64 a3)]) (by kernel_rfl) (by kernel_rfl) ?_
  refine OJ.call (d := 28) (g := 23) (ats := #[3, 3, 3, 3]) (args := [.tmp 24, .tmp 25, .tmp 26, .tmp 27]) (vals := [.int .i64 a0, .int .i64 a1, .int .i64 a2, .int .i64 a3]) (owed := []) (by kernel_rfl) F23 (by kernel_rfl) (weirlaw3_port_ok a0 a1 a2 a3) (by kernel_rfl) (by kernel_rfl) (by kernel_rfl) (fun r1 => ?_)
  refine OW.nil ?_
  refine OJ.run [5, 6, 7, 8, 9, 10, 11, 12, 13, 14, 15] [] [3, 4, 5, 13] (m2 := [(3, .int .i64 r1.2.2.2.2), (4, Sl.v a4), (5, .int .u8 a5), (13, .pointer r1.1)]) (by kernel_rfl) (by kernel_rfl) ?_
  refine OJ.nil ?_
  refine SJ.seq (by kernel_rfl) ?_
  refine SJ.seq (by kernel_rfl) ?_
  refine SJ.region (id := 2) (by kernel_rfl) [0, 1] (by kernel_rfl) ?_
  refine OJ.run [0, 1] [] [3, 4, 5, 13, 35] (m2 := [(3, .int .i64 r1.2.2.2.2), (4, Sl.v a4), (5, .int .u8 a5), (13, .pointer r1.1), (35, .bool (Option.isNone r1.1))]) (by kernel_rfl) (by kernel_rfl) ?_
  refine OJ.nil ?_
  refine SJ.cond (t := (.tmp 35)) (b := (Option.isNone r1.1)) (by kernel_rfl) (by kernel_rfl) Option.isNone_iff_eq_none (fun hc70 => ?_) (fun hc70 => ?_)
  · refine SJ.seq (by kernel_rfl) ?_
    refine SJ.region (id := 3) (by kernel_rfl) [0] (by kernel_rfl) ?_
    refine OJ.run [0] [] [12] (m2 := [(12, .bool false)]) (by kernel_rfl) (by kernel_rfl) ?_
    refine OJ.nil ?_
    exact SJ.ret (by kernel_rfl) rfl (Res.run (ys := [.bool false]) (.tmp (by kernel_rfl) .nil) rfl)
  · refine SJ.skip (by kernel_rfl) ?_
    refine SJ.seq (by kernel_rfl) ?_
    refine SJ.region (id := 4) (by kernel_rfl) [0, 1, 2, 3, 4, 5, 6, 7, 8] (by kernel_rfl) ?_
    refine OJ.run [0] [1, 2, 3, 4, 5, 6, 7, 8] [3, 4, 5, 13, 37] (m2 := [(3, .int .i64 r1.2.2.2.2), (4, Sl.v a4), (5, .int .u8 a5), (13, .pointer r1.1), (37, .pointer r1.1)]) (by kernel_rfl) (by kernel_rfl) ?_
    refine OJ.call (d := 38) (g := 25) (ats := #[23]) (args := [.tmp 37]) (vals := [.pointer r1.1]) (owed := []) (by kernel_rfl) F25 (by kernel_rfl) (ring_Port_Take_ok r1.1) (by kernel_rfl) (by kernel_rfl) (by kernel_rfl) (fun r2 => ?_)
    refine OW.nil ?_
    refine OJ.run [2, 3, 4, 5, 6, 7, 8] [] [3, 4, 5, 13, 17, 18, 19] (m2 := [(3, .int .i64 r1.2.2.2.2), (4, Sl.v a4), (5, .int .u8 a5), (13, .pointer r1.1), (17, .int .i64 r2.1), (18, Sl.v r2.2.1), (19, .int .i64 r2.2.2)]) (by kernel_rfl) (by kernel_rfl) ?_
    refine OJ.nil ?_
    refine SJ.seq (by kernel_rfl) ?_
    refine SJ.seq (by kernel_rfl) ?_
    refine SJ.region (id := 5) (by kernel_rfl) [0, 1, 2, 3, 4, 5, 6, 7, 8, 9, 10, 11, 12, 13, 14, 15] (by kernel_rfl) ?_
    refine OJ.run [0] [1, 2, 3, 4, 5, 6, 7, 8, 9, 10, 11, 12, 13, 14, 15] [3, 4, 5, 13, 17, 18, 42] (m2 := [(3, .int .i64 r1.2.2.2.2), (4, Sl.v a4), (5, .int .u8 a5), (13, .pointer r1.1), (17, .int .i64 r2.1), (18, Sl.v r2.2.1), (42, .int .i64 r2.2.2)]) (by kernel_rfl) (by kernel_rfl) ?_
    refine OJ.call (d := 43) (g := 14) (ats := #[24]) (args := [.tmp 42]) (vals := [.int .i64 r2.2.2]) (owed := []) (by kernel_rfl) F14 (by kernel_rfl) (weirlaw3_num_ok r2.2.2) (by kernel_rfl) (by kernel_rfl) (by kernel_rfl) (fun r3 => ?_)
    refine OW.nil ?_
    refine OJ.run [2, 3] [4, 5, 6, 7, 8, 9, 10, 11, 12, 13, 14, 15] [3, 4, 5, 13, 17, 18, 45] (m2 := [(3, .int .i64 r1.2.2.2.2), (4, Sl.v a4), (5, .int .u8 a5), (13, .pointer r1.1), (17, .int .i64 r2.1), (18, Sl.v r2.2.1), (45, .bool (r3 != 0))]) (by kernel_rfl) (by kernel_rfl) ?_
    refine OJ.join (b := (r3 != 0)) [4, 5, 6, 7, 8] [9, 10, 11, 12, 13, 14, 15] [3, 4, 5, 13, 17, 50] (fun y4 => [(3, .int .i64 r1.2.2.2.2), (4, Sl.v a4), (5, .int .u8 a5), (13, .pointer r1.1), (17, .int .i64 r2.1), (50, .bool y4)]) [] [] (by kernel_rfl) (t := 45) (by kernel_rfl) bne_iff_ne (fun hp_ => ?_) (fun hp_ => ?_) (by kernel_rfl) (fun _ _ _ _ _ _ h_ => h_) (fun y4 => ?_)
    · refine OJ.run [4, 5, 6, 7, 8] [] [3, 4, 5, 13, 17, 50] (m2 := [(3, .int .i64 r1.2.2.2.2), (4, Sl.v a4), (5, .int .u8 a5), (13, .pointer r1.1), (17, .int .i64 r2.1), (50, .bool true)]) (by kernel_rfl) (by kernel_rfl) ?_
      exact OJ.nil ⟨(Cov.mem Cov.nil), rfl, _, rfl, by kernel_rfl⟩
    · refine OJ.run [4, 5, 6, 7, 8] [] [3, 4, 5, 13, 17, 50] (m2 := [(3, .int .i64 r1.2.2.2.2), (4, Sl.v a4), (5, .int .u8 a5), (13, .pointer r1.1), (17, .int .i64 r2.1), (50, .bool ((r2.2.1.len : Int) != r1.2.2.2.2))]) (by kernel_rfl) (by kernel_rfl) ?_
      exact OJ.nil ⟨(Cov.mem Cov.nil), rfl, _, rfl, by kernel_rfl⟩
    · refine OJ.run [9] [10, 11, 12, 13, 14, 15] [3, 4, 5, 13, 17, 51] (m2 := [(3, .int .i64 r1.2.2.2.2), (4, Sl.v a4), (5, .int .u8 a5), (13, .pointer r1.1), (17, .int .i64 r2.1), (51, .bool y4)]) (by kernel_rfl) (by kernel_rfl) ?_
      refine OJ.join (b := y4) [10, 11, 12, 13, 14, 15] [] [3, 4, 5, 13, 57] (fun y7 => [(3, .int .i64 r1.2.2.2.2), (4, Sl.v a4), (5, .int .u8 a5), (13, .pointer r1.1), (57, .bool y7)]) [] [] (by kernel_rfl) (t := 51) (by kernel_rfl) Iff.rfl (fun hp_ => ?_) (fun hp_ => ?_) (by kernel_rfl) (fun _ _ _ _ _ _ h_ => h_) (fun y7 => ?_)
      · refine OJ.run [10, 11, 12, 13, 14, 15] [] [3, 4, 5, 13, 57] (m2 := [(3, .int .i64 r1.2.2.2.2), (4, Sl.v a4), (5, .int .u8 a5), (13, .pointer r1.1), (57, .bool true)]) (by kernel_rfl) (by kernel_rfl) ?_
        exact OJ.nil ⟨(Cov.mem Cov.nil), rfl, _, rfl, by kernel_rfl⟩
      · refine OJ.run [10, 11] [12, 13, 14, 15] [3, 4, 5, 13, 51, 52, 53] (m2 := [(3, .int .i64 r1.2.2.2.2), (4, Sl.v a4), (5, .int .u8 a5), (13, .pointer r1.1), (51, .bool false), (52, .pointer r1.1), (53, .int .i64 r2.1)]) (by kernel_rfl) (by kernel_rfl) ?_
        refine OJ.call (d := 54) (g := 24) (ats := #[23, 3]) (args := [.tmp 52, .tmp 53]) (vals := [.pointer r1.1, .int .i64 r2.1]) (owed := []) (by kernel_rfl) F24 (by kernel_rfl) (ring_Port_Release_ok r1.1 r2.1) (by kernel_rfl) (by kernel_rfl) (by kernel_rfl) (fun r5 => ?_)
        refine OW.nil ?_
        refine OJ.call (d := 55) (g := 14) (ats := #[24]) (args := [.tmp 54]) (vals := [.int .i64 r5]) (owed := []) (by kernel_rfl) F14 (by kernel_rfl) (weirlaw3_num_ok r5) (by kernel_rfl) (by kernel_rfl) (by kernel_rfl) (fun r6 => ?_)
        refine OW.nil ?_
        refine OJ.run [14, 15] [] [3, 4, 5, 13, 57] (m2 := [(3, .int .i64 r1.2.2.2.2), (4, Sl.v a4), (5, .int .u8 a5), (13, .pointer r1.1), (57, .bool (r6 != 0))]) (by kernel_rfl) (by kernel_rfl) ?_
        exact OJ.nil ⟨(Cov.mem Cov.nil), rfl, _, rfl, by kernel_rfl⟩
      · refine OJ.nil ?_
        refine SJ.cond (t := (.tmp 57)) (b := y7) (by kernel_rfl) (by kernel_rfl) Iff.rfl (fun hc69 => ?_) (fun hc69 => ?_)
        · refine SJ.seq (by kernel_rfl) ?_
          refine SJ.region (id := 6) (by kernel_rfl) [0] (by kernel_rfl) ?_
          refine OJ.run [0] [] [12] (m2 := [(12, .bool false)]) (by kernel_rfl) (by kernel_rfl) ?_
          refine OJ.nil ?_
          exact SJ.ret (by kernel_rfl) rfl (Res.run (ys := [.bool false]) (.tmp (by kernel_rfl) .nil) rfl)
        · refine SJ.skip (by kernel_rfl) ?_
          refine SJ.seq (by kernel_rfl) ?_
          refine SJ.seq (by kernel_rfl) ?_
          refine SJ.region (id := 7) (by kernel_rfl) [0] (by kernel_rfl) ?_
          refine OJ.run [0] [] [3, 4, 5, 13, 20] (m2 := [(3, .int .i64 r1.2.2.2.2), (4, Sl.v a4), (5, .int .u8 a5), (13, .pointer r1.1), (20, .int .i64 0)]) (by kernel_rfl) (by kernel_rfl) ?_
          refine OJ.nil ?_
          refine SJ.block (id := 0) (by kernel_rfl) ?_
          exact SJ.loop (fun s_ : Int => [(3, .int .i64 r1.2.2.2.2), (4, Sl.v a4), (5, .int .u8 a5), (13, .pointer r1.1), (20, .int .i64 s_)]) (fun s_ : Int => []) [3, 4, 5, 13, 20] (by kernel_rfl) (by kernel_rfl) rfl (fun _ _ => rfl) (fun s_ => weirlaw3_RingClean.L1_ok a4 a5 r1 s_)
end Go.Proofs.Ytoddkagehbcfjaa.Lx
