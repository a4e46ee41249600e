/- Programs of the M-world for Go functions, each with the proof that the Go text does what it says. Printed by lxgen.py. -/
import Derived.Test.YtoddkagehbcfjaaLxT
import Derived.Test.YtoddkagehbcfjaaLxP0
import Derived.Test.YtoddkagehbcfjaaLxP1
set_option linter.unusedVariables false
set_option linter.unusedSimpArgs false
namespace Go.Proofs.Ytoddkagehbcfjaa.Lx
open Go Go.Proofs
/-! ### weir/weirlaw3.RingFifo: function 4 -/
noncomputable def weirlaw3_RingFifo.B : Code := (Try.f4.body).getD .skip
noncomputable def weirlaw3_RingFifo.cx : Fx := ⟨Try.prog, 4, Try.f4⟩
noncomputable def weirlaw3_RingFifo.out (r_ : Bool) : Value := .bool r_
noncomputable def weirlaw3_RingFifo.F0 (r_ : Bool) : Reach := .ret (weirlaw3_RingFifo.out r_)
noncomputable def weirlaw3_RingFifo.F1 (r1 : ((Option Addr) × Int × Int × Int × Int)) (s11 : Sl) : (LS Int Bool) → Reach := loopF [.inLoop (c1 (c1 (c2 (c1 (c2 (c2 (c2 (c2 (c2 (c2 weirlaw3_RingFifo.B)))))))))), .inBlock 3, .code (c2 (c2 (c2 (c2 (c2 (c2 (c2 weirlaw3_RingFifo.B)))))))] (fun s_ : Int => [(11, .pointer r1.1), (17, Sl.v s11), (25, .int .i64 s_)]) (fun s_ : Int => []) weirlaw3_RingFifo.F0
noncomputable def weirlaw3_RingFifo.L1 (r1 : ((Option Addr) × Int × Int × Int × Int)) (s11 : Sl) (s250 : Int) : M (LS Int Bool) :=
  if s250 < (s11.len : Int) then
    ring_Port_Drain r1.1 >>= fun r258 =>
    (if ¬ (r258.2 = true) then
        pure true
      else
        idx s11.a s11.len s250 1 >>= fun p259 =>
        ld cL p259 >>= fun x260 =>
        weirlaw3_alike r258.1 x260 >>= fun r261 =>
        pure (!r261)) >>= fun y262 =>
    if y262 = true then
      pure (LS.done false)
    else
      pure (LS.next (IntKind.wrap .i64 (s250 + 1)))
  else
    pure (LS.done true)
theorem weirlaw3_RingFifo.L1_ok (r1 : ((Option Addr) × Int × Int × Int × Int)) (s11 : Sl) (s250 : Int) :
    SJ weirlaw3_RingFifo.cx [.code (c1 (c1 (c2 (c1 (c2 (c2 (c2 (c2 (c2 (c2 weirlaw3_RingFifo.B)))))))))), .inLoop (c1 (c1 (c2 (c1 (c2 (c2 (c2 (c2 (c2 (c2 weirlaw3_RingFifo.B)))))))))), .inBlock 3, .code (c2 (c2 (c2 (c2 (c2 (c2 (c2 weirlaw3_RingFifo.B)))))))] [(11, .pointer r1.1), (17, Sl.v s11), (25, .int .i64 s250)] [] (weirlaw3_RingFifo.L1 r1 s11 s250) (weirlaw3_RingFifo.F1 r1 s11) := by
  unfold weirlaw3_RingFifo.L1
  refine SJ.seq (by kernel_rfl) ?_
  refine SJ.seq (by kernel_rfl) ?_
  refine SJ.region (id := 35) (by kernel_rfl) [0, 1, 2, 3] (by kernel_rfl) ?_
  refine OJ.run [0, 1, 2, 3] [] [11, 17, 25, 156] (m2 := [(11, .pointer r1.1), (17, Sl.v s11), (25, .int .i64 s250), (156, .bool (decide (s250 < (s11.len : Int))))]) (by kernel_rfl) (by kernel_rfl) ?_
  refine OJ.nil ?_
  refine SJ.cond (t := (.tmp 156)) (b := decide (s250 < (s11.len : Int))) (by kernel_rfl) (by kernel_rfl) decide_eq_true_iff (fun hc264 => ?_) (fun hc264 => ?_)
  · refine SJ.skip (by kernel_rfl) ?_
    refine SJ.seq (by kernel_rfl) ?_
    refine SJ.block (id := 4) (by kernel_rfl) ?_
    refine SJ.seq (by kernel_rfl) ?_
    refine SJ.region (id := 37) (by kernel_rfl) [0, 1, 2, 3, 4, 5, 6] (by kernel_rfl) ?_
    refine OJ.run [0] [1, 2, 3, 4, 5, 6] [11, 17, 25, 160] (m2 := [(11, .pointer r1.1), (17, Sl.v s11), (25, .int .i64 s250), (160, .pointer r1.1)]) (by kernel_rfl) (by kernel_rfl) ?_
    refine OJ.call (d := 161) (g := 22) (ats := #[23]) (args := [.tmp 160]) (vals := [.pointer r1.1]) (owed := []) (by kernel_rfl) F22 (by kernel_rfl) (ring_Port_Drain_ok r1.1) (by kernel_rfl) (by kernel_rfl) (by kernel_rfl) (fun r258 => ?_)
    refine OW.nil ?_
    refine OJ.run [2, 3, 4, 5, 6] [] [11, 17, 25, 26, 27] (m2 := [(11, .pointer r1.1), (17, Sl.v s11), (25, .int .i64 s250), (26, Sl.v r258.1), (27, .bool r258.2)]) (by kernel_rfl) (by kernel_rfl) ?_
    refine OJ.nil ?_
    refine SJ.seq (by kernel_rfl) ?_
    refine SJ.region (id := 38) (by kernel_rfl) [0, 1, 2, 3, 4, 5, 6, 7, 8, 9, 10] (by kernel_rfl) ?_
    refine OJ.run [0, 1, 2] [3, 4, 5, 6, 7, 8, 9, 10] [11, 17, 25, 26, 166] (m2 := [(11, .pointer r1.1), (17, Sl.v s11), (25, .int .i64 s250), (26, Sl.v r258.1), (166, .bool (!r258.2))]) (by kernel_rfl) (by kernel_rfl) ?_
    refine OJ.join (b := (!r258.2)) [3, 4, 5, 6, 7, 8, 9, 10] [] [11, 17, 25, 174] (fun y262 => [(11, .pointer r1.1), (17, Sl.v s11), (25, .int .i64 s250), (174, .bool y262)]) [] [] (by kernel_rfl) (t := 166) (by kernel_rfl) (bnot_iff Iff.rfl) (fun hp_ => ?_) (fun hp_ => ?_) (by kernel_rfl) (fun _ _ _ _ _ _ h_ => h_) (fun y262 => ?_)
    · refine OJ.run [3, 4, 5, 6, 7, 8, 9, 10] [] [11, 17, 25, 174] (m2 := [(11, .pointer r1.1), (17, Sl.v s11), (25, .int .i64 s250), (174, .bool true)]) (by kernel_rfl) (by kernel_rfl) ?_
      exact OJ.nil ⟨(Cov.mem Cov.nil), rfl, _, rfl, by kernel_rfl⟩
    · refine OJ.run [3, 4, 5] [6, 7, 8, 9, 10] [11, 17, 25, 166, 167, 168, 169] (m2 := [(11, .pointer r1.1), (17, Sl.v s11), (25, .int .i64 s250), (166, .bool false), (167, Sl.v r258.1), (168, Sl.v s11), (169, .int .i64 s250)]) (by kernel_rfl) (by kernel_rfl) ?_
      refine OJ.idxS (d := 170) (T := 43) (y := .tmp 168) (j := .tmp 169) (E := 22) (cap := s11.cap) (k := .i64) (by kernel_rfl) (by kernel_rfl) (by kernel_rfl) (by kernel_rfl) (by kernel_rfl) (by kernel_rfl) (by kernel_rfl) (by kernel_rfl) (fun p259 => ?_)
      refine OJ.ld (d := 171) (T := 22) (y := .tmp 170) (pend2 := fun x260 => []) (by kernel_rfl) (by kernel_rfl) Ty22 (by kernel_rfl) (by kernel_rfl) (fun _ => rfl) (fun x260 => ?_)
      refine OJ.call (d := 172) (g := 19) (ats := #[22, 22]) (args := [.tmp 167, .tmp 171]) (vals := [Sl.v r258.1, Sl.v x260]) (owed := []) (by kernel_rfl) F19 (by kernel_rfl) (weirlaw3_alike_ok r258.1 x260) (by kernel_rfl) (by kernel_rfl) (by kernel_rfl) (fun r261 => ?_)
      refine OW.nil ?_
      refine OJ.run [9, 10] [] [11, 17, 25, 174] (m2 := [(11, .pointer r1.1), (17, Sl.v s11), (25, .int .i64 s250), (174, .bool (!r261))]) (by kernel_rfl) (by kernel_rfl) ?_
      exact OJ.nil ⟨(Cov.mem Cov.nil), rfl, _, rfl, by kernel_rfl⟩
    · refine OJ.nil ?_
      refine SJ.cond (t := (.tmp 174)) (b := y262) (by kernel_rfl) (by kernel_rfl) Iff.rfl (fun hc263 => ?_) (fun hc263 => ?_)
      · refine SJ.seq (by kernel_rfl) ?_
        refine SJ.region (id := 39) (by kernel_rfl) [0] (by kernel_rfl) ?_
        refine OJ.run [0] [] [10] (m2 := [(10, .bool false)]) (by kernel_rfl) (by kernel_rfl) ?_
        refine OJ.nil ?_
        exact SJ.ret (by kernel_rfl) rfl (Res.run (ys := [.bool false]) (.tmp (by kernel_rfl) .nil) rfl)
      · refine SJ.skip (by kernel_rfl) ?_
        refine SJ.inBlock ?_
        refine SJ.region (id := 36) (by kernel_rfl) [0, 1, 2] (by kernel_rfl) ?_
        refine OJ.run [0, 1, 2] [] [11, 17, 25] (m2 := [(11, .pointer r1.1), (17, Sl.v s11), (25, .int .i64 (IntKind.wrap .i64 (s250 + 1)))]) (by kernel_rfl) (by kernel_rfl) ?_
        refine OJ.nil ?_
        exact SJ.at_ [11, 17, 25] rfl (by kernel_rfl)
  · refine SJ.exit (id := 3) (by kernel_rfl) (by rfl) ?_
    refine SJ.seq (by kernel_rfl) ?_
    refine SJ.region (id := 40) (by kernel_rfl) [0] (by kernel_rfl) ?_
    refine OJ.run [0] [] [10] (m2 := [(10, .bool true)]) (by kernel_rfl) (by kernel_rfl) ?_
    refine OJ.nil ?_
    exact SJ.ret (by kernel_rfl) rfl (Res.run (ys := [.bool true]) (.tmp (by kernel_rfl) .nil) rfl)
noncomputable def weirlaw3_RingFifo.K1 (r1 : ((Option Addr) × Int × Int × Int × Int)) (s11 : Sl) : M Bool :=
  loopM (fun s_ : Int => weirlaw3_RingFifo.L1 r1 s11 s_) 0
theorem weirlaw3_RingFifo.K1_ok (r1 : ((Option Addr) × Int × Int × Int × Int)) (s11 : Sl) :
    SJ weirlaw3_RingFifo.cx [.code (c2 (c2 (c2 (c2 (c2 (c2 weirlaw3_RingFifo.B))))))] [(11, .pointer r1.1), (17, Sl.v s11)] [] (weirlaw3_RingFifo.K1 r1 s11) weirlaw3_RingFifo.F0 := by
  unfold weirlaw3_RingFifo.K1
  refine SJ.seq (by kernel_rfl) ?_
  refine SJ.seq (by kernel_rfl) ?_
  refine SJ.region (id := 34) (by kernel_rfl) [0] (by kernel_rfl) ?_
  refine OJ.run [0] [] [11, 17, 25] (m2 := [(11, .pointer r1.1), (17, Sl.v s11), (25, .int .i64 0)]) (by kernel_rfl) (by kernel_rfl) ?_
  refine OJ.nil ?_
  refine SJ.block (id := 3) (by kernel_rfl) ?_
  exact SJ.loop (fun s_ : Int => [(11, .pointer r1.1), (17, Sl.v s11), (25, .int .i64 s_)]) (fun s_ : Int => []) [11, 17, 25] (by kernel_rfl) (by kernel_rfl) rfl (fun _ _ => rfl) (fun s_ => weirlaw3_RingFifo.L1_ok r1 s11 s_)
noncomputable def weirlaw3_RingFifo.F2 (a4 : Sl) (r1 : ((Option Addr) × Int × Int × Int × Int)) : (LS (Sl × Sl × Int) Bool) → Reach := loopF [.inLoop (c1 (c1 (c2 (c1 (c2 (c2 (c2 (c2 (c2 weirlaw3_RingFifo.B))))))))), .inBlock 0, .code (c2 (c2 (c2 (c2 (c2 (c2 weirlaw3_RingFifo.B))))))] (fun s_ : (Sl × Sl × Int) => [(4, Sl.v a4), (11, .pointer r1.1), (16, Sl.v s_.1), (17, Sl.v s_.2.1), (18, .int .i64 s_.2.2)]) (fun s_ : (Sl × Sl × Int) => []) weirlaw3_RingFifo.F0
noncomputable def weirlaw3_RingFifo.K2 (s12 : Int) (j444 : Sl) (j445 : Sl) : M (LS (Sl × Sl × Int) Bool) :=
  pure (LS.next (j444, j445, IntKind.wrap .i64 (s12 + 1)))
theorem weirlaw3_RingFifo.K2_ok (a4 : Sl) (r1 : ((Option Addr) × Int × Int × Int × Int)) (s12 : Int) (j444 : Sl) (j445 : Sl) :
    SJ weirlaw3_RingFifo.cx [.inBlock 2, .inBlock 1, .code (c2 (c2 (c1 (c1 (c2 (c1 (c2 (c2 (c2 (c2 (c2 weirlaw3_RingFifo.B))))))))))), .inLoop (c1 (c1 (c2 (c1 (c2 (c2 (c2 (c2 (c2 weirlaw3_RingFifo.B))))))))), .inBlock 0, .code (c2 (c2 (c2 (c2 (c2 (c2 weirlaw3_RingFifo.B))))))] [(4, Sl.v a4), (11, .pointer r1.1), (16, Sl.v j444), (17, Sl.v j445), (18, .int .i64 s12)] [] (weirlaw3_RingFifo.K2 s12 j444 j445) (weirlaw3_RingFifo.F2 a4 r1) := by
  unfold weirlaw3_RingFifo.K2
  refine SJ.inBlock ?_
  refine SJ.inBlock ?_
  refine SJ.region (id := 8) (by kernel_rfl) [0, 1, 2] (by kernel_rfl) ?_
  refine OJ.run [0, 1, 2] [] [4, 11, 16, 17, 18] (m2 := [(4, Sl.v a4), (11, .pointer r1.1), (16, Sl.v j444), (17, Sl.v j445), (18, .int .i64 (IntKind.wrap .i64 (s12 + 1)))]) (by kernel_rfl) (by kernel_rfl) ?_
  refine OJ.nil ?_
  exact SJ.at_ [4, 11, 16, 17, 18] rfl (by kernel_rfl)
noncomputable def weirlaw3_RingFifo.L2 (a4 : Sl) (r1 : ((Option Addr) × Int × Int × Int × Int)) (s10 : Sl) (s11 : Sl) (s12 : Int) : M (LS (Sl × Sl × Int) Bool) :=
  if s12 < (a4.len : Int) then
    idx a4.a a4.len s12 5 >>= fun p265 =>
    ld c_weirlaw3_Op p265 >>= fun x266 =>
    slot 45 >>= fun b267 =>
    if x266.Kind = 2 then
      ring_Port_Arrive r1.1 x266.B >>= fun r384 =>
      weirlaw3_num r384 >>= fun r385 =>
      if r385 = 0 then
        slot 22 >>= fun b388 =>
        appl cL 22 24 Sl.nil s10 [x266.B] >>= fun r389 =>
        pure (LS.next (r389, s11, IntKind.wrap .i64 (s12 + 1)))
      else
        pure (LS.next (s10, s11, IntKind.wrap .i64 (s12 + 1)))
    else
      if x266.Kind = 3 then
        ring_Port_Poll r1.1 >>= fun r446 =>
        if ¬ (r446.2.2 = (decide ((s10.len : Int) > 0))) then
          pure (LS.done false)
        else
          if ¬ (r446.2.2 = true) then
            pure (LS.next (s10, s11, IntKind.wrap .i64 (s12 + 1)))
          else
            idx s10.a s10.len 0 1 >>= fun p447 =>
            ld cL p447 >>= fun x448 =>
            weirlaw3_alike r446.2.1 x448 >>= fun r449 =>
            if ¬ (r449 = true) then
              pure (LS.done false)
            else
              ring_Port_Send r1.1 r446.1 (r446.2.1.len : Int) >>= fun r450 =>
              weirlaw3_num r450 >>= fun r451 =>
              if r451 = 0 then
                idx s10.a s10.len 0 1 >>= fun p459 =>
                ld cL p459 >>= fun x460 =>
                slot 22 >>= fun b461 =>
                appl cL 22 24 Sl.nil s11 [x460] >>= fun r462 =>
                cut 1 s10 (some 1) none none >>= fun r463 =>
                weirlaw3_RingFifo.K2 s12 r463 r462
              else
                ring_Port_Release r1.1 r446.1 >>= fun r464 =>
                weirlaw3_num r464 >>= fun r465 =>
                if r465 ≠ 0 then
                  pure (LS.done false)
                else
                  cut 1 s10 (some 1) none none >>= fun r466 =>
                  weirlaw3_RingFifo.K2 s12 r466 s11
      else
        if x266.Kind = 8 then
          ring_Port_Drain r1.1 >>= fun r485 =>
          (if ¬ (r485.2 = (decide ((s11.len : Int) > 0))) then
              pure true
            else
              (if r485.2 = true then
                  idx s11.a s11.len 0 1 >>= fun p486 =>
                  ld cL p486 >>= fun x487 =>
                  weirlaw3_alike r485.1 x487 >>= fun r488 =>
                  pure (!r488)
                else
                  pure false) >>= fun y489 =>
              pure y489) >>= fun y490 =>
          if y490 = true then
            pure (LS.done false)
          else
            if r485.2 = true then
              cut 1 s11 (some 1) none none >>= fun r492 =>
              weirlaw3_RingFifo.K2 s12 s10 r492
            else
              weirlaw3_RingFifo.K2 s12 s10 s11
        else
          if x266.Kind = 1 then
            ring_Port_Refill r1.1 x266.N >>= fun r496 =>
            weirlaw3_RingFifo.K2 s12 s10 s11
          else
            weirlaw3_RingFifo.K2 s12 s10 s11
  else
    (weirlaw3_RingFifo.K1 r1 s11) >>= fun b => pure (LS.done b)
theorem weirlaw3_RingFifo.L2_ok (a4 : Sl) (r1 : ((Option Addr) × Int × Int × Int × Int)) (s10 : Sl) (s11 : Sl) (s12 : Int) :
    SJ weirlaw3_RingFifo.cx [.code (c1 (c1 (c2 (c1 (c2 (c2 (c2 (c2 (c2 weirlaw3_RingFifo.B))))))))), .inLoop (c1 (c1 (c2 (c1 (c2 (c2 (c2 (c2 (c2 weirlaw3_RingFifo.B))))))))), .inBlock 0, .code (c2 (c2 (c2 (c2 (c2 (c2 weirlaw3_RingFifo.B))))))] [(4, Sl.v a4), (11, .pointer r1.1), (16, Sl.v s10), (17, Sl.v s11), (18, .int .i64 s12)] [] (weirlaw3_RingFifo.L2 a4 r1 s10 s11 s12) (weirlaw3_RingFifo.F2 a4 r1) := by
  unfold weirlaw3_RingFifo.L2
  refine SJ.seq (by kernel_rfl) ?_
  refine SJ.seq (by kernel_rfl) ?_
  refine SJ.region (id := 7) (by kernel_rfl) [0, 1, 2, 3] (by kernel_rfl) ?_
  refine OJ.run [0, 1, 2, 3] [] [4, 11, 16, 17, 18, 58] (m2 := [(4, Sl.v a4), (11, .pointer r1.1), (16, Sl.v s10), (17, Sl.v s11), (18, .int .i64 s12), (58, .bool (decide (s12 < (a4.len : Int))))]) (by kernel_rfl) (by kernel_rfl) ?_
  refine OJ.nil ?_
  refine SJ.cond (t := (.tmp 58)) (b := decide (s12 < (a4.len : Int))) (by kernel_rfl) (by kernel_rfl) decide_eq_true_iff (fun hc501 => ?_) (fun hc501 => ?_)
  · refine SJ.skip (by kernel_rfl) ?_
    refine SJ.seq (by kernel_rfl) ?_
    refine SJ.block (id := 1) (by kernel_rfl) ?_
    refine SJ.seq (by kernel_rfl) ?_
    refine SJ.region (id := 9) (by kernel_rfl) [0, 1, 2, 3, 4, 5] (by kernel_rfl) ?_
    refine OJ.run [0, 1] [2, 3, 4, 5] [4, 11, 16, 17, 18, 61, 62] (m2 := [(4, Sl.v a4), (11, .pointer r1.1), (16, Sl.v s10), (17, Sl.v s11), (18, .int .i64 s12), (61, Sl.v a4), (62, .int .i64 s12)]) (by kernel_rfl) (by kernel_rfl) ?_
    refine OJ.idxS (d := 63) (T := 40) (y := .tmp 61) (j := .tmp 62) (E := 45) (cap := a4.cap) (k := .i64) (by kernel_rfl) (by kernel_rfl) (by kernel_rfl) (by kernel_rfl) (by kernel_rfl) (by kernel_rfl) (by kernel_rfl) (by kernel_rfl) (fun p265 => ?_)
    refine OJ.ld (d := 64) (T := 45) (y := .tmp 63) (pend2 := fun x266 => []) (by kernel_rfl) (by kernel_rfl) Ty45 (by kernel_rfl) (by kernel_rfl) (fun _ => rfl) (fun x266 => ?_)
    refine OJ.slotOf (d := 19) (op := (.alloc 45)) (cd := c_weirlaw3_Op) (u := z_weirlaw3_Op) (owed := []) (by kernel_rfl) (alloc_run Ty45) (by kernel_rfl) (by kernel_rfl) (by kernel_rfl) (fun b267 => ?_)
    refine OW.nil ?_
    refine OJ.kst (T := 45) (y := .tmp 19) (z := .tmp 64) (cd := c_weirlaw3_Op) (u := x266) (j := 0) (b := b267) (o := 0) (c_weirlaw3_Op.enc x266) (h2 := [(b267, c_weirlaw3_Op.enc x266)]) (owed := []) (by kernel_rfl) (by kernel_rfl) (by kernel_rfl) Ty45 rfl (Upd.whole ((Cod.len _ _).trans (Cod.len _ _).symm)) (by kernel_rfl) (by kernel_rfl) rfl ?_
    refine OW.nil ?_
    refine OJ.nil ?_
    refine SJ.seq (by kernel_rfl) ?_
    refine SJ.region (id := 10) (by kernel_rfl) [0, 1] (by kernel_rfl) ?_
    refine OJ.run [0] [1] [4, 11, 16, 17, 18, 19, 65] (m2 := [(4, Sl.v a4), (11, .pointer r1.1), (16, Sl.v s10), (17, Sl.v s11), (18, .int .i64 s12), (19, .pointer (some (pt b267 0))), (65, .pointer (some (pt b267 0)))]) (by kernel_rfl) (by kernel_rfl) ?_
    refine OJ.kld (d := 66) (T := 3) (y := .tmp 65) (cd := (cI .i64)) (j := 0) (b := b267) (o := 0) x266.Kind (pend2 := []) (by kernel_rfl) (by kernel_rfl) Ty3 (by kernel_rfl) rfl (At_weirlaw3_Op_Kind x266) (by kernel_rfl) rfl ?_
    refine OJ.nil ?_
    refine SJ.block (id := 2) (by kernel_rfl) ?_
    refine SJ.seq (by kernel_rfl) ?_
    refine SJ.region (id := 11) (by kernel_rfl) [0, 1] (by kernel_rfl) ?_
    refine OJ.run [0, 1] [] [4, 11, 16, 17, 18, 19, 66, 67] (m2 := [(4, Sl.v a4), (11, .pointer r1.1), (16, Sl.v s10), (17, Sl.v s11), (18, .int .i64 s12), (19, .pointer (some (pt b267 0))), (66, .int .i64 x266.Kind), (67, .bool (x266.Kind == 2))]) (by kernel_rfl) (by kernel_rfl) ?_
    refine OJ.nil ?_
    refine SJ.cond (t := (.tmp 67)) (b := (x266.Kind == 2)) (by kernel_rfl) (by kernel_rfl) beq_iff_eq (fun hc500 => ?_) (fun hc500 => ?_)
    · refine SJ.seq (by kernel_rfl) ?_
      refine SJ.region (id := 12) (by kernel_rfl) [0, 1, 2, 3, 4, 5] (by kernel_rfl) ?_
      refine OJ.run [0, 1] [2, 3, 4, 5] [4, 11, 16, 17, 18, 19, 69, 70] (m2 := [(4, Sl.v a4), (11, .pointer r1.1), (16, Sl.v s10), (17, Sl.v s11), (18, .int .i64 s12), (19, .pointer (some (pt b267 0))), (69, .pointer r1.1), (70, .pointer (some (pt b267 4)))]) (by kernel_rfl) (by kernel_rfl) ?_
      refine OJ.kld (d := 71) (T := 22) (y := .tmp 70) (cd := cL) (j := 0) (b := b267) (o := 4) x266.B (pend2 := []) (by kernel_rfl) (by kernel_rfl) Ty22 (by kernel_rfl) rfl (At_weirlaw3_Op_B x266) (by kernel_rfl) rfl ?_
      refine OJ.call (d := 72) (g := 16) (ats := #[23, 22]) (args := [.tmp 69, .tmp 71]) (vals := [.pointer r1.1, Sl.v x266.B]) (owed := []) (by kernel_rfl) F16 (by kernel_rfl) (ring_Port_Arrive_ok r1.1 x266.B) (by kernel_rfl) (by kernel_rfl) (by kernel_rfl) (fun r384 => ?_)
      refine OW.nil ?_
      refine OJ.call (d := 73) (g := 14) (ats := #[24]) (args := [.tmp 72]) (vals := [.int .i64 r384]) (owed := []) (by kernel_rfl) F14 (by kernel_rfl) (weirlaw3_num_ok r384) (by kernel_rfl) (by kernel_rfl) (by kernel_rfl) (fun r385 => ?_)
      refine OW.nil ?_
      refine OJ.run [5] [] [4, 11, 16, 17, 18, 19, 74] (m2 := [(4, Sl.v a4), (11, .pointer r1.1), (16, Sl.v s10), (17, Sl.v s11), (18, .int .i64 s12), (19, .pointer (some (pt b267 0))), (74, .bool (r385 == 0))]) (by kernel_rfl) (by kernel_rfl) ?_
      refine OJ.nil ?_
      refine SJ.cond (t := (.tmp 74)) (b := (r385 == 0)) (by kernel_rfl) (by kernel_rfl) beq_iff_eq (fun hc390 => ?_) (fun hc390 => ?_)
      · refine SJ.region (id := 13) (by kernel_rfl) [0, 1, 2, 3, 4, 5] (by kernel_rfl) ?_
        refine OJ.run [0, 1] [2, 3, 4, 5] [4, 11, 16, 17, 18, 75, 76] (m2 := [(4, Sl.v a4), (11, .pointer r1.1), (16, Sl.v s10), (17, Sl.v s11), (18, .int .i64 s12), (75, Sl.v s10), (76, .pointer (some (pt b267 4)))]) (by kernel_rfl) (by kernel_rfl) ?_
        refine OJ.kld (d := 77) (T := 22) (y := .tmp 76) (cd := cL) (j := 0) (b := b267) (o := 4) x266.B (pend2 := []) (by kernel_rfl) (by kernel_rfl) Ty22 (by kernel_rfl) rfl (At_weirlaw3_Op_B x266) (by kernel_rfl) rfl ?_
        refine OJ.rowSlot (d := 78) (t := 43) (parts := [(0, .tmp 77)]) (ps := [(0, cL.val x266.B)]) (cd := cL) (⟨[x266.B], rfl⟩ : Vec Sl 1) (owed := []) (by kernel_rfl) (by kernel_rfl) (by kernel_rfl) Ty22 (by kernel_rfl) (Filled.cons (cd := cL) (q := x266.B) (o := 0) rfl (Upd.arr (i := 0) (by decide) (by decide)) Filled.nil) (by kernel_rfl) (by kernel_rfl) (by kernel_rfl) (fun b388 => ?_)
        refine OW.nil ?_
        refine OJ.appl (d := 79) (t := 43) (u := 43) (so := .tmp 75) (xo := .tmp 78) (j := 0) (b := b388) (l := (cL.arr 1).enc (⟨[x266.B], rfl⟩ : Vec Sl 1)) (n := 1) (k := 1) [x266.B] (owed := []) (by kernel_rfl) (by kernel_rfl) (by kernel_rfl) Ty22 (by kernel_rfl) (by kernel_rfl) (by kernel_rfl) (by rfl) (Cod.arr_enc _ _ _) (by rfl) (by kernel_rfl) (by kernel_rfl) (by kernel_rfl) (fun r389 => ?_)
        refine OW.nil ?_
        refine OJ.run [5] [] [4, 11, 16, 17, 18] (m2 := [(4, Sl.v a4), (11, .pointer r1.1), (16, Sl.v r389), (17, Sl.v s11), (18, .int .i64 s12)]) (by kernel_rfl) (by kernel_rfl) ?_
        refine OJ.nil ?_
        refine SJ.inBlock ?_
        refine SJ.inBlock ?_
        refine SJ.region (id := 8) (by kernel_rfl) [0, 1, 2] (by kernel_rfl) ?_
        refine OJ.run [0, 1, 2] [] [4, 11, 16, 17, 18] (m2 := [(4, Sl.v a4), (11, .pointer r1.1), (16, Sl.v r389), (17, Sl.v s11), (18, .int .i64 (IntKind.wrap .i64 (s12 + 1)))]) (by kernel_rfl) (by kernel_rfl) ?_
        refine OJ.nil ?_
        refine SJ.forget (List.Sublist.cons _ (List.Sublist.cons _ List.Sublist.slnil)) ?_
        exact SJ.at_ [4, 11, 16, 17, 18] rfl (by kernel_rfl)
      · refine SJ.skip (by kernel_rfl) ?_
        refine SJ.inBlock ?_
        refine SJ.inBlock ?_
        refine SJ.region (id := 8) (by kernel_rfl) [0, 1, 2] (by kernel_rfl) ?_
        refine OJ.run [0, 1, 2] [] [4, 11, 16, 17, 18] (m2 := [(4, Sl.v a4), (11, .pointer r1.1), (16, Sl.v s10), (17, Sl.v s11), (18, .int .i64 (IntKind.wrap .i64 (s12 + 1)))]) (by kernel_rfl) (by kernel_rfl) ?_
        refine OJ.nil ?_
        refine SJ.forget (List.Sublist.cons _ List.Sublist.slnil) ?_
        exact SJ.at_ [4, 11, 16, 17, 18] rfl (by kernel_rfl)
    · refine SJ.seq (by kernel_rfl) ?_
      refine SJ.region (id := 14) (by kernel_rfl) [0, 1] (by kernel_rfl) ?_
      refine OJ.run [0, 1] [] [4, 11, 16, 17, 18, 19, 66, 80] (m2 := [(4, Sl.v a4), (11, .pointer r1.1), (16, Sl.v s10), (17, Sl.v s11), (18, .int .i64 s12), (19, .pointer (some (pt b267 0))), (66, .int .i64 x266.Kind), (80, .bool (x266.Kind == 3))]) (by kernel_rfl) (by kernel_rfl) ?_
      refine OJ.nil ?_
      refine SJ.cond (t := (.tmp 80)) (b := (x266.Kind == 3)) (by kernel_rfl) (by kernel_rfl) beq_iff_eq (fun hc499 => ?_) (fun hc499 => ?_)
      · refine SJ.seq (by kernel_rfl) ?_
        refine SJ.region (id := 15) (by kernel_rfl) [0, 1, 2, 3, 4, 5, 6, 7, 8] (by kernel_rfl) ?_
        refine OJ.run [0] [1, 2, 3, 4, 5, 6, 7, 8] [4, 11, 16, 17, 18, 83] (m2 := [(4, Sl.v a4), (11, .pointer r1.1), (16, Sl.v s10), (17, Sl.v s11), (18, .int .i64 s12), (83, .pointer r1.1)]) (by kernel_rfl) (by kernel_rfl) ?_
        refine OJ.call (d := 84) (g := 17) (ats := #[23]) (args := [.tmp 83]) (vals := [.pointer r1.1]) (owed := []) (by kernel_rfl) F17 (by kernel_rfl) (ring_Port_Poll_ok r1.1) (by kernel_rfl) (by kernel_rfl) (by kernel_rfl) (fun r446 => ?_)
        refine OW.nil ?_
        refine OJ.run [2, 3, 4, 5, 6, 7, 8] [] [4, 11, 16, 17, 18, 20, 21, 22] (m2 := [(4, Sl.v a4), (11, .pointer r1.1), (16, Sl.v s10), (17, Sl.v s11), (18, .int .i64 s12), (20, .int .i64 r446.1), (21, Sl.v r446.2.1), (22, .bool r446.2.2)]) (by kernel_rfl) (by kernel_rfl) ?_
        refine OJ.nil ?_
        refine SJ.seq (by kernel_rfl) ?_
        refine SJ.seq (by kernel_rfl) ?_
        refine SJ.region (id := 16) (by kernel_rfl) [0, 1, 2, 3, 4] (by kernel_rfl) ?_
        refine OJ.run [0, 1, 2, 3, 4] [] [4, 11, 16, 17, 18, 20, 21, 22, 92] (m2 := [(4, Sl.v a4), (11, .pointer r1.1), (16, Sl.v s10), (17, Sl.v s11), (18, .int .i64 s12), (20, .int .i64 r446.1), (21, Sl.v r446.2.1), (22, .bool r446.2.2), (92, .bool (!(r446.2.2 == (decide ((s10.len : Int) > 0)))))]) (by kernel_rfl) (by kernel_rfl) ?_
        refine OJ.nil ?_
        refine SJ.cond (t := (.tmp 92)) (b := (!(r446.2.2 == (decide ((s10.len : Int) > 0))))) (by kernel_rfl) (by kernel_rfl) (bnot_iff beq_iff_eq) (fun hc471 => ?_) (fun hc471 => ?_)
        · refine SJ.seq (by kernel_rfl) ?_
          refine SJ.region (id := 17) (by kernel_rfl) [0] (by kernel_rfl) ?_
          refine OJ.run [0] [] [10] (m2 := [(10, .bool false)]) (by kernel_rfl) (by kernel_rfl) ?_
          refine OJ.nil ?_
          exact SJ.ret (by kernel_rfl) rfl (Res.run (ys := [.bool false]) (.tmp (by kernel_rfl) .nil) rfl)
        · refine SJ.skip (by kernel_rfl) ?_
          refine SJ.seq (by kernel_rfl) ?_
          refine SJ.seq (by kernel_rfl) ?_
          refine SJ.region (id := 18) (by kernel_rfl) [0, 1] (by kernel_rfl) ?_
          refine OJ.run [0, 1] [] [4, 11, 16, 17, 18, 20, 21, 94] (m2 := [(4, Sl.v a4), (11, .pointer r1.1), (16, Sl.v s10), (17, Sl.v s11), (18, .int .i64 s12), (20, .int .i64 r446.1), (21, Sl.v r446.2.1), (94, .bool (!r446.2.2))]) (by kernel_rfl) (by kernel_rfl) ?_
          refine OJ.nil ?_
          refine SJ.cond (t := (.tmp 94)) (b := (!r446.2.2)) (by kernel_rfl) (by kernel_rfl) (bnot_iff Iff.rfl) (fun hc470 => ?_) (fun hc470 => ?_)
          · refine SJ.exit (id := 1) (by kernel_rfl) (by rfl) ?_
            refine SJ.region (id := 8) (by kernel_rfl) [0, 1, 2] (by kernel_rfl) ?_
            refine OJ.run [0, 1, 2] [] [4, 11, 16, 17, 18] (m2 := [(4, Sl.v a4), (11, .pointer r1.1), (16, Sl.v s10), (17, Sl.v s11), (18, .int .i64 (IntKind.wrap .i64 (s12 + 1)))]) (by kernel_rfl) (by kernel_rfl) ?_
            refine OJ.nil ?_
            refine SJ.forget (List.Sublist.cons _ List.Sublist.slnil) ?_
            exact SJ.at_ [4, 11, 16, 17, 18] rfl (by kernel_rfl)
          · refine SJ.skip (by kernel_rfl) ?_
            refine SJ.seq (by kernel_rfl) ?_
            refine SJ.seq (by kernel_rfl) ?_
            refine SJ.region (id := 19) (by kernel_rfl) [0, 1, 2, 3, 4, 5] (by kernel_rfl) ?_
            refine OJ.run [0, 1] [2, 3, 4, 5] [4, 11, 16, 17, 18, 20, 21, 95, 96] (m2 := [(4, Sl.v a4), (11, .pointer r1.1), (16, Sl.v s10), (17, Sl.v s11), (18, .int .i64 s12), (20, .int .i64 r446.1), (21, Sl.v r446.2.1), (95, Sl.v r446.2.1), (96, Sl.v s10)]) (by kernel_rfl) (by kernel_rfl) ?_
            refine OJ.idxS (d := 97) (T := 43) (y := .tmp 96) (j := .const (.int .i64 0)) (E := 22) (cap := s10.cap) (k := .i64) (by kernel_rfl) (by kernel_rfl) (by kernel_rfl) (by kernel_rfl) (by kernel_rfl) (by kernel_rfl) (by kernel_rfl) (by kernel_rfl) (fun p447 => ?_)
            refine OJ.ld (d := 98) (T := 22) (y := .tmp 97) (pend2 := fun x448 => []) (by kernel_rfl) (by kernel_rfl) Ty22 (by kernel_rfl) (by kernel_rfl) (fun _ => rfl) (fun x448 => ?_)
            refine OJ.call (d := 99) (g := 19) (ats := #[22, 22]) (args := [.tmp 95, .tmp 98]) (vals := [Sl.v r446.2.1, Sl.v x448]) (owed := []) (by kernel_rfl) F19 (by kernel_rfl) (weirlaw3_alike_ok r446.2.1 x448) (by kernel_rfl) (by kernel_rfl) (by kernel_rfl) (fun r449 => ?_)
            refine OW.nil ?_
            refine OJ.run [5] [] [4, 11, 16, 17, 18, 20, 21, 100] (m2 := [(4, Sl.v a4), (11, .pointer r1.1), (16, Sl.v s10), (17, Sl.v s11), (18, .int .i64 s12), (20, .int .i64 r446.1), (21, Sl.v r446.2.1), (100, .bool (!r449))]) (by kernel_rfl) (by kernel_rfl) ?_
            refine OJ.nil ?_
            refine SJ.cond (t := (.tmp 100)) (b := (!r449)) (by kernel_rfl) (by kernel_rfl) (bnot_iff Iff.rfl) (fun hc469 => ?_) (fun hc469 => ?_)
            · refine SJ.seq (by kernel_rfl) ?_
              refine SJ.region (id := 20) (by kernel_rfl) [0] (by kernel_rfl) ?_
              refine OJ.run [0] [] [10] (m2 := [(10, .bool false)]) (by kernel_rfl) (by kernel_rfl) ?_
              refine OJ.nil ?_
              exact SJ.ret (by kernel_rfl) rfl (Res.run (ys := [.bool false]) (.tmp (by kernel_rfl) .nil) rfl)
            · refine SJ.skip (by kernel_rfl) ?_
              refine SJ.seq (by kernel_rfl) ?_
              refine SJ.seq (by kernel_rfl) ?_
              refine SJ.region (id := 21) (by kernel_rfl) [0, 1, 2, 3, 4, 5, 6] (by kernel_rfl) ?_
              refine OJ.run [0, 1, 2, 3] [4, 5, 6] [4, 11, 16, 17, 18, 20, 101, 102, 104] (m2 := [(4, Sl.v a4), (11, .pointer r1.1), (16, Sl.v s10), (17, Sl.v s11), (18, .int .i64 s12), (20, .int .i64 r446.1), (101, .pointer r1.1), (102, .int .i64 r446.1), (104, .int .i64 (r446.2.1.len : Int))]) (by kernel_rfl) (by kernel_rfl) ?_
              refine OJ.call (d := 105) (g := 21) (ats := #[23, 3, 3]) (args := [.tmp 101, .tmp 102, .tmp 104]) (vals := [.pointer r1.1, .int .i64 r446.1, .int .i64 (r446.2.1.len : Int)]) (owed := []) (by kernel_rfl) F21 (by kernel_rfl) (ring_Port_Send_ok r1.1 r446.1 (r446.2.1.len : Int)) (by kernel_rfl) (by kernel_rfl) (by kernel_rfl) (fun r450 => ?_)
              refine OW.nil ?_
              refine OJ.call (d := 106) (g := 14) (ats := #[24]) (args := [.tmp 105]) (vals := [.int .i64 r450]) (owed := []) (by kernel_rfl) F14 (by kernel_rfl) (weirlaw3_num_ok r450) (by kernel_rfl) (by kernel_rfl) (by kernel_rfl) (fun r451 => ?_)
              refine OW.nil ?_
              refine OJ.run [6] [] [4, 11, 16, 17, 18, 20, 107] (m2 := [(4, Sl.v a4), (11, .pointer r1.1), (16, Sl.v s10), (17, Sl.v s11), (18, .int .i64 s12), (20, .int .i64 r446.1), (107, .bool (r451 == 0))]) (by kernel_rfl) (by kernel_rfl) ?_
              refine OJ.nil ?_
              refine SJ.cond (t := (.tmp 107)) (b := (r451 == 0)) (by kernel_rfl) (by kernel_rfl) beq_iff_eq (fun hc468 => ?_) (fun hc468 => ?_)
              · refine SJ.region (id := 22) (by kernel_rfl) [0, 1, 2, 3, 4, 5, 6] (by kernel_rfl) ?_
                refine OJ.run [0, 1] [2, 3, 4, 5, 6] [4, 11, 16, 17, 18, 108, 109] (m2 := [(4, Sl.v a4), (11, .pointer r1.1), (16, Sl.v s10), (17, Sl.v s11), (18, .int .i64 s12), (108, Sl.v s11), (109, Sl.v s10)]) (by kernel_rfl) (by kernel_rfl) ?_
                refine OJ.idxS (d := 110) (T := 43) (y := .tmp 109) (j := .const (.int .i64 0)) (E := 22) (cap := s10.cap) (k := .i64) (by kernel_rfl) (by kernel_rfl) (by kernel_rfl) (by kernel_rfl) (by kernel_rfl) (by kernel_rfl) (by kernel_rfl) (by kernel_rfl) (fun p459 => ?_)
                refine OJ.ld (d := 111) (T := 22) (y := .tmp 110) (pend2 := fun x460 => []) (by kernel_rfl) (by kernel_rfl) Ty22 (by kernel_rfl) (by kernel_rfl) (fun _ => rfl) (fun x460 => ?_)
                refine OJ.rowSlot (d := 112) (t := 43) (parts := [(0, .tmp 111)]) (ps := [(0, cL.val x460)]) (cd := cL) (⟨[x460], rfl⟩ : Vec Sl 1) (owed := []) (by kernel_rfl) (by kernel_rfl) (by kernel_rfl) Ty22 (by kernel_rfl) (Filled.cons (cd := cL) (q := x460) (o := 0) rfl (Upd.arr (i := 0) (by decide) (by decide)) Filled.nil) (by kernel_rfl) (by kernel_rfl) (by kernel_rfl) (fun b461 => ?_)
                refine OW.nil ?_
                refine OJ.appl (d := 113) (t := 43) (u := 43) (so := .tmp 108) (xo := .tmp 112) (j := 0) (b := b461) (l := (cL.arr 1).enc (⟨[x460], rfl⟩ : Vec Sl 1)) (n := 1) (k := 1) [x460] (owed := []) (by kernel_rfl) (by kernel_rfl) (by kernel_rfl) Ty22 (by kernel_rfl) (by kernel_rfl) (by kernel_rfl) (by rfl) (Cod.arr_enc _ _ _) (by rfl) (by kernel_rfl) (by kernel_rfl) (by kernel_rfl) (fun r462 => ?_)
                refine OW.nil ?_
                refine OJ.run [6] [] [4, 11, 16, 17, 18] (m2 := [(4, Sl.v a4), (11, .pointer r1.1), (16, Sl.v s10), (17, Sl.v r462), (18, .int .i64 s12)]) (by kernel_rfl) (by kernel_rfl) ?_
                refine OJ.nil ?_
                refine SJ.region (id := 25) (by kernel_rfl) [0, 1, 2] (by kernel_rfl) ?_
                refine OJ.run [0] [1, 2] [4, 11, 16, 17, 18, 119] (m2 := [(4, Sl.v a4), (11, .pointer r1.1), (16, Sl.v s10), (17, Sl.v r462), (18, .int .i64 s12), (119, Sl.v s10)]) (by kernel_rfl) (by kernel_rfl) ?_
                refine OJ.cut (d := 120) (t := 43) (E := 22) (y := .tmp 119) (lo := (some (.const (.int .i64 1)))) (hi := none) (mx := none) (lo' := some (.i64, 1)) (hi' := none) (mx' := none) (by kernel_rfl) (by kernel_rfl) (by kernel_rfl) (by kernel_rfl) (by kernel_rfl) (by kernel_rfl) (by kernel_rfl) (fun h => by cases h) (by kernel_rfl) (by kernel_rfl) (by kernel_rfl) (fun r463 => ?_)
                refine OJ.run [2] [] [4, 11, 16, 17, 18] (m2 := [(4, Sl.v a4), (11, .pointer r1.1), (16, Sl.v r463), (17, Sl.v r462), (18, .int .i64 s12)]) (by kernel_rfl) (by kernel_rfl) ?_
                refine OJ.nil ?_
                refine SJ.forget (List.Sublist.cons _ (List.Sublist.cons _ List.Sublist.slnil)) ?_
                refine SJ.less [4, 11, 16, 17, 18] (m' := [(4, Sl.v a4), (11, .pointer r1.1), (16, Sl.v r463), (17, Sl.v r462), (18, .int .i64 s12)]) (by kernel_rfl) ?_
                exact weirlaw3_RingFifo.K2_ok a4 r1 s12 r463 r462
              · refine SJ.seq (by kernel_rfl) ?_
                refine SJ.region (id := 23) (by kernel_rfl) [0, 1, 2, 3, 4] (by kernel_rfl) ?_
                refine OJ.run [0, 1] [2, 3, 4] [4, 11, 16, 17, 18, 114, 115] (m2 := [(4, Sl.v a4), (11, .pointer r1.1), (16, Sl.v s10), (17, Sl.v s11), (18, .int .i64 s12), (114, .pointer r1.1), (115, .int .i64 r446.1)]) (by kernel_rfl) (by kernel_rfl) ?_
                refine OJ.call (d := 116) (g := 24) (ats := #[23, 3]) (args := [.tmp 114, .tmp 115]) (vals := [.pointer r1.1, .int .i64 r446.1]) (owed := []) (by kernel_rfl) F24 (by kernel_rfl) (ring_Port_Release_ok r1.1 r446.1) (by kernel_rfl) (by kernel_rfl) (by kernel_rfl) (fun r464 => ?_)
                refine OW.nil ?_
                refine OJ.call (d := 117) (g := 14) (ats := #[24]) (args := [.tmp 116]) (vals := [.int .i64 r464]) (owed := []) (by kernel_rfl) F14 (by kernel_rfl) (weirlaw3_num_ok r464) (by kernel_rfl) (by kernel_rfl) (by kernel_rfl) (fun r465 => ?_)
                refine OW.nil ?_
                refine OJ.run [4] [] [4, 11, 16, 17, 18, 118] (m2 := [(4, Sl.v a4), (11, .pointer r1.1), (16, Sl.v s10), (17, Sl.v s11), (18, .int .i64 s12), (118, .bool (r465 != 0))]) (by kernel_rfl) (by kernel_rfl) ?_
                refine OJ.nil ?_
                refine SJ.cond (t := (.tmp 118)) (b := (r465 != 0)) (by kernel_rfl) (by kernel_rfl) bne_iff_ne (fun hc467 => ?_) (fun hc467 => ?_)
                · refine SJ.seq (by kernel_rfl) ?_
                  refine SJ.region (id := 24) (by kernel_rfl) [0] (by kernel_rfl) ?_
                  refine OJ.run [0] [] [10] (m2 := [(10, .bool false)]) (by kernel_rfl) (by kernel_rfl) ?_
                  refine OJ.nil ?_
                  exact SJ.ret (by kernel_rfl) rfl (Res.run (ys := [.bool false]) (.tmp (by kernel_rfl) .nil) rfl)
                · refine SJ.skip (by kernel_rfl) ?_
                  refine SJ.region (id := 25) (by kernel_rfl) [0, 1, 2] (by kernel_rfl) ?_
                  refine OJ.run [0] [1, 2] [4, 11, 16, 17, 18, 119] (m2 := [(4, Sl.v a4), (11, .pointer r1.1), (16, Sl.v s10), (17, Sl.v s11), (18, .int .i64 s12), (119, Sl.v s10)]) (by kernel_rfl) (by kernel_rfl) ?_
                  refine OJ.cut (d := 120) (t := 43) (E := 22) (y := .tmp 119) (lo := (some (.const (.int .i64 1)))) (hi := none) (mx := none) (lo' := some (.i64, 1)) (hi' := none) (mx' := none) (by kernel_rfl) (by kernel_rfl) (by kernel_rfl) (by kernel_rfl) (by kernel_rfl) (by kernel_rfl) (by kernel_rfl) (fun h => by cases h) (by kernel_rfl) (by kernel_rfl) (by kernel_rfl) (fun r466 => ?_)
                  refine OJ.run [2] [] [4, 11, 16, 17, 18] (m2 := [(4, Sl.v a4), (11, .pointer r1.1), (16, Sl.v r466), (17, Sl.v s11), (18, .int .i64 s12)]) (by kernel_rfl) (by kernel_rfl) ?_
                  refine OJ.nil ?_
                  refine SJ.forget (List.Sublist.cons _ List.Sublist.slnil) ?_
                  refine SJ.less [4, 11, 16, 17, 18] (m' := [(4, Sl.v a4), (11, .pointer r1.1), (16, Sl.v r466), (17, Sl.v s11), (18, .int .i64 s12)]) (by kernel_rfl) ?_
                  exact weirlaw3_RingFifo.K2_ok a4 r1 s12 r466 s11
      · refine SJ.seq (by kernel_rfl) ?_
        refine SJ.region (id := 26) (by kernel_rfl) [0, 1] (by kernel_rfl) ?_
        refine OJ.run [0, 1] [] [4, 11, 16, 17, 18, 19, 66, 121] (m2 := [(4, Sl.v a4), (11, .pointer r1.1), (16, Sl.v s10), (17, Sl.v s11), (18, .int .i64 s12), (19, .pointer (some (pt b267 0))), (66, .int .i64 x266.Kind), (121, .bool (x266.Kind == 8))]) (by kernel_rfl) (by kernel_rfl) ?_
        refine OJ.nil ?_
        refine SJ.cond (t := (.tmp 121)) (b := (x266.Kind == 8)) (by kernel_rfl) (by kernel_rfl) beq_iff_eq (fun hc498 => ?_) (fun hc498 => ?_)
        · refine SJ.seq (by kernel_rfl) ?_
          refine SJ.region (id := 27) (by kernel_rfl) [0, 1, 2, 3, 4, 5, 6] (by kernel_rfl) ?_
          refine OJ.run [0] [1, 2, 3, 4, 5, 6] [4, 11, 16, 17, 18, 124] (m2 := [(4, Sl.v a4), (11, .pointer r1.1), (16, Sl.v s10), (17, Sl.v s11), (18, .int .i64 s12), (124, .pointer r1.1)]) (by kernel_rfl) (by kernel_rfl) ?_
          refine OJ.call (d := 125) (g := 22) (ats := #[23]) (args := [.tmp 124]) (vals := [.pointer r1.1]) (owed := []) (by kernel_rfl) F22 (by kernel_rfl) (ring_Port_Drain_ok r1.1) (by kernel_rfl) (by kernel_rfl) (by kernel_rfl) (fun r485 => ?_)
          refine OW.nil ?_
          refine OJ.run [2, 3, 4, 5, 6] [] [4, 11, 16, 17, 18, 23, 24] (m2 := [(4, Sl.v a4), (11, .pointer r1.1), (16, Sl.v s10), (17, Sl.v s11), (18, .int .i64 s12), (23, Sl.v r485.1), (24, .bool r485.2)]) (by kernel_rfl) (by kernel_rfl) ?_
          refine OJ.nil ?_
          refine SJ.seq (by kernel_rfl) ?_
          refine SJ.seq (by kernel_rfl) ?_
          refine SJ.region (id := 28) (by kernel_rfl) [0, 1, 2, 3, 4, 5, 6, 7, 8, 9, 10, 11, 12, 13, 14, 15] (by kernel_rfl) ?_
          refine OJ.run [0, 1, 2, 3, 4, 5] [6, 7, 8, 9, 10, 11, 12, 13, 14, 15] [4, 11, 16, 17, 18, 23, 24, 133] (m2 := [(4, Sl.v a4), (11, .pointer r1.1), (16, Sl.v s10), (17, Sl.v s11), (18, .int .i64 s12), (23, Sl.v r485.1), (24, .bool r485.2), (133, .bool (!(r485.2 == (decide ((s11.len : Int) > 0)))))]) (by kernel_rfl) (by kernel_rfl) ?_
          refine OJ.join (b := (!(r485.2 == (decide ((s11.len : Int) > 0))))) [6, 7, 8, 9, 10, 11, 12, 13, 14, 15] [] [4, 11, 16, 17, 18, 24, 143] (fun y490 => [(4, Sl.v a4), (11, .pointer r1.1), (16, Sl.v s10), (17, Sl.v s11), (18, .int .i64 s12), (24, .bool r485.2), (143, .bool y490)]) [] [] (by kernel_rfl) (t := 133) (by kernel_rfl) (bnot_iff beq_iff_eq) (fun hp_ => ?_) (fun hp_ => ?_) (by kernel_rfl) (fun _ _ _ _ _ _ h_ => h_) (fun y490 => ?_)
          · refine OJ.run [6, 7, 8, 9, 10, 11, 12, 13, 14, 15] [] [4, 11, 16, 17, 18, 24, 143] (m2 := [(4, Sl.v a4), (11, .pointer r1.1), (16, Sl.v s10), (17, Sl.v s11), (18, .int .i64 s12), (24, .bool r485.2), (143, .bool true)]) (by kernel_rfl) (by kernel_rfl) ?_
            exact OJ.nil ⟨(Cov.mem Cov.nil), rfl, _, rfl, by kernel_rfl⟩
          · refine OJ.run [6, 7] [8, 9, 10, 11, 12, 13, 14, 15] [4, 11, 16, 17, 18, 23, 24, 133, 135] (m2 := [(4, Sl.v a4), (11, .pointer r1.1), (16, Sl.v s10), (17, Sl.v s11), (18, .int .i64 s12), (23, Sl.v r485.1), (24, .bool r485.2), (133, .bool false), (135, .bool r485.2)]) (by kernel_rfl) (by kernel_rfl) ?_
            refine OJ.join (b := r485.2) [8, 9, 10, 11, 12, 13, 14] [15] [4, 11, 16, 17, 18, 24, 133, 142] (fun y489 => [(4, Sl.v a4), (11, .pointer r1.1), (16, Sl.v s10), (17, Sl.v s11), (18, .int .i64 s12), (24, .bool r485.2), (133, .bool false), (142, .bool y489)]) [] [] (by kernel_rfl) (t := 135) (by kernel_rfl) Iff.rfl (fun hp_ => ?_) (fun hp_ => ?_) (by kernel_rfl) (fun _ _ _ _ _ hq_ h_ => ⟨fun e_ he_ => (hq_ e_ he_).elim (fun h => h_.1 e_ h) (fun h => nomatch h), h_.2⟩) (fun y489 => ?_)
            · refine OJ.run [8, 9] [10, 11, 12, 13, 14] [4, 11, 16, 17, 18, 24, 133, 135, 136, 137] (m2 := [(4, Sl.v a4), (11, .pointer r1.1), (16, Sl.v s10), (17, Sl.v s11), (18, .int .i64 s12), (24, .bool r485.2), (133, .bool false), (135, .bool true), (136, Sl.v r485.1), (137, Sl.v s11)]) (by kernel_rfl) (by kernel_rfl) ?_
              refine OJ.idxS (d := 138) (T := 43) (y := .tmp 137) (j := .const (.int .i64 0)) (E := 22) (cap := s11.cap) (k := .i64) (by kernel_rfl) (by kernel_rfl) (by kernel_rfl) (by kernel_rfl) (by kernel_rfl) (by kernel_rfl) (by kernel_rfl) (by kernel_rfl) (fun p486 => ?_)
              refine OJ.ld (d := 139) (T := 22) (y := .tmp 138) (pend2 := fun x487 => []) (by kernel_rfl) (by kernel_rfl) Ty22 (by kernel_rfl) (by kernel_rfl) (fun _ => rfl) (fun x487 => ?_)
              refine OJ.call (d := 140) (g := 19) (ats := #[22, 22]) (args := [.tmp 136, .tmp 139]) (vals := [Sl.v r485.1, Sl.v x487]) (owed := []) (by kernel_rfl) F19 (by kernel_rfl) (weirlaw3_alike_ok r485.1 x487) (by kernel_rfl) (by kernel_rfl) (by kernel_rfl) (fun r488 => ?_)
              refine OW.nil ?_
              refine OJ.run [13, 14] [] [4, 11, 16, 17, 18, 24, 133, 142] (m2 := [(4, Sl.v a4), (11, .pointer r1.1), (16, Sl.v s10), (17, Sl.v s11), (18, .int .i64 s12), (24, .bool r485.2), (133, .bool false), (142, .bool (!r488))]) (by kernel_rfl) (by kernel_rfl) ?_
              exact OJ.nil ⟨(Cov.mem Cov.nil), rfl, _, rfl, by kernel_rfl⟩
            · refine OJ.run [8, 9, 10, 11, 12, 13, 14] [] [4, 11, 16, 17, 18, 24, 133, 142] (m2 := [(4, Sl.v a4), (11, .pointer r1.1), (16, Sl.v s10), (17, Sl.v s11), (18, .int .i64 s12), (24, .bool r485.2), (133, .bool false), (142, .bool false)]) (by kernel_rfl) (by kernel_rfl) ?_
              exact OJ.nil ⟨(Cov.mem Cov.nil), rfl, _, rfl, by kernel_rfl⟩
            · refine OJ.run [15] [] [4, 11, 16, 17, 18, 24, 143] (m2 := [(4, Sl.v a4), (11, .pointer r1.1), (16, Sl.v s10), (17, Sl.v s11), (18, .int .i64 s12), (24, .bool r485.2), (143, .bool y489)]) (by kernel_rfl) (by kernel_rfl) ?_
              exact OJ.nil ⟨(Cov.mem Cov.nil), rfl, _, rfl, by kernel_rfl⟩
          · refine OJ.nil ?_
            refine SJ.cond (t := (.tmp 143)) (b := y490) (by kernel_rfl) (by kernel_rfl) Iff.rfl (fun hc494 => ?_) (fun hc494 => ?_)
            · refine SJ.seq (by kernel_rfl) ?_
              refine SJ.region (id := 29) (by kernel_rfl) [0] (by kernel_rfl) ?_
              refine OJ.run [0] [] [10] (m2 := [(10, .bool false)]) (by kernel_rfl) (by kernel_rfl) ?_
              refine OJ.nil ?_
              exact SJ.ret (by kernel_rfl) rfl (Res.run (ys := [.bool false]) (.tmp (by kernel_rfl) .nil) rfl)
            · refine SJ.skip (by kernel_rfl) ?_
              refine SJ.seq (by kernel_rfl) ?_
              refine SJ.region (id := 30) (by kernel_rfl) [0] (by kernel_rfl) ?_
              refine OJ.run [0] [] [4, 11, 16, 17, 18, 144] (m2 := [(4, Sl.v a4), (11, .pointer r1.1), (16, Sl.v s10), (17, Sl.v s11), (18, .int .i64 s12), (144, .bool r485.2)]) (by kernel_rfl) (by kernel_rfl) ?_
              refine OJ.nil ?_
              refine SJ.cond (t := (.tmp 144)) (b := r485.2) (by kernel_rfl) (by kernel_rfl) Iff.rfl (fun hc493 => ?_) (fun hc493 => ?_)
              · refine SJ.region (id := 31) (by kernel_rfl) [0, 1, 2] (by kernel_rfl) ?_
                refine OJ.run [0] [1, 2] [4, 11, 16, 17, 18, 145] (m2 := [(4, Sl.v a4), (11, .pointer r1.1), (16, Sl.v s10), (17, Sl.v s11), (18, .int .i64 s12), (145, Sl.v s11)]) (by kernel_rfl) (by kernel_rfl) ?_
                refine OJ.cut (d := 146) (t := 43) (E := 22) (y := .tmp 145) (lo := (some (.const (.int .i64 1)))) (hi := none) (mx := none) (lo' := some (.i64, 1)) (hi' := none) (mx' := none) (by kernel_rfl) (by kernel_rfl) (by kernel_rfl) (by kernel_rfl) (by kernel_rfl) (by kernel_rfl) (by kernel_rfl) (fun h => by cases h) (by kernel_rfl) (by kernel_rfl) (by kernel_rfl) (fun r492 => ?_)
                refine OJ.run [2] [] [4, 11, 16, 17, 18] (m2 := [(4, Sl.v a4), (11, .pointer r1.1), (16, Sl.v s10), (17, Sl.v r492), (18, .int .i64 s12)]) (by kernel_rfl) (by kernel_rfl) ?_
                refine OJ.nil ?_
                refine SJ.forget (List.Sublist.cons _ List.Sublist.slnil) ?_
                refine SJ.less [4, 11, 16, 17, 18] (m' := [(4, Sl.v a4), (11, .pointer r1.1), (16, Sl.v s10), (17, Sl.v r492), (18, .int .i64 s12)]) (by kernel_rfl) ?_
                exact weirlaw3_RingFifo.K2_ok a4 r1 s12 s10 r492
              · refine SJ.skip (by kernel_rfl) ?_
                refine SJ.forget (List.Sublist.cons _ List.Sublist.slnil) ?_
                refine SJ.less [4, 11, 16, 17, 18] (m' := [(4, Sl.v a4), (11, .pointer r1.1), (16, Sl.v s10), (17, Sl.v s11), (18, .int .i64 s12)]) (by kernel_rfl) ?_
                exact weirlaw3_RingFifo.K2_ok a4 r1 s12 s10 s11
        · refine SJ.seq (by kernel_rfl) ?_
          refine SJ.region (id := 32) (by kernel_rfl) [0, 1] (by kernel_rfl) ?_
          refine OJ.run [0, 1] [] [4, 11, 16, 17, 18, 19, 147] (m2 := [(4, Sl.v a4), (11, .pointer r1.1), (16, Sl.v s10), (17, Sl.v s11), (18, .int .i64 s12), (19, .pointer (some (pt b267 0))), (147, .bool (x266.Kind == 1))]) (by kernel_rfl) (by kernel_rfl) ?_
          refine OJ.nil ?_
          refine SJ.cond (t := (.tmp 147)) (b := (x266.Kind == 1)) (by kernel_rfl) (by kernel_rfl) beq_iff_eq (fun hc497 => ?_) (fun hc497 => ?_)
          · refine SJ.region (id := 33) (by kernel_rfl) [0, 1, 2, 3] (by kernel_rfl) ?_
            refine OJ.run [0, 1] [2, 3] [4, 11, 16, 17, 18, 149, 150] (m2 := [(4, Sl.v a4), (11, .pointer r1.1), (16, Sl.v s10), (17, Sl.v s11), (18, .int .i64 s12), (149, .pointer r1.1), (150, .pointer (some (pt b267 3)))]) (by kernel_rfl) (by kernel_rfl) ?_
            refine OJ.kld (d := 151) (T := 3) (y := .tmp 150) (cd := (cI .i64)) (j := 0) (b := b267) (o := 3) x266.N (pend2 := []) (by kernel_rfl) (by kernel_rfl) Ty3 (by kernel_rfl) rfl (At_weirlaw3_Op_N x266) (by kernel_rfl) rfl ?_
            refine OJ.call (d := 152) (g := 15) (ats := #[23, 3]) (args := [.tmp 149, .tmp 151]) (vals := [.pointer r1.1, .int .i64 x266.N]) (owed := []) (by kernel_rfl) F15 (by kernel_rfl) (ring_Port_Refill_ok r1.1 x266.N) (by kernel_rfl) (by kernel_rfl) (by kernel_rfl) (fun r496 => ?_)
            refine OW.nil ?_
            refine OJ.nil ?_
            refine SJ.forget (List.Sublist.cons _ List.Sublist.slnil) ?_
            refine SJ.less [4, 11, 16, 17, 18] (m' := [(4, Sl.v a4), (11, .pointer r1.1), (16, Sl.v s10), (17, Sl.v s11), (18, .int .i64 s12)]) (by kernel_rfl) ?_
            exact weirlaw3_RingFifo.K2_ok a4 r1 s12 s10 s11
          · refine SJ.skip (by kernel_rfl) ?_
            refine SJ.forget (List.Sublist.cons _ List.Sublist.slnil) ?_
            refine SJ.less [4, 11, 16, 17, 18] (m' := [(4, Sl.v a4), (11, .pointer r1.1), (16, Sl.v s10), (17, Sl.v s11), (18, .int .i64 s12)]) (by kernel_rfl) ?_
            exact weirlaw3_RingFifo.K2_ok a4 r1 s12 s10 s11
  · refine SJ.exit (id := 0) (by kernel_rfl) (by rfl) ?_
    refine SJ.less [11, 17] (m' := [(11, .pointer r1.1), (17, Sl.v s11)]) (by kernel_rfl) ?_
    refine SJ.done ?_
    exact weirlaw3_RingFifo.K1_ok r1 s11
noncomputable def weirlaw3_RingFifo (a0 : Int) (a1 : Int) (a2 : Int) (a3 : Int) (a4 : Sl) : M Bool :=
  weirlaw3_port a0 a1 a2 a3 >>= fun r1 =>
  (if r1.1 = none then
      pure true
    else
      ring_Port_Refill r1.1 1 >>= fun r2 =>
      pure (r2 != 1)) >>= fun y3 =>
  (if y3 = true then
      pure true
    else
      newv 5 ((cI .u8).arr 2) (⟨[5, 6], rfl⟩ : Vec Int 2) >>= fun b4 =>
      ring_Port_Arrive r1.1 (⟨some (pt b4 0), 2, 2⟩ : Sl) >>= fun r5 =>
      weirlaw3_num r5 >>= fun r6 =>
      pure (r6 != 0)) >>= fun y7 =>
  if y7 = true then
    pure false
  else
    newv 5 ((cI .u8).arr 2) (⟨[5, 6], rfl⟩ : Vec Int 2) >>= fun b8 =>
    newv 22 (cL.arr 1) (⟨[(⟨some (pt b8 0), 2, 2⟩ : Sl)], rfl⟩ : Vec Sl 1) >>= fun b9 =>
    loopM (fun s_ : (Sl × Sl × Int) => weirlaw3_RingFifo.L2 a4 r1 s_.1 s_.2.1 s_.2.2) ((⟨some (pt b9 0), 1, 1⟩ : Sl), Sl.nil, 0)
theorem weirlaw3_RingFifo_ok (a0 : Int) (a1 : Int) (a2 : Int) (a3 : Int) (a4 : Sl) : Ref Try.prog 4 [.int .i64 a0, .int .i64 a1, .int .i64 a2, .int .i64 a3, Sl.v a4] (weirlaw3_RingFifo a0 a1 a2 a3 a4) weirlaw3_RingFifo.out := by
  refine Ref.of (cd := weirlaw3_RingFifo.B) Try.func4 (by kernel_rfl) (by kernel_rfl) ?_
  show SJ weirlaw3_RingFifo.cx [.code weirlaw3_RingFifo.B] [(0, .int .i64 a0), (1, .int .i64 a1), (2, .int .i64 a2), (3, .int .i64 a3), (4, Sl.v a4)] [] (weirlaw3_RingFifo a0 a1 a2 a3 a4) weirlaw3_RingFifo.F0
  unfold weirlaw3_RingFifo
  refine SJ.seq (by kernel_rfl) ?_
  refine SJ.region (id := 0) (by kernel_rfl) [0] (by kernel_rfl) ?_
  refine OJ.run [0] [] [0, 1, 2, 3, 4] (m2 := [(0, .int .i64 a0), (1, .int .i64 a1), (2, .int .i64 a2), (3, .int .i64 a3), (4, Sl.v a4)]) (by kernel_rfl) (by kernel_rfl) ?_
  refine OJ.nil ?_
  refine SJ.seq (by kernel_rfl) ?_
  refine SJ.region (id := 1) (by kernel_rfl) [0, 1, 2, 3, 4, 5, 6, 7, 8, 9, 10, 11, 12, 13, 14, 15] (by kernel_rfl) ?_
  refine OJ.run [0, 1, 2, 3] [4, 5, 6, 7, 8, 9, 10, 11, 12, 13, 14, 15] [4, 29, 30, 31, 32] (m2 := [(4, Sl.v a4), (29, .int .i64 a0), (30, .int .i64 a1), (31, .int .i64 a2), (32, .int .i64 a3)]) (by kernel_rfl) (by kernel_rfl) ?_
  refine OJ.call (d := 33) (g := 23) (ats := #[3, 3, 3, 3]) (args := [.tmp 29, .tmp 30, .tmp 31, .tmp 32]) (vals := [.int .i64 a0, .int .i64 a1, .int .i64 a2, .int .i64 a3]) (owed := []) (by kernel_rfl) F23 (by kernel_rfl) (weirlaw3_port_ok a0 a1 a2 a3) (by kernel_rfl) (by kernel_rfl) (by kernel_rfl) (fun r1 => ?_)
  refine OW.nil ?_
  refine OJ.run [5, 6, 7, 8, 9, 10, 11, 12, 13, 14, 15] [] [4, 11] (m2 := [(4, Sl.v a4), (11, .pointer r1.1)]) (by kernel_rfl) (by kernel_rfl) ?_
  refine OJ.nil ?_
  refine SJ.seq (by kernel_rfl) ?_
  refine SJ.seq (by kernel_rfl) ?_
  refine SJ.region (id := 2) (by kernel_rfl) [0, 1, 2, 3, 4, 5, 6, 7, 8, 9, 10, 11, 12, 13] (by kernel_rfl) ?_
  refine OJ.run [0, 1, 2] [3, 4, 5, 6, 7, 8, 9, 10, 11, 12, 13] [4, 11, 41] (m2 := [(4, Sl.v a4), (11, .pointer r1.1), (41, .bool (Option.isNone r1.1))]) (by kernel_rfl) (by kernel_rfl) ?_
  refine OJ.join (b := (Option.isNone r1.1)) [3, 4, 5, 6] [7, 8, 9, 10, 11, 12, 13] [4, 11, 45] (fun y3 => [(4, Sl.v a4), (11, .pointer r1.1), (45, .bool y3)]) [] [] (by kernel_rfl) (t := 41) (by kernel_rfl) Option.isNone_iff_eq_none (fun hp_ => ?_) (fun hp_ => ?_) (by kernel_rfl) (fun _ _ _ _ _ _ h_ => h_) (fun y3 => ?_)
  · refine OJ.run [3, 4, 5, 6] [] [4, 11, 45] (m2 := [(4, Sl.v a4), (11, .pointer r1.1), (45, .bool true)]) (by kernel_rfl) (by kernel_rfl) ?_
    exact OJ.nil ⟨(Cov.mem Cov.nil), rfl, _, rfl, by kernel_rfl⟩
  · refine OJ.run [3] [4, 5, 6] [4, 11, 41, 42] (m2 := [(4, Sl.v a4), (11, .pointer r1.1), (41, .bool false), (42, .pointer r1.1)]) (by kernel_rfl) (by kernel_rfl) ?_
    refine OJ.call (d := 43) (g := 15) (ats := #[23, 3]) (args := [.tmp 42, .const (.int .i64 1)]) (vals := [.pointer r1.1, .int .i64 1]) (owed := []) (by kernel_rfl) F15 (by kernel_rfl) (ring_Port_Refill_ok r1.1 1) (by kernel_rfl) (by kernel_rfl) (by kernel_rfl) (fun r2 => ?_)
    refine OW.nil ?_
    refine OJ.run [5, 6] [] [4, 11, 45] (m2 := [(4, Sl.v a4), (11, .pointer r1.1), (45, .bool (r2 != 1))]) (by kernel_rfl) (by kernel_rfl) ?_
    exact OJ.nil ⟨(Cov.mem Cov.nil), rfl, _, rfl, by kernel_rfl⟩
  · refine OJ.run [7] [8, 9, 10, 11, 12, 13] [4, 11, 46] (m2 := [(4, Sl.v a4), (11, .pointer r1.1), (46, .bool y3)]) (by kernel_rfl) (by kernel_rfl) ?_
    refine OJ.join (b := y3) [8, 9, 10, 11, 12, 13] [] [4, 11, 52] (fun y7 => [(4, Sl.v a4), (11, .pointer r1.1), (52, .bool y7)]) [] [] (by kernel_rfl) (t := 46) (by kernel_rfl) Iff.rfl (fun hp_ => ?_) (fun hp_ => ?_) (by kernel_rfl) (fun _ _ _ _ _ _ h_ => h_) (fun y7 => ?_)
    · refine OJ.run [8, 9, 10, 11, 12, 13] [] [4, 11, 52] (m2 := [(4, Sl.v a4), (11, .pointer r1.1), (52, .bool true)]) (by kernel_rfl) (by kernel_rfl) ?_
      exact OJ.nil ⟨(Cov.mem Cov.nil), rfl, _, rfl, by kernel_rfl⟩
    · refine OJ.run [8] [9, 10, 11, 12, 13] [4, 11, 46, 47] (m2 := [(4, Sl.v a4), (11, .pointer r1.1), (46, .bool false), (47, .pointer r1.1)]) (by kernel_rfl) (by kernel_rfl) ?_
      refine OJ.rowNew (d := 48) (t := 22) (parts := [(0, .const (.int .u8 5)), (1, .const (.int .u8 6))]) (ps := [(0, (cI .u8).val 5), (1, (cI .u8).val 6)]) (cd := (cI .u8)) (owed := []) (by kernel_rfl) (by kernel_rfl) (by kernel_rfl) Ty5 (by kernel_rfl) (Filled.cons (cd := (cI .u8)) (q := 5) (o := 0) rfl (Upd.arr (i := 0) (by decide) (by decide)) (Filled.cons (cd := (cI .u8)) (q := 6) (o := 1) rfl (Upd.arr (i := 1) (by decide) (by decide)) Filled.nil)) (by kernel_rfl) (by kernel_rfl) (by kernel_rfl) (fun b4 => ?_)
      refine OW.nil ?_
      refine OJ.call (d := 49) (g := 16) (ats := #[23, 22]) (args := [.tmp 47, .tmp 48]) (vals := [.pointer r1.1, Sl.v (⟨some (pt b4 0), 2, 2⟩ : Sl)]) (owed := []) (by kernel_rfl) F16 (by kernel_rfl) (ring_Port_Arrive_ok r1.1 (⟨some (pt b4 0), 2, 2⟩ : Sl)) (by kernel_rfl) (by kernel_rfl) (by kernel_rfl) (fun r5 => ?_)
      refine OW.nil ?_
      refine OJ.call (d := 50) (g := 14) (ats := #[24]) (args := [.tmp 49]) (vals := [.int .i64 r5]) (owed := []) (by kernel_rfl) F14 (by kernel_rfl) (weirlaw3_num_ok r5) (by kernel_rfl) (by kernel_rfl) (by kernel_rfl) (fun r6 => ?_)
      refine OW.nil ?_
      refine OJ.run [12, 13] [] [4, 11, 52] (m2 := [(4, Sl.v a4), (11, .pointer r1.1), (52, .bool (r6 != 0))]) (by kernel_rfl) (by kernel_rfl) ?_
      exact OJ.nil ⟨(Cov.mem Cov.nil), rfl, _, rfl, by kernel_rfl⟩
    · refine OJ.nil ?_
      refine SJ.cond (t := (.tmp 52)) (b := y7) (by kernel_rfl) (by kernel_rfl) Iff.rfl (fun hc502 => ?_) (fun hc502 => ?_)
      · refine SJ.seq (by kernel_rfl) ?_
        refine SJ.region (id := 3) (by kernel_rfl) [0] (by kernel_rfl) ?_
        refine OJ.run [0] [] [10] (m2 := [(10, .bool false)]) (by kernel_rfl) (by kernel_rfl) ?_
        refine OJ.nil ?_
        exact SJ.ret (by kernel_rfl) rfl (Res.run (ys := [.bool false]) (.tmp (by kernel_rfl) .nil) rfl)
      · refine SJ.skip (by kernel_rfl) ?_
        refine SJ.seq (by kernel_rfl) ?_
        refine SJ.region (id := 4) (by kernel_rfl) [0, 1, 2] (by kernel_rfl) ?_
        refine OJ.rowNew (d := 53) (t := 22) (parts := [(0, .const (.int .u8 5)), (1, .const (.int .u8 6))]) (ps := [(0, (cI .u8).val 5), (1, (cI .u8).val 6)]) (cd := (cI .u8)) (owed := []) (by kernel_rfl) (by kernel_rfl) (by kernel_rfl) Ty5 (by kernel_rfl) (Filled.cons (cd := (cI .u8)) (q := 5) (o := 0) rfl (Upd.arr (i := 0) (by decide) (by decide)) (Filled.cons (cd := (cI .u8)) (q := 6) (o := 1) rfl (Upd.arr (i := 1) (by decide) (by decide)) Filled.nil)) (by kernel_rfl) (by kernel_rfl) (by kernel_rfl) (fun b8 => ?_)
        refine OW.nil ?_
        refine OJ.rowNew (d := 54) (t := 43) (parts := [(0, .tmp 53)]) (ps := [(0, cL.val (⟨some (pt b8 0), 2, 2⟩ : Sl))]) (cd := cL) (owed := []) (by kernel_rfl) (by kernel_rfl) (by kernel_rfl) Ty22 (by kernel_rfl) (Filled.cons (cd := cL) (q := (⟨some (pt b8 0), 2, 2⟩ : Sl)) (o := 0) rfl (Upd.arr (i := 0) (by decide) (by decide)) Filled.nil) (by kernel_rfl) (by kernel_rfl) (by kernel_rfl) (fun b9 => ?_)
        refine OW.nil ?_
        refine OJ.run [2] [] [4, 11, 16] (m2 := [(4, Sl.v a4), (11, .pointer r1.1), (16, Sl.v (⟨some (pt b9 0), 1, 1⟩ : Sl))]) (by kernel_rfl) (by kernel_rfl) ?_
        refine OJ.nil ?_
        refine SJ.seq (by kernel_rfl) ?_
        refine SJ.region (id := 5) (by kernel_rfl) [0] (by kernel_rfl) ?_
        refine OJ.run [0] [] [4, 11, 16, 17] (m2 := [(4, Sl.v a4), (11, .pointer r1.1), (16, Sl.v (⟨some (pt b9 0), 1, 1⟩ : Sl)), (17, Sl.v Sl.nil)]) (by kernel_rfl) (by kernel_rfl) ?_
        refine OJ.nil ?_
        refine SJ.seq (by kernel_rfl) ?_
        refine SJ.seq (by kernel_rfl) ?_
        refine SJ.region (id := 6) (by kernel_rfl) [0] (by kernel_rfl) ?_
        refine OJ.run [0] [] [4, 11, 16, 17, 18] (m2 := [(4, Sl.v a4), (11, .pointer r1.1), (16, Sl.v (⟨some (pt b9 0), 1, 1⟩ : Sl)), (17, Sl.v Sl.nil), (18, .int .i64 0)]) (by kernel_rfl) (by kernel_rfl) ?_
        refine OJ.nil ?_
        refine SJ.block (id := 0) (by kernel_rfl) ?_
        exact SJ.loop (fun s_ : (Sl × Sl × Int) => [(4, Sl.v a4), (11, .pointer r1.1), (16, Sl.v s_.1), (17, Sl.v s_.2.1), (18, .int .i64 s_.2.2)]) (fun s_ : (Sl × Sl × Int) => []) [4, 11, 16, 17, 18] (by kernel_rfl) (by kernel_rfl) rfl (fun _ _ => rfl) (fun s_ => weirlaw3_RingFifo.L2_ok a4 r1 s_.1 s_.2.1 s_.2.2)
end Go.Proofs.Ytoddkagehbcfjaa.Lx
