/- Programs of the M-world for Go functions, each with the proof that the Go text does what it says. Printed by lxgen.py. -/
import Derived.Test.YtgddbpmfendaeaaLxT
import Derived.Test.YtgddbpmfendaeaaLxP0
import Derived.Test.YtgddbpmfendaeaaLxP1
import Derived.Test.YtgddbpmfendaeaaLxP2
import Derived.Test.YtgddbpmfendaeaaLxP3
import Derived.Test.YtgddbpmfendaeaaLxP4
set_option linter.unusedVariables false
set_option linter.unusedSimpArgs false
namespace Go.Proofs.Ytgddbpmfendaeaa.Lx
open Go Go.Proofs
/-! ### weir/weirlaw18.QueueEven: function 5 -/
noncomputable def weirlaw18_QueueEven.B : Code := (Try.f5.body).getD .skip
noncomputable def weirlaw18_QueueEven.cx : Fx := ⟨Try.prog, 5, Try.f5⟩
noncomputable def weirlaw18_QueueEven.out (r_ : Bool) : Value := .bool r_
noncomputable def weirlaw18_QueueEven.F0 (r_ : Bool) : Reach := .ret (weirlaw18_QueueEven.out r_)
noncomputable def weirlaw18_QueueEven.F1 (a1 : Sl) (a2 : Int) (r1 : ((Option Addr) × Sl)) (r2 : (Option Addr)) (r3 : (Option Addr)) (r8 : Sl) : (LS Int Bool) → Reach := loopF [.inLoop (c1 (c1 (c2 (c1 (c2 (c2 (c2 (c2 (c2 (c2 (c2 (c2 (c2 weirlaw18_QueueEven.B))))))))))))), .inBlock 0, .code (c2 (c2 (c2 (c2 (c2 (c2 (c2 (c2 (c2 (c2 weirlaw18_QueueEven.B))))))))))] (fun s_ : Int => [(0, Sl.v r1.2), (1, Sl.v a1), (2, .int .i64 a2), (7, .pointer r1.1), (8, .pointer r2), (9, .pointer r3), (11, Sl.v r8), (12, .int .i64 s_)]) (fun s_ : Int => []) weirlaw18_QueueEven.F0
noncomputable def weirlaw18_QueueEven.F2 (a1 : Sl) (a2 : Int) (r1 : ((Option Addr) × Sl)) (r2 : (Option Addr)) (r3 : (Option Addr)) (r8 : Sl) (s9 : Int) : (LS Int (LS Int Bool)) → Reach := loopF [.inLoop (c1 (c1 (c2 (c1 (c1 (c2 (c1 (c1 (c2 (c1 (c2 (c2 (c2 (c2 (c2 (c2 (c2 (c2 (c2 weirlaw18_QueueEven.B))))))))))))))))))), .inBlock 2, .inBlock 1, .code (c2 (c2 (c1 (c1 (c2 (c1 (c2 (c2 (c2 (c2 (c2 (c2 (c2 (c2 (c2 weirlaw18_QueueEven.B))))))))))))))), .inLoop (c1 (c1 (c2 (c1 (c2 (c2 (c2 (c2 (c2 (c2 (c2 (c2 (c2 weirlaw18_QueueEven.B))))))))))))), .inBlock 0, .code (c2 (c2 (c2 (c2 (c2 (c2 (c2 (c2 (c2 (c2 weirlaw18_QueueEven.B))))))))))] (fun s_ : Int => [(0, Sl.v r1.2), (1, Sl.v a1), (2, .int .i64 a2), (7, .pointer r1.1), (8, .pointer r2), (9, .pointer r3), (11, Sl.v r8), (12, .int .i64 s9), (13, .int .i64 s_)]) (fun s_ : Int => []) (weirlaw18_QueueEven.F1 a1 a2 r1 r2 r3 r8)
noncomputable def weirlaw18_QueueEven.K1 (s750 : Int) : M (LS Int (LS Int Bool)) :=
  pure (LS.next (IntKind.wrap .i64 (s750 + 1)))
theorem weirlaw18_QueueEven.K1_ok (a1 : Sl) (a2 : Int) (r1 : ((Option Addr) × Sl)) (r2 : (Option Addr)) (r3 : (Option Addr)) (r8 : Sl) (s9 : Int) (s750 : Int) :
    SJ weirlaw18_QueueEven.cx [.inBlock 4, .inBlock 3, .code (c2 (c2 (c1 (c1 (c2 (c1 (c1 (c2 (c1 (c1 (c2 (c1 (c2 (c2 (c2 (c2 (c2 (c2 (c2 (c2 (c2 weirlaw18_QueueEven.B))))))))))))))))))))), .inLoop (c1 (c1 (c2 (c1 (c1 (c2 (c1 (c1 (c2 (c1 (c2 (c2 (c2 (c2 (c2 (c2 (c2 (c2 (c2 weirlaw18_QueueEven.B))))))))))))))))))), .inBlock 2, .inBlock 1, .code (c2 (c2 (c1 (c1 (c2 (c1 (c2 (c2 (c2 (c2 (c2 (c2 (c2 (c2 (c2 weirlaw18_QueueEven.B))))))))))))))), .inLoop (c1 (c1 (c2 (c1 (c2 (c2 (c2 (c2 (c2 (c2 (c2 (c2 (c2 weirlaw18_QueueEven.B))))))))))))), .inBlock 0, .code (c2 (c2 (c2 (c2 (c2 (c2 (c2 (c2 (c2 (c2 weirlaw18_QueueEven.B))))))))))] [(0, Sl.v r1.2), (1, Sl.v a1), (2, .int .i64 a2), (7, .pointer r1.1), (8, .pointer r2), (9, .pointer r3), (11, Sl.v r8), (12, .int .i64 s9), (13, .int .i64 s750)] [] (weirlaw18_QueueEven.K1 s750) (weirlaw18_QueueEven.F2 a1 a2 r1 r2 r3 r8 s9) := by
  unfold weirlaw18_QueueEven.K1
  refine SJ.inBlock ?_
  refine SJ.inBlock ?_
  refine SJ.region (id := 17) (by kernel_rfl) [0, 1, 2] (by kernel_rfl) ?_
  refine OJ.run [0, 1, 2] [] [0, 1, 2, 7, 8, 9, 11, 12, 13] (m2 := [(0, Sl.v r1.2), (1, Sl.v a1), (2, .int .i64 a2), (7, .pointer r1.1), (8, .pointer r2), (9, .pointer r3), (11, Sl.v r8), (12, .int .i64 s9), (13, .int .i64 (IntKind.wrap .i64 (s750 + 1)))]) (by kernel_rfl) (by kernel_rfl) ?_
  refine OJ.nil ?_
  exact SJ.at_ [0, 1, 2, 7, 8, 9, 11, 12, 13] rfl (by kernel_rfl)
noncomputable def weirlaw18_QueueEven.K2 (r1 : ((Option Addr) × Sl)) (r2 : (Option Addr)) (r3 : (Option Addr)) (r8 : Sl) (s750 : Int) (r1442 : Sl) (r1443 : (Int × Int × Bool)) (j1449 : Int) : M (LS Int (LS Int Bool)) :=
  weirlaw18_Book_popped r2 r1443.1 r1443.2.1 >>= fun r1450 =>
  if ¬ (r1450 = true) then
    pure (LS.done (LS.done false))
  else
    nilck r2 >>= fun p1451 =>
    ld cL (Addr.add p1451 2) >>= fun x1452 =>
    idx x1452.a x1452.len r1443.2.1 1 >>= fun p1453 =>
    ld (cI .i64) p1453 >>= fun x1454 =>
    idx r1.2.a r1.2.len r1443.2.1 5 >>= fun p1455 =>
    ld (cI .i64) (Addr.add p1455 3) >>= fun x1456 =>
    if x1456 > 0 then
      draw >>= fun _ =>
      nilck r3 >>= fun p1464 =>
      ld cL p1464 >>= fun x1465 =>
      nilck r3 >>= fun p1466 =>
      ld cL p1466 >>= fun x1467 =>
      idx x1467.a x1467.len r1443.2.1 1 >>= fun p1468 =>
      ld (cI .i64) p1468 >>= fun x1469 =>
      idx x1465.a x1465.len r1443.2.1 1 >>= fun p1470 =>
      st (cI .i64) p1470 (IntKind.wrap .i64 (x1469 - (IntKind.wrap .i64 (x1454 - j1449)))) >>= fun _ =>
      weirlaw18_all r1.2 r2 r3 >>= fun r1471 =>
      weirlaw18_even r1.2 r8 r1442 r1471 r1443.2.1 (IntKind.wrap .i64 (x1454 - j1449)) >>= fun r1472 =>
      if ¬ (r1472 = true) then
        pure (LS.done (LS.done false))
      else
        weirlaw18_QueueEven.K1 s750
    else
      weirlaw18_all r1.2 r2 r3 >>= fun r1474 =>
      weirlaw18_even r1.2 r8 r1442 r1474 r1443.2.1 (IntKind.wrap .i64 (x1454 - j1449)) >>= fun r1475 =>
      if ¬ (r1475 = true) then
        pure (LS.done (LS.done false))
      else
        weirlaw18_QueueEven.K1 s750
theorem weirlaw18_QueueEven.K2_ok (a1 : Sl) (a2 : Int) (r1 : ((Option Addr) × Sl)) (r2 : (Option Addr)) (r3 : (Option Addr)) (r8 : Sl) (s9 : Int) (s750 : Int) (r1442 : Sl) (r1443 : (Int × Int × Bool)) (j1449 : Int) :
    SJ weirlaw18_QueueEven.cx [.code (c2 (c2 (c2 (c2 (c2 (c1 (c2 (c2 (c2 (c2 (c2 (c1 (c2 (c2 (c1 (c1 (c2 (c1 (c1 (c2 (c1 (c1 (c2 (c1 (c1 (c2 (c1 (c2 (c2 (c2 (c2 (c2 (c2 (c2 (c2 (c2 weirlaw18_QueueEven.B)))))))))))))))))))))))))))))))))))), .inBlock 4, .inBlock 3, .code (c2 (c2 (c1 (c1 (c2 (c1 (c1 (c2 (c1 (c1 (c2 (c1 (c2 (c2 (c2 (c2 (c2 (c2 (c2 (c2 (c2 weirlaw18_QueueEven.B))))))))))))))))))))), .inLoop (c1 (c1 (c2 (c1 (c1 (c2 (c1 (c1 (c2 (c1 (c2 (c2 (c2 (c2 (c2 (c2 (c2 (c2 (c2 weirlaw18_QueueEven.B))))))))))))))))))), .inBlock 2, .inBlock 1, .code (c2 (c2 (c1 (c1 (c2 (c1 (c2 (c2 (c2 (c2 (c2 (c2 (c2 (c2 (c2 weirlaw18_QueueEven.B))))))))))))))), .inLoop (c1 (c1 (c2 (c1 (c2 (c2 (c2 (c2 (c2 (c2 (c2 (c2 (c2 weirlaw18_QueueEven.B))))))))))))), .inBlock 0, .code (c2 (c2 (c2 (c2 (c2 (c2 (c2 (c2 (c2 (c2 weirlaw18_QueueEven.B))))))))))] [(0, Sl.v r1.2), (1, Sl.v a1), (2, .int .i64 a2), (7, .pointer r1.1), (8, .pointer r2), (9, .pointer r3), (11, Sl.v r8), (12, .int .i64 s9), (13, .int .i64 s750), (15, Sl.v r1442), (16, .int .i64 r1443.1), (17, .int .i64 r1443.2.1), (19, .int .i64 j1449)] [] (weirlaw18_QueueEven.K2 r1 r2 r3 r8 s750 r1442 r1443 j1449) (weirlaw18_QueueEven.F2 a1 a2 r1 r2 r3 r8 s9) := by
  unfold weirlaw18_QueueEven.K2
  refine SJ.seq (by kernel_rfl) ?_
  refine SJ.seq (by kernel_rfl) ?_
  refine SJ.region (id := 32) (by kernel_rfl) [0, 1, 2, 3, 4] (by kernel_rfl) ?_
  refine OJ.run [0, 1, 2] [3, 4] [0, 1, 2, 7, 8, 9, 11, 12, 13, 15, 17, 19, 121, 122, 123] (m2 := [(0, Sl.v r1.2), (1, Sl.v a1), (2, .int .i64 a2), (7, .pointer r1.1), (8, .pointer r2), (9, .pointer r3), (11, Sl.v r8), (12, .int .i64 s9), (13, .int .i64 s750), (15, Sl.v r1442), (17, .int .i64 r1443.2.1), (19, .int .i64 j1449), (121, .pointer r2), (122, .int .i64 r1443.1), (123, .int .i64 r1443.2.1)]) (by kernel_rfl) (by kernel_rfl) ?_
  refine OJ.call (d := 124) (g := 23) (ats := #[32, 3, 3]) (args := [.tmp 121, .tmp 122, .tmp 123]) (vals := [.pointer r2, .int .i64 r1443.1, .int .i64 r1443.2.1]) (owed := []) (by kernel_rfl) F23 (by kernel_rfl) (weirlaw18_Book_popped_ok r2 r1443.1 r1443.2.1) (by kernel_rfl) (by kernel_rfl) (by kernel_rfl) (fun r1450 => ?_)
  refine OW.nil ?_
  refine OJ.run [4] [] [0, 1, 2, 7, 8, 9, 11, 12, 13, 15, 17, 19, 125] (m2 := [(0, Sl.v r1.2), (1, Sl.v a1), (2, .int .i64 a2), (7, .pointer r1.1), (8, .pointer r2), (9, .pointer r3), (11, Sl.v r8), (12, .int .i64 s9), (13, .int .i64 s750), (15, Sl.v r1442), (17, .int .i64 r1443.2.1), (19, .int .i64 j1449), (125, .bool (!r1450))]) (by kernel_rfl) (by kernel_rfl) ?_
  refine OJ.nil ?_
  refine SJ.cond (t := (.tmp 125)) (b := (!r1450)) (by kernel_rfl) (by kernel_rfl) (bnot_iff Iff.rfl) (fun hc1478 => ?_) (fun hc1478 => ?_)
  · refine SJ.seq (by kernel_rfl) ?_
    refine SJ.region (id := 33) (by kernel_rfl) [0] (by kernel_rfl) ?_
    refine OJ.run [0] [] [6] (m2 := [(6, .bool false)]) (by kernel_rfl) (by kernel_rfl) ?_
    refine OJ.nil ?_
    exact SJ.ret (by kernel_rfl) rfl (Res.run (ys := [.bool false]) (.tmp (by kernel_rfl) .nil) rfl)
  · refine SJ.skip (by kernel_rfl) ?_
    refine SJ.seq (by kernel_rfl) ?_
    refine SJ.region (id := 34) (by kernel_rfl) [0, 1, 2, 3, 4, 5, 6, 7, 8, 9] (by kernel_rfl) ?_
    refine OJ.run [0] [1, 2, 3, 4, 5, 6, 7, 8, 9] [0, 1, 2, 7, 8, 9, 11, 12, 13, 15, 17, 19, 126] (m2 := [(0, Sl.v r1.2), (1, Sl.v a1), (2, .int .i64 a2), (7, .pointer r1.1), (8, .pointer r2), (9, .pointer r3), (11, Sl.v r8), (12, .int .i64 s9), (13, .int .i64 s750), (15, Sl.v r1442), (17, .int .i64 r1443.2.1), (19, .int .i64 j1449), (126, .pointer r2)]) (by kernel_rfl) (by kernel_rfl) ?_
    refine OJ.nilck (d := 127) (y := .tmp 126) (by kernel_rfl) (by kernel_rfl) (by kernel_rfl) (by kernel_rfl) (by kernel_rfl) (fun p1451 => ?_)
    refine OJ.run [2] [3, 4, 5, 6, 7, 8, 9] [0, 1, 2, 7, 8, 9, 11, 12, 13, 15, 17, 19, 128] (m2 := [(0, Sl.v r1.2), (1, Sl.v a1), (2, .int .i64 a2), (7, .pointer r1.1), (8, .pointer r2), (9, .pointer r3), (11, Sl.v r8), (12, .int .i64 s9), (13, .int .i64 s750), (15, Sl.v r1442), (17, .int .i64 r1443.2.1), (19, .int .i64 j1449), (128, .pointer (some (Addr.add p1451 2)))]) (by kernel_rfl) (by kernel_rfl) ?_
    refine OJ.ld (d := 129) (T := 28) (y := .tmp 128) (pend2 := fun x1452 => []) (by kernel_rfl) (by kernel_rfl) Ty28 (by kernel_rfl) (by kernel_rfl) (fun _ => rfl) (fun x1452 => ?_)
    refine OJ.run [4] [5, 6, 7, 8, 9] [0, 1, 2, 7, 8, 9, 11, 12, 13, 15, 17, 19, 129, 130] (m2 := [(0, Sl.v r1.2), (1, Sl.v a1), (2, .int .i64 a2), (7, .pointer r1.1), (8, .pointer r2), (9, .pointer r3), (11, Sl.v r8), (12, .int .i64 s9), (13, .int .i64 s750), (15, Sl.v r1442), (17, .int .i64 r1443.2.1), (19, .int .i64 j1449), (129, Sl.v x1452), (130, .int .i64 r1443.2.1)]) (by kernel_rfl) (by kernel_rfl) ?_
    refine OJ.idxS (d := 131) (T := 28) (y := .tmp 129) (j := .tmp 130) (E := 3) (cap := x1452.cap) (k := .i64) (by kernel_rfl) (by kernel_rfl) (by kernel_rfl) (by kernel_rfl) (by kernel_rfl) (by kernel_rfl) (by kernel_rfl) (by kernel_rfl) (fun p1453 => ?_)
    refine OJ.ld (d := 132) (T := 3) (y := .tmp 131) (pend2 := fun x1454 => []) (by kernel_rfl) (by kernel_rfl) Ty3 (by kernel_rfl) (by kernel_rfl) (fun _ => rfl) (fun x1454 => ?_)
    refine OJ.run [7, 8, 9] [] [0, 1, 2, 7, 8, 9, 11, 12, 13, 15, 17, 20] (m2 := [(0, Sl.v r1.2), (1, Sl.v a1), (2, .int .i64 a2), (7, .pointer r1.1), (8, .pointer r2), (9, .pointer r3), (11, Sl.v r8), (12, .int .i64 s9), (13, .int .i64 s750), (15, Sl.v r1442), (17, .int .i64 r1443.2.1), (20, .int .i64 (IntKind.wrap .i64 (x1454 - j1449)))]) (by kernel_rfl) (by kernel_rfl) ?_
    refine OJ.nil ?_
    refine SJ.seq (by kernel_rfl) ?_
    refine SJ.seq (by kernel_rfl) ?_
    refine SJ.region (id := 35) (by kernel_rfl) [0, 1, 2, 3, 4, 5] (by kernel_rfl) ?_
    refine OJ.run [0, 1] [2, 3, 4, 5] [0, 1, 2, 7, 8, 9, 11, 12, 13, 15, 17, 20, 135, 136] (m2 := [(0, Sl.v r1.2), (1, Sl.v a1), (2, .int .i64 a2), (7, .pointer r1.1), (8, .pointer r2), (9, .pointer r3), (11, Sl.v r8), (12, .int .i64 s9), (13, .int .i64 s750), (15, Sl.v r1442), (17, .int .i64 r1443.2.1), (20, .int .i64 (IntKind.wrap .i64 (x1454 - j1449))), (135, Sl.v r1.2), (136, .int .i64 r1443.2.1)]) (by kernel_rfl) (by kernel_rfl) ?_
    refine OJ.idxS (d := 137) (T := 27) (y := .tmp 135) (j := .tmp 136) (E := 41) (cap := r1.2.cap) (k := .i64) (by kernel_rfl) (by kernel_rfl) (by kernel_rfl) (by kernel_rfl) (by kernel_rfl) (by kernel_rfl) (by kernel_rfl) (by kernel_rfl) (fun p1455 => ?_)
    refine OJ.run [3] [4, 5] [0, 1, 2, 7, 8, 9, 11, 12, 13, 15, 17, 20, 138] (m2 := [(0, Sl.v r1.2), (1, Sl.v a1), (2, .int .i64 a2), (7, .pointer r1.1), (8, .pointer r2), (9, .pointer r3), (11, Sl.v r8), (12, .int .i64 s9), (13, .int .i64 s750), (15, Sl.v r1442), (17, .int .i64 r1443.2.1), (20, .int .i64 (IntKind.wrap .i64 (x1454 - j1449))), (138, .pointer (some (Addr.add p1455 3)))]) (by kernel_rfl) (by kernel_rfl) ?_
    refine OJ.ld (d := 139) (T := 3) (y := .tmp 138) (pend2 := fun x1456 => []) (by kernel_rfl) (by kernel_rfl) Ty3 (by kernel_rfl) (by kernel_rfl) (fun _ => rfl) (fun x1456 => ?_)
    refine OJ.run [5] [] [0, 1, 2, 7, 8, 9, 11, 12, 13, 15, 17, 20, 140] (m2 := [(0, Sl.v r1.2), (1, Sl.v a1), (2, .int .i64 a2), (7, .pointer r1.1), (8, .pointer r2), (9, .pointer r3), (11, Sl.v r8), (12, .int .i64 s9), (13, .int .i64 s750), (15, Sl.v r1442), (17, .int .i64 r1443.2.1), (20, .int .i64 (IntKind.wrap .i64 (x1454 - j1449))), (140, .bool (decide (x1456 > 0)))]) (by kernel_rfl) (by kernel_rfl) ?_
    refine OJ.nil ?_
    refine SJ.cond (t := (.tmp 140)) (b := decide (x1456 > 0)) (by kernel_rfl) (by kernel_rfl) decide_eq_true_iff (fun hc1477 => ?_) (fun hc1477 => ?_)
    · refine SJ.draw (id := 36) (kd := [0, 0, 0, 1, 0, 0, 0, 0, 1, 0, 0, 1, 0, 0, 0, 2]) (bef := [0, 1, 3, 7, 0, 0, 32, 96, 224, 0, 992, 2016, 0, 8160, 16383, 32767]) (ord := [0, 1, 2, 3, 4, 5, 6, 7, 8, 9, 10, 11, 12, 13, 14, 15]) (by kernel_rfl) mixed (by kernel_rfl) ?_
      refine OJ.run [0] [1, 2, 3, 4, 5, 6, 7, 8, 9, 10, 11, 12, 13, 14, 15] [0, 1, 2, 7, 8, 9, 11, 12, 13, 15, 17, 20, 141] (m2 := [(0, Sl.v r1.2), (1, Sl.v a1), (2, .int .i64 a2), (7, .pointer r1.1), (8, .pointer r2), (9, .pointer r3), (11, Sl.v r8), (12, .int .i64 s9), (13, .int .i64 s750), (15, Sl.v r1442), (17, .int .i64 r1443.2.1), (20, .int .i64 (IntKind.wrap .i64 (x1454 - j1449))), (141, .pointer r3)]) (by kernel_rfl) (by kernel_rfl) ?_
      refine OJ.nilck (d := 142) (y := .tmp 141) (by kernel_rfl) (by kernel_rfl) (by kernel_rfl) (by kernel_rfl) (by kernel_rfl) (fun p1464 => ?_)
      refine OJ.run [2] [3, 4, 5, 6, 7, 8, 9, 10, 11, 12, 13, 14, 15] [0, 1, 2, 7, 8, 9, 11, 12, 13, 15, 17, 20, 143] (m2 := [(0, Sl.v r1.2), (1, Sl.v a1), (2, .int .i64 a2), (7, .pointer r1.1), (8, .pointer r2), (9, .pointer r3), (11, Sl.v r8), (12, .int .i64 s9), (13, .int .i64 s750), (15, Sl.v r1442), (17, .int .i64 r1443.2.1), (20, .int .i64 (IntKind.wrap .i64 (x1454 - j1449))), (143, .pointer (some p1464))]) (by kernel_rfl) (by kernel_rfl) ?_
      refine OJ.ld (d := 144) (T := 28) (y := .tmp 143) (pend2 := fun x1465 => [⟨3, 28, p1464, cL.val x1465⟩]) (by kernel_rfl) (by kernel_rfl) Ty28 (by kernel_rfl) (by kernel_rfl) (fun _ => rfl) (fun x1465 => ?_)
      refine OJ.run [4, 5] [6, 7, 8, 9, 10, 11, 12, 13, 14, 15] [0, 1, 2, 7, 8, 9, 11, 12, 13, 15, 17, 20, 144, 145, 146] (m2 := [(0, Sl.v r1.2), (1, Sl.v a1), (2, .int .i64 a2), (7, .pointer r1.1), (8, .pointer r2), (9, .pointer r3), (11, Sl.v r8), (12, .int .i64 s9), (13, .int .i64 s750), (15, Sl.v r1442), (17, .int .i64 r1443.2.1), (20, .int .i64 (IntKind.wrap .i64 (x1454 - j1449))), (144, Sl.v x1465), (145, .int .i64 r1443.2.1), (146, .pointer r3)]) (by kernel_rfl) (by kernel_rfl) ?_
      refine OJ.nilck (d := 147) (y := .tmp 146) (by kernel_rfl) (by kernel_rfl) (by kernel_rfl) (by kernel_rfl) (by kernel_rfl) (fun p1466 => ?_)
      refine OJ.run [7] [8, 9, 10, 11, 12, 13, 14, 15] [0, 1, 2, 7, 8, 9, 11, 12, 13, 15, 17, 20, 144, 145, 148] (m2 := [(0, Sl.v r1.2), (1, Sl.v a1), (2, .int .i64 a2), (7, .pointer r1.1), (8, .pointer r2), (9, .pointer r3), (11, Sl.v r8), (12, .int .i64 s9), (13, .int .i64 s750), (15, Sl.v r1442), (17, .int .i64 r1443.2.1), (20, .int .i64 (IntKind.wrap .i64 (x1454 - j1449))), (144, Sl.v x1465), (145, .int .i64 r1443.2.1), (148, .pointer (some p1466))]) (by kernel_rfl) (by kernel_rfl) ?_
      refine OJ.ld (d := 149) (T := 28) (y := .tmp 148) (pend2 := fun x1467 => [⟨8, 28, p1466, cL.val x1467⟩, ⟨3, 28, p1464, cL.val x1465⟩]) (by kernel_rfl) (by kernel_rfl) Ty28 (by kernel_rfl) (by kernel_rfl) (fun _ => rfl) (fun x1467 => ?_)
      refine OJ.run [9] [10, 11, 12, 13, 14, 15] [0, 1, 2, 7, 8, 9, 11, 12, 13, 15, 17, 20, 144, 145, 149, 150] (m2 := [(0, Sl.v r1.2), (1, Sl.v a1), (2, .int .i64 a2), (7, .pointer r1.1), (8, .pointer r2), (9, .pointer r3), (11, Sl.v r8), (12, .int .i64 s9), (13, .int .i64 s750), (15, Sl.v r1442), (17, .int .i64 r1443.2.1), (20, .int .i64 (IntKind.wrap .i64 (x1454 - j1449))), (144, Sl.v x1465), (145, .int .i64 r1443.2.1), (149, Sl.v x1467), (150, .int .i64 r1443.2.1)]) (by kernel_rfl) (by kernel_rfl) ?_
      refine OJ.idxS (d := 151) (T := 28) (y := .tmp 149) (j := .tmp 150) (E := 3) (cap := x1467.cap) (k := .i64) (by kernel_rfl) (by kernel_rfl) (by kernel_rfl) (by kernel_rfl) (by kernel_rfl) (by kernel_rfl) (by kernel_rfl) (by kernel_rfl) (fun p1468 => ?_)
      refine OJ.ld (d := 152) (T := 3) (y := .tmp 151) (pend2 := fun x1469 => [⟨11, 3, p1468, (cI .i64).val x1469⟩, ⟨8, 28, p1466, cL.val x1467⟩, ⟨3, 28, p1464, cL.val x1465⟩]) (by kernel_rfl) (by kernel_rfl) Ty3 (by kernel_rfl) (by kernel_rfl) (fun _ => rfl) (fun x1469 => ?_)
      refine OJ.run [12, 13] [14, 15] [0, 1, 2, 7, 8, 9, 11, 12, 13, 15, 17, 20, 144, 145, 154] (m2 := [(0, Sl.v r1.2), (1, Sl.v a1), (2, .int .i64 a2), (7, .pointer r1.1), (8, .pointer r2), (9, .pointer r3), (11, Sl.v r8), (12, .int .i64 s9), (13, .int .i64 s750), (15, Sl.v r1442), (17, .int .i64 r1443.2.1), (20, .int .i64 (IntKind.wrap .i64 (x1454 - j1449))), (144, Sl.v x1465), (145, .int .i64 r1443.2.1), (154, .int .i64 (IntKind.wrap .i64 (x1469 - (IntKind.wrap .i64 (x1454 - j1449)))))]) (by kernel_rfl) (by kernel_rfl) ?_
      refine OJ.idxS (d := 155) (T := 28) (y := .tmp 144) (j := .tmp 145) (E := 3) (cap := x1465.cap) (k := .i64) (by kernel_rfl) (by kernel_rfl) (by kernel_rfl) (by kernel_rfl) (by kernel_rfl) (by kernel_rfl) (by kernel_rfl) (by kernel_rfl) (fun p1470 => ?_)
      refine OJ.st (T := 3) (y := .tmp 155) (z := .tmp 154) (owed := []) (by kernel_rfl) (by kernel_rfl) (by kernel_rfl) Ty3 (by kernel_rfl) (by kernel_rfl) ?_
      refine OW.nil ?_
      refine OJ.nil ?_
      refine SJ.seq (by kernel_rfl) ?_
      refine SJ.region (id := 37) (by kernel_rfl) [0, 1, 2, 3, 4, 5, 6, 7, 8, 9, 10] (by kernel_rfl) ?_
      refine OJ.run [0, 1, 2, 3, 4, 5] [6, 7, 8, 9, 10] [0, 1, 2, 7, 8, 9, 11, 12, 13, 17, 20, 156, 157, 158, 159, 160, 161] (m2 := [(0, Sl.v r1.2), (1, Sl.v a1), (2, .int .i64 a2), (7, .pointer r1.1), (8, .pointer r2), (9, .pointer r3), (11, Sl.v r8), (12, .int .i64 s9), (13, .int .i64 s750), (17, .int .i64 r1443.2.1), (20, .int .i64 (IntKind.wrap .i64 (x1454 - j1449))), (156, Sl.v r1.2), (157, Sl.v r8), (158, Sl.v r1442), (159, Sl.v r1.2), (160, .pointer r2), (161, .pointer r3)]) (by kernel_rfl) (by kernel_rfl) ?_
      refine OJ.call (d := 162) (g := 28) (ats := #[27, 32, 54]) (args := [.tmp 159, .tmp 160, .tmp 161]) (vals := [Sl.v r1.2, .pointer r2, .pointer r3]) (owed := []) (by kernel_rfl) F28 (by kernel_rfl) (weirlaw18_all_ok r1.2 r2 r3) (by kernel_rfl) (by kernel_rfl) (by kernel_rfl) (fun r1471 => ?_)
      refine OW.nil ?_
      refine OJ.run [7, 8] [9, 10] [0, 1, 2, 7, 8, 9, 11, 12, 13, 156, 157, 158, 162, 163, 164] (m2 := [(0, Sl.v r1.2), (1, Sl.v a1), (2, .int .i64 a2), (7, .pointer r1.1), (8, .pointer r2), (9, .pointer r3), (11, Sl.v r8), (12, .int .i64 s9), (13, .int .i64 s750), (156, Sl.v r1.2), (157, Sl.v r8), (158, Sl.v r1442), (162, Sl.v r1471), (163, .int .i64 r1443.2.1), (164, .int .i64 (IntKind.wrap .i64 (x1454 - j1449)))]) (by kernel_rfl) (by kernel_rfl) ?_
      refine OJ.call (d := 165) (g := 29) (ats := #[27, 56, 58, 58, 3, 3]) (args := [.tmp 156, .tmp 157, .tmp 158, .tmp 162, .tmp 163, .tmp 164]) (vals := [Sl.v r1.2, Sl.v r8, Sl.v r1442, Sl.v r1471, .int .i64 r1443.2.1, .int .i64 (IntKind.wrap .i64 (x1454 - j1449))]) (owed := []) (by kernel_rfl) F29 (by kernel_rfl) (weirlaw18_even_ok r1.2 r8 r1442 r1471 r1443.2.1 (IntKind.wrap .i64 (x1454 - j1449))) (by kernel_rfl) (by kernel_rfl) (by kernel_rfl) (fun r1472 => ?_)
      refine OW.nil ?_
      refine OJ.run [10] [] [0, 1, 2, 7, 8, 9, 11, 12, 13, 166] (m2 := [(0, Sl.v r1.2), (1, Sl.v a1), (2, .int .i64 a2), (7, .pointer r1.1), (8, .pointer r2), (9, .pointer r3), (11, Sl.v r8), (12, .int .i64 s9), (13, .int .i64 s750), (166, .bool (!r1472))]) (by kernel_rfl) (by kernel_rfl) ?_
      refine OJ.nil ?_
      refine SJ.cond (t := (.tmp 166)) (b := (!r1472)) (by kernel_rfl) (by kernel_rfl) (bnot_iff Iff.rfl) (fun hc1473 => ?_) (fun hc1473 => ?_)
      · refine SJ.seq (by kernel_rfl) ?_
        refine SJ.region (id := 38) (by kernel_rfl) [0] (by kernel_rfl) ?_
        refine OJ.run [0] [] [6] (m2 := [(6, .bool false)]) (by kernel_rfl) (by kernel_rfl) ?_
        refine OJ.nil ?_
        exact SJ.ret (by kernel_rfl) rfl (Res.run (ys := [.bool false]) (.tmp (by kernel_rfl) .nil) rfl)
      · refine SJ.skip (by kernel_rfl) ?_
        refine SJ.less [0, 1, 2, 7, 8, 9, 11, 12, 13] (m' := [(0, Sl.v r1.2), (1, Sl.v a1), (2, .int .i64 a2), (7, .pointer r1.1), (8, .pointer r2), (9, .pointer r3), (11, Sl.v r8), (12, .int .i64 s9), (13, .int .i64 s750)]) (by kernel_rfl) ?_
        exact weirlaw18_QueueEven.K1_ok a1 a2 r1 r2 r3 r8 s9 s750
    · refine SJ.skip (by kernel_rfl) ?_
      refine SJ.seq (by kernel_rfl) ?_
      refine SJ.region (id := 37) (by kernel_rfl) [0, 1, 2, 3, 4, 5, 6, 7, 8, 9, 10] (by kernel_rfl) ?_
      refine OJ.run [0, 1, 2, 3, 4, 5] [6, 7, 8, 9, 10] [0, 1, 2, 7, 8, 9, 11, 12, 13, 17, 20, 156, 157, 158, 159, 160, 161] (m2 := [(0, Sl.v r1.2), (1, Sl.v a1), (2, .int .i64 a2), (7, .pointer r1.1), (8, .pointer r2), (9, .pointer r3), (11, Sl.v r8), (12, .int .i64 s9), (13, .int .i64 s750), (17, .int .i64 r1443.2.1), (20, .int .i64 (IntKind.wrap .i64 (x1454 - j1449))), (156, Sl.v r1.2), (157, Sl.v r8), (158, Sl.v r1442), (159, Sl.v r1.2), (160, .pointer r2), (161, .pointer r3)]) (by kernel_rfl) (by kernel_rfl) ?_
      refine OJ.call (d := 162) (g := 28) (ats := #[27, 32, 54]) (args := [.tmp 159, .tmp 160, .tmp 161]) (vals := [Sl.v r1.2, .pointer r2, .pointer r3]) (owed := []) (by kernel_rfl) F28 (by kernel_rfl) (weirlaw18_all_ok r1.2 r2 r3) (by kernel_rfl) (by kernel_rfl) (by kernel_rfl) (fun r1474 => ?_)
      refine OW.nil ?_
      refine OJ.run [7, 8] [9, 10] [0, 1, 2, 7, 8, 9, 11, 12, 13, 156, 157, 158, 162, 163, 164] (m2 := [(0, Sl.v r1.2), (1, Sl.v a1), (2, .int .i64 a2), (7, .pointer r1.1), (8, .pointer r2), (9, .pointer r3), (11, Sl.v r8), (12, .int .i64 s9), (13, .int .i64 s750), (156, Sl.v r1.2), (157, Sl.v r8), (158, Sl.v r1442), (162, Sl.v r1474), (163, .int .i64 r1443.2.1), (164, .int .i64 (IntKind.wrap .i64 (x1454 - j1449)))]) (by kernel_rfl) (by kernel_rfl) ?_
      refine OJ.call (d := 165) (g := 29) (ats := #[27, 56, 58, 58, 3, 3]) (args := [.tmp 156, .tmp 157, .tmp 158, .tmp 162, .tmp 163, .tmp 164]) (vals := [Sl.v r1.2, Sl.v r8, Sl.v r1442, Sl.v r1474, .int .i64 r1443.2.1, .int .i64 (IntKind.wrap .i64 (x1454 - j1449))]) (owed := []) (by kernel_rfl) F29 (by kernel_rfl) (weirlaw18_even_ok r1.2 r8 r1442 r1474 r1443.2.1 (IntKind.wrap .i64 (x1454 - j1449))) (by kernel_rfl) (by kernel_rfl) (by kernel_rfl) (fun r1475 => ?_)
      refine OW.nil ?_
      refine OJ.run [10] [] [0, 1, 2, 7, 8, 9, 11, 12, 13, 166] (m2 := [(0, Sl.v r1.2), (1, Sl.v a1), (2, .int .i64 a2), (7, .pointer r1.1), (8, .pointer r2), (9, .pointer r3), (11, Sl.v r8), (12, .int .i64 s9), (13, .int .i64 s750), (166, .bool (!r1475))]) (by kernel_rfl) (by kernel_rfl) ?_
      refine OJ.nil ?_
      refine SJ.cond (t := (.tmp 166)) (b := (!r1475)) (by kernel_rfl) (by kernel_rfl) (bnot_iff Iff.rfl) (fun hc1476 => ?_) (fun hc1476 => ?_)
      · refine SJ.seq (by kernel_rfl) ?_
        refine SJ.region (id := 38) (by kernel_rfl) [0] (by kernel_rfl) ?_
        refine OJ.run [0] [] [6] (m2 := [(6, .bool false)]) (by kernel_rfl) (by kernel_rfl) ?_
        refine OJ.nil ?_
        exact SJ.ret (by kernel_rfl) rfl (Res.run (ys := [.bool false]) (.tmp (by kernel_rfl) .nil) rfl)
      · refine SJ.skip (by kernel_rfl) ?_
        refine SJ.less [0, 1, 2, 7, 8, 9, 11, 12, 13] (m' := [(0, Sl.v r1.2), (1, Sl.v a1), (2, .int .i64 a2), (7, .pointer r1.1), (8, .pointer r2), (9, .pointer r3), (11, Sl.v r8), (12, .int .i64 s9), (13, .int .i64 s750)]) (by kernel_rfl) ?_
        exact weirlaw18_QueueEven.K1_ok a1 a2 r1 r2 r3 r8 s9 s750
noncomputable def weirlaw18_QueueEven.L2 (a1 : Sl) (r1 : ((Option Addr) × Sl)) (r2 : (Option Addr)) (r3 : (Option Addr)) (r8 : Sl) (s9 : Int) (s750 : Int) : M (LS Int (LS Int Bool)) :=
  if s750 < (a1.len : Int) then
    idx a1.a a1.len s750 5 >>= fun p1120 =>
    ld c_weirlaw18_Op p1120 >>= fun x1121 =>
    slot 48 >>= fun b1122 =>
    if x1121.Kind = 1 then
      draw >>= fun _ =>
      queue_Queue_Push r1.1 x1121.Class x1121.Size x1121.Item >>= fun r1305 =>
      weirlaw18_num r1305 >>= fun r1306 =>
      weirlaw18_Book_pushed r2 r1.2 x1121 r1306 >>= fun r1307 =>
      weirlaw18_QueueEven.K1 s750
    else
      if x1121.Kind = 4 then
        queue_Queue_Tick r1.1 >>= fun r1397 =>
        weirlaw18_Purse_tick r3 r1.2 >>= fun r1398 =>
        weirlaw18_QueueEven.K1 s750
      else
        if x1121.Kind = 2 then
          weirlaw18_all r1.2 r2 r3 >>= fun r1442 =>
          queue_Queue_Pop r1.1 >>= fun r1443 =>
          if ¬ (r1443.2.2 = true) then
            pure (LS.next (IntKind.wrap .i64 (s750 + 1)))
          else
            (if r1443.2.1 ≥ 0 then
                pure (decide (r1443.2.1 < (r1.2.len : Int)))
              else
                pure false) >>= fun y1444 =>
            if y1444 = true then
              nilck r2 >>= fun p1479 =>
              ld cL (Addr.add p1479 2) >>= fun x1480 =>
              idx x1480.a x1480.len r1443.2.1 1 >>= fun p1481 =>
              ld (cI .i64) p1481 >>= fun x1482 =>
              weirlaw18_QueueEven.K2 r1 r2 r3 r8 s750 r1442 r1443 x1482
            else
              weirlaw18_QueueEven.K2 r1 r2 r3 r8 s750 r1442 r1443 0
        else
          weirlaw18_QueueEven.K1 s750
  else
    pure (LS.done (LS.next (IntKind.wrap .i64 (s9 + 1))))
theorem weirlaw18_QueueEven.L2_ok (a1 : Sl) (a2 : Int) (r1 : ((Option Addr) × Sl)) (r2 : (Option Addr)) (r3 : (Option Addr)) (r8 : Sl) (s9 : Int) (s750 : Int) :
    SJ weirlaw18_QueueEven.cx [.code (c1 (c1 (c2 (c1 (c1 (c2 (c1 (c1 (c2 (c1 (c2 (c2 (c2 (c2 (c2 (c2 (c2 (c2 (c2 weirlaw18_QueueEven.B))))))))))))))))))), .inLoop (c1 (c1 (c2 (c1 (c1 (c2 (c1 (c1 (c2 (c1 (c2 (c2 (c2 (c2 (c2 (c2 (c2 (c2 (c2 weirlaw18_QueueEven.B))))))))))))))))))), .inBlock 2, .inBlock 1, .code (c2 (c2 (c1 (c1 (c2 (c1 (c2 (c2 (c2 (c2 (c2 (c2 (c2 (c2 (c2 weirlaw18_QueueEven.B))))))))))))))), .inLoop (c1 (c1 (c2 (c1 (c2 (c2 (c2 (c2 (c2 (c2 (c2 (c2 (c2 weirlaw18_QueueEven.B))))))))))))), .inBlock 0, .code (c2 (c2 (c2 (c2 (c2 (c2 (c2 (c2 (c2 (c2 weirlaw18_QueueEven.B))))))))))] [(0, Sl.v r1.2), (1, Sl.v a1), (2, .int .i64 a2), (7, .pointer r1.1), (8, .pointer r2), (9, .pointer r3), (11, Sl.v r8), (12, .int .i64 s9), (13, .int .i64 s750)] [] (weirlaw18_QueueEven.L2 a1 r1 r2 r3 r8 s9 s750) (weirlaw18_QueueEven.F2 a1 a2 r1 r2 r3 r8 s9) := by
  unfold weirlaw18_QueueEven.L2
  refine SJ.seq (by kernel_rfl) ?_
  refine SJ.seq (by kernel_rfl) ?_
  refine SJ.region (id := 16) (by kernel_rfl) [0, 1, 2, 3] (by kernel_rfl) ?_
  refine OJ.run [0, 1, 2, 3] [] [0, 1, 2, 7, 8, 9, 11, 12, 13, 61] (m2 := [(0, Sl.v r1.2), (1, Sl.v a1), (2, .int .i64 a2), (7, .pointer r1.1), (8, .pointer r2), (9, .pointer r3), (11, Sl.v r8), (12, .int .i64 s9), (13, .int .i64 s750), (61, .bool (decide (s750 < (a1.len : Int))))]) (by kernel_rfl) (by kernel_rfl) ?_
  refine OJ.nil ?_
  refine SJ.cond (t := (.tmp 61)) (b := decide (s750 < (a1.len : Int))) (by kernel_rfl) (by kernel_rfl) decide_eq_true_iff (fun hc1488 => ?_) (fun hc1488 => ?_)
  · refine SJ.skip (by kernel_rfl) ?_
    refine SJ.seq (by kernel_rfl) ?_
    refine SJ.block (id := 3) (by kernel_rfl) ?_
    refine SJ.seq (by kernel_rfl) ?_
    refine SJ.region (id := 18) (by kernel_rfl) [0, 1, 2, 3, 4, 5] (by kernel_rfl) ?_
    refine OJ.run [0, 1] [2, 3, 4, 5] [0, 1, 2, 7, 8, 9, 11, 12, 13, 64, 65] (m2 := [(0, Sl.v r1.2), (1, Sl.v a1), (2, .int .i64 a2), (7, .pointer r1.1), (8, .pointer r2), (9, .pointer r3), (11, Sl.v r8), (12, .int .i64 s9), (13, .int .i64 s750), (64, Sl.v a1), (65, .int .i64 s750)]) (by kernel_rfl) (by kernel_rfl) ?_
    refine OJ.idxS (d := 66) (T := 53) (y := .tmp 64) (j := .tmp 65) (E := 48) (cap := a1.cap) (k := .i64) (by kernel_rfl) (by kernel_rfl) (by kernel_rfl) (by kernel_rfl) (by kernel_rfl) (by kernel_rfl) (by kernel_rfl) (by kernel_rfl) (fun p1120 => ?_)
    refine OJ.ld (d := 67) (T := 48) (y := .tmp 66) (pend2 := fun x1121 => []) (by kernel_rfl) (by kernel_rfl) Ty48 (by kernel_rfl) (by kernel_rfl) (fun _ => rfl) (fun x1121 => ?_)
    refine OJ.slotOf (d := 14) (op := (.alloc 48)) (cd := c_weirlaw18_Op) (u := z_weirlaw18_Op) (owed := []) (by kernel_rfl) (alloc_run Ty48) (by kernel_rfl) (by kernel_rfl) (by kernel_rfl) (fun b1122 => ?_)
    refine OW.nil ?_
    refine OJ.kst (T := 48) (y := .tmp 14) (z := .tmp 67) (cd := c_weirlaw18_Op) (u := x1121) (j := 0) (b := b1122) (o := 0) (c_weirlaw18_Op.enc x1121) (h2 := [(b1122, c_weirlaw18_Op.enc x1121)]) (owed := []) (by kernel_rfl) (by kernel_rfl) (by kernel_rfl) Ty48 rfl (Upd.whole ((Cod.len _ _).trans (Cod.len _ _).symm)) (by kernel_rfl) (by kernel_rfl) rfl ?_
    refine OW.nil ?_
    refine OJ.nil ?_
    refine SJ.seq (by kernel_rfl) ?_
    refine SJ.region (id := 19) (by kernel_rfl) [0, 1] (by kernel_rfl) ?_
    refine OJ.run [0] [1] [0, 1, 2, 7, 8, 9, 11, 12, 13, 14, 68] (m2 := [(0, Sl.v r1.2), (1, Sl.v a1), (2, .int .i64 a2), (7, .pointer r1.1), (8, .pointer r2), (9, .pointer r3), (11, Sl.v r8), (12, .int .i64 s9), (13, .int .i64 s750), (14, .pointer (some (pt b1122 0))), (68, .pointer (some (pt b1122 0)))]) (by kernel_rfl) (by kernel_rfl) ?_
    refine OJ.kld (d := 69) (T := 3) (y := .tmp 68) (cd := (cI .i64)) (j := 0) (b := b1122) (o := 0) x1121.Kind (pend2 := []) (by kernel_rfl) (by kernel_rfl) Ty3 (by kernel_rfl) rfl (At_weirlaw18_Op_Kind x1121) (by kernel_rfl) rfl ?_
    refine OJ.nil ?_
    refine SJ.block (id := 4) (by kernel_rfl) ?_
    refine SJ.seq (by kernel_rfl) ?_
    refine SJ.region (id := 20) (by kernel_rfl) [0, 1] (by kernel_rfl) ?_
    refine OJ.run [0, 1] [] [0, 1, 2, 7, 8, 9, 11, 12, 13, 14, 69, 70] (m2 := [(0, Sl.v r1.2), (1, Sl.v a1), (2, .int .i64 a2), (7, .pointer r1.1), (8, .pointer r2), (9, .pointer r3), (11, Sl.v r8), (12, .int .i64 s9), (13, .int .i64 s750), (14, .pointer (some (pt b1122 0))), (69, .int .i64 x1121.Kind), (70, .bool (x1121.Kind == 1))]) (by kernel_rfl) (by kernel_rfl) ?_
    refine OJ.nil ?_
    refine SJ.cond (t := (.tmp 70)) (b := (x1121.Kind == 1)) (by kernel_rfl) (by kernel_rfl) beq_iff_eq (fun hc1487 => ?_) (fun hc1487 => ?_)
    · refine SJ.draw (id := 21) (kd := [0, 0, 1, 0, 0, 1, 0, 1, 0, 1, 2, 2, 2]) (bef := [0, 0, 0, 0, 0, 16, 0, 64, 0, 256, 1016, 2040, 4095]) (ord := [0, 1, 2, 3, 4, 5, 6, 7, 8, 9, 10, 11, 12]) (by kernel_rfl) mixed (by kernel_rfl) ?_
      refine OJ.run [0, 1] [2, 3, 4, 5, 6, 7, 8, 9, 10, 11, 12] [0, 1, 2, 7, 8, 9, 11, 12, 13, 14, 72, 73] (m2 := [(0, Sl.v r1.2), (1, Sl.v a1), (2, .int .i64 a2), (7, .pointer r1.1), (8, .pointer r2), (9, .pointer r3), (11, Sl.v r8), (12, .int .i64 s9), (13, .int .i64 s750), (14, .pointer (some (pt b1122 0))), (72, .pointer r2), (73, Sl.v r1.2)]) (by kernel_rfl) (by kernel_rfl) ?_
      refine OJ.kld (d := 74) (T := 48) (y := .tmp 14) (cd := c_weirlaw18_Op) (j := 0) (b := b1122) (o := 0) x1121 (pend2 := [⟨2, 48, (pt b1122 0), c_weirlaw18_Op.val x1121⟩]) (by kernel_rfl) (by kernel_rfl) Ty48 (by kernel_rfl) rfl (At.whole _) (by kernel_rfl) rfl ?_
      refine OJ.run [3, 4] [5, 6, 7, 8, 9, 10, 11, 12] [0, 1, 2, 7, 8, 9, 11, 12, 13, 14, 72, 73, 74, 75, 76] (m2 := [(0, Sl.v r1.2), (1, Sl.v a1), (2, .int .i64 a2), (7, .pointer r1.1), (8, .pointer r2), (9, .pointer r3), (11, Sl.v r8), (12, .int .i64 s9), (13, .int .i64 s750), (14, .pointer (some (pt b1122 0))), (72, .pointer r2), (73, Sl.v r1.2), (74, c_weirlaw18_Op.val x1121), (75, .pointer r1.1), (76, .pointer (some (pt b1122 2)))]) (by kernel_rfl) (by kernel_rfl) ?_
      refine OJ.kld (d := 77) (T := 3) (y := .tmp 76) (cd := (cI .i64)) (j := 0) (b := b1122) (o := 2) x1121.Class (pend2 := [⟨5, 3, (pt b1122 2), (cI .i64).val x1121.Class⟩, ⟨2, 48, (pt b1122 0), c_weirlaw18_Op.val x1121⟩]) (by kernel_rfl) (by kernel_rfl) Ty3 (by kernel_rfl) rfl (At_weirlaw18_Op_Class x1121) (by kernel_rfl) rfl ?_
      refine OJ.run [6] [7, 8, 9, 10, 11, 12] [0, 1, 2, 7, 8, 9, 11, 12, 13, 14, 72, 73, 74, 75, 77, 78] (m2 := [(0, Sl.v r1.2), (1, Sl.v a1), (2, .int .i64 a2), (7, .pointer r1.1), (8, .pointer r2), (9, .pointer r3), (11, Sl.v r8), (12, .int .i64 s9), (13, .int .i64 s750), (14, .pointer (some (pt b1122 0))), (72, .pointer r2), (73, Sl.v r1.2), (74, c_weirlaw18_Op.val x1121), (75, .pointer r1.1), (77, .int .i64 x1121.Class), (78, .pointer (some (pt b1122 3)))]) (by kernel_rfl) (by kernel_rfl) ?_
      refine OJ.kld (d := 79) (T := 3) (y := .tmp 78) (cd := (cI .i64)) (j := 0) (b := b1122) (o := 3) x1121.Size (pend2 := [⟨7, 3, (pt b1122 3), (cI .i64).val x1121.Size⟩, ⟨5, 3, (pt b1122 2), (cI .i64).val x1121.Class⟩, ⟨2, 48, (pt b1122 0), c_weirlaw18_Op.val x1121⟩]) (by kernel_rfl) (by kernel_rfl) Ty3 (by kernel_rfl) rfl (At_weirlaw18_Op_Size x1121) (by kernel_rfl) rfl ?_
      refine OJ.run [8] [9, 10, 11, 12] [0, 1, 2, 7, 8, 9, 11, 12, 13, 72, 73, 74, 75, 77, 79, 80] (m2 := [(0, Sl.v r1.2), (1, Sl.v a1), (2, .int .i64 a2), (7, .pointer r1.1), (8, .pointer r2), (9, .pointer r3), (11, Sl.v r8), (12, .int .i64 s9), (13, .int .i64 s750), (72, .pointer r2), (73, Sl.v r1.2), (74, c_weirlaw18_Op.val x1121), (75, .pointer r1.1), (77, .int .i64 x1121.Class), (79, .int .i64 x1121.Size), (80, .pointer (some (pt b1122 4)))]) (by kernel_rfl) (by kernel_rfl) ?_
      refine OJ.kld (d := 81) (T := 3) (y := .tmp 80) (cd := (cI .i64)) (j := 0) (b := b1122) (o := 4) x1121.Item (pend2 := [⟨9, 3, (pt b1122 4), (cI .i64).val x1121.Item⟩, ⟨7, 3, (pt b1122 3), (cI .i64).val x1121.Size⟩, ⟨5, 3, (pt b1122 2), (cI .i64).val x1121.Class⟩, ⟨2, 48, (pt b1122 0), c_weirlaw18_Op.val x1121⟩]) (by kernel_rfl) (by kernel_rfl) Ty3 (by kernel_rfl) rfl (At_weirlaw18_Op_Item x1121) (by kernel_rfl) rfl ?_
      refine OJ.call (d := 82) (g := 18) (ats := #[29, 3, 3, 3]) (args := [.tmp 75, .tmp 77, .tmp 79, .tmp 81]) (vals := [.pointer r1.1, .int .i64 x1121.Class, .int .i64 x1121.Size, .int .i64 x1121.Item]) (owed := [⟨2, 48, (pt b1122 0), c_weirlaw18_Op.val x1121⟩]) (by kernel_rfl) F18 (by kernel_rfl) (queue_Queue_Push_ok r1.1 x1121.Class x1121.Size x1121.Item) (by kernel_rfl) (by kernel_rfl) (by kernel_rfl) (fun r1305 => ?_)
      refine OW.known (j := 0) (q := x1121) Ty48 rfl (At.whole _) ?_
      refine OW.nil ?_
      refine OJ.call (d := 83) (g := 17) (ats := #[35]) (args := [.tmp 82]) (vals := [.int .i64 r1305]) (owed := [⟨2, 48, (pt b1122 0), c_weirlaw18_Op.val x1121⟩]) (by kernel_rfl) F17 (by kernel_rfl) (weirlaw18_num_ok r1305) (by kernel_rfl) (by kernel_rfl) (by kernel_rfl) (fun r1306 => ?_)
      refine OW.known (j := 0) (q := x1121) Ty48 rfl (At.whole _) ?_
      refine OW.nil ?_
      refine OJ.call (d := 84) (g := 21) (ats := #[32, 27, 48, 3]) (args := [.tmp 72, .tmp 73, .tmp 74, .tmp 83]) (vals := [.pointer r2, Sl.v r1.2, c_weirlaw18_Op.val x1121, .int .i64 r1306]) (owed := []) (by kernel_rfl) F21 (by kernel_rfl) (weirlaw18_Book_pushed_ok r2 r1.2 x1121 r1306) (by kernel_rfl) (by kernel_rfl) (by kernel_rfl) (fun r1307 => ?_)
      refine OW.nil ?_
      refine OJ.nil ?_
      refine SJ.forget (List.Sublist.cons _ List.Sublist.slnil) ?_
      refine SJ.less [0, 1, 2, 7, 8, 9, 11, 12, 13] (m' := [(0, Sl.v r1.2), (1, Sl.v a1), (2, .int .i64 a2), (7, .pointer r1.1), (8, .pointer r2), (9, .pointer r3), (11, Sl.v r8), (12, .int .i64 s9), (13, .int .i64 s750)]) (by kernel_rfl) ?_
      exact weirlaw18_QueueEven.K1_ok a1 a2 r1 r2 r3 r8 s9 s750
    · refine SJ.seq (by kernel_rfl) ?_
      refine SJ.region (id := 22) (by kernel_rfl) [0, 1] (by kernel_rfl) ?_
      refine OJ.run [0, 1] [] [0, 1, 2, 7, 8, 9, 11, 12, 13, 69, 85] (m2 := [(0, Sl.v r1.2), (1, Sl.v a1), (2, .int .i64 a2), (7, .pointer r1.1), (8, .pointer r2), (9, .pointer r3), (11, Sl.v r8), (12, .int .i64 s9), (13, .int .i64 s750), (69, .int .i64 x1121.Kind), (85, .bool (x1121.Kind == 4))]) (by kernel_rfl) (by kernel_rfl) ?_
      refine OJ.nil ?_
      refine SJ.cond (t := (.tmp 85)) (b := (x1121.Kind == 4)) (by kernel_rfl) (by kernel_rfl) beq_iff_eq (fun hc1486 => ?_) (fun hc1486 => ?_)
      · refine SJ.seq (by kernel_rfl) ?_
        refine SJ.region (id := 23) (by kernel_rfl) [0, 1] (by kernel_rfl) ?_
        refine OJ.run [0] [1] [0, 1, 2, 7, 8, 9, 11, 12, 13, 87] (m2 := [(0, Sl.v r1.2), (1, Sl.v a1), (2, .int .i64 a2), (7, .pointer r1.1), (8, .pointer r2), (9, .pointer r3), (11, Sl.v r8), (12, .int .i64 s9), (13, .int .i64 s750), (87, .pointer r1.1)]) (by kernel_rfl) (by kernel_rfl) ?_
        refine OJ.call (d := 88) (g := 26) (ats := #[29]) (args := [.tmp 87]) (vals := [.pointer r1.1]) (owed := []) (by kernel_rfl) F26 (by kernel_rfl) (queue_Queue_Tick_ok r1.1) (by kernel_rfl) (by kernel_rfl) (by kernel_rfl) (fun r1397 => ?_)
        refine OW.nil ?_
        refine OJ.nil ?_
        refine SJ.region (id := 24) (by kernel_rfl) [0, 1, 2] (by kernel_rfl) ?_
        refine OJ.run [0, 1] [2] [0, 1, 2, 7, 8, 9, 11, 12, 13, 89, 90] (m2 := [(0, Sl.v r1.2), (1, Sl.v a1), (2, .int .i64 a2), (7, .pointer r1.1), (8, .pointer r2), (9, .pointer r3), (11, Sl.v r8), (12, .int .i64 s9), (13, .int .i64 s750), (89, .pointer r3), (90, Sl.v r1.2)]) (by kernel_rfl) (by kernel_rfl) ?_
        refine OJ.call (d := 91) (g := 27) (ats := #[54, 27]) (args := [.tmp 89, .tmp 90]) (vals := [.pointer r3, Sl.v r1.2]) (owed := []) (by kernel_rfl) F27 (by kernel_rfl) (weirlaw18_Purse_tick_ok r3 r1.2) (by kernel_rfl) (by kernel_rfl) (by kernel_rfl) (fun r1398 => ?_)
        refine OW.nil ?_
        refine OJ.nil ?_
        refine SJ.forget (List.Sublist.cons _ List.Sublist.slnil) ?_
        refine SJ.less [0, 1, 2, 7, 8, 9, 11, 12, 13] (m' := [(0, Sl.v r1.2), (1, Sl.v a1), (2, .int .i64 a2), (7, .pointer r1.1), (8, .pointer r2), (9, .pointer r3), (11, Sl.v r8), (12, .int .i64 s9), (13, .int .i64 s750)]) (by kernel_rfl) ?_
        exact weirlaw18_QueueEven.K1_ok a1 a2 r1 r2 r3 r8 s9 s750
      · refine SJ.seq (by kernel_rfl) ?_
        refine SJ.region (id := 25) (by kernel_rfl) [0, 1] (by kernel_rfl) ?_
        refine OJ.run [0, 1] [] [0, 1, 2, 7, 8, 9, 11, 12, 13, 92] (m2 := [(0, Sl.v r1.2), (1, Sl.v a1), (2, .int .i64 a2), (7, .pointer r1.1), (8, .pointer r2), (9, .pointer r3), (11, Sl.v r8), (12, .int .i64 s9), (13, .int .i64 s750), (92, .bool (x1121.Kind == 2))]) (by kernel_rfl) (by kernel_rfl) ?_
        refine OJ.nil ?_
        refine SJ.cond (t := (.tmp 92)) (b := (x1121.Kind == 2)) (by kernel_rfl) (by kernel_rfl) beq_iff_eq (fun hc1485 => ?_) (fun hc1485 => ?_)
        · refine SJ.seq (by kernel_rfl) ?_
          refine SJ.region (id := 26) (by kernel_rfl) [0, 1, 2, 3, 4] (by kernel_rfl) ?_
          refine OJ.run [0, 1, 2] [3, 4] [0, 1, 2, 7, 8, 9, 11, 12, 13, 94, 95, 96] (m2 := [(0, Sl.v r1.2), (1, Sl.v a1), (2, .int .i64 a2), (7, .pointer r1.1), (8, .pointer r2), (9, .pointer r3), (11, Sl.v r8), (12, .int .i64 s9), (13, .int .i64 s750), (94, Sl.v r1.2), (95, .pointer r2), (96, .pointer r3)]) (by kernel_rfl) (by kernel_rfl) ?_
          refine OJ.call (d := 97) (g := 28) (ats := #[27, 32, 54]) (args := [.tmp 94, .tmp 95, .tmp 96]) (vals := [Sl.v r1.2, .pointer r2, .pointer r3]) (owed := []) (by kernel_rfl) F28 (by kernel_rfl) (weirlaw18_all_ok r1.2 r2 r3) (by kernel_rfl) (by kernel_rfl) (by kernel_rfl) (fun r1442 => ?_)
          refine OW.nil ?_
          refine OJ.run [4] [] [0, 1, 2, 7, 8, 9, 11, 12, 13, 15] (m2 := [(0, Sl.v r1.2), (1, Sl.v a1), (2, .int .i64 a2), (7, .pointer r1.1), (8, .pointer r2), (9, .pointer r3), (11, Sl.v r8), (12, .int .i64 s9), (13, .int .i64 s750), (15, Sl.v r1442)]) (by kernel_rfl) (by kernel_rfl) ?_
          refine OJ.nil ?_
          refine SJ.seq (by kernel_rfl) ?_
          refine SJ.region (id := 27) (by kernel_rfl) [0, 1, 2, 3, 4, 5, 6, 7, 8] (by kernel_rfl) ?_
          refine OJ.run [0] [1, 2, 3, 4, 5, 6, 7, 8] [0, 1, 2, 7, 8, 9, 11, 12, 13, 15, 99] (m2 := [(0, Sl.v r1.2), (1, Sl.v a1), (2, .int .i64 a2), (7, .pointer r1.1), (8, .pointer r2), (9, .pointer r3), (11, Sl.v r8), (12, .int .i64 s9), (13, .int .i64 s750), (15, Sl.v r1442), (99, .pointer r1.1)]) (by kernel_rfl) (by kernel_rfl) ?_
          refine OJ.call (d := 100) (g := 19) (ats := #[29]) (args := [.tmp 99]) (vals := [.pointer r1.1]) (owed := []) (by kernel_rfl) F19 (by kernel_rfl) (queue_Queue_Pop_ok r1.1) (by kernel_rfl) (by kernel_rfl) (by kernel_rfl) (fun r1443 => ?_)
          refine OW.nil ?_
          refine OJ.run [2, 3, 4, 5, 6, 7, 8] [] [0, 1, 2, 7, 8, 9, 11, 12, 13, 15, 16, 17, 18] (m2 := [(0, Sl.v r1.2), (1, Sl.v a1), (2, .int .i64 a2), (7, .pointer r1.1), (8, .pointer r2), (9, .pointer r3), (11, Sl.v r8), (12, .int .i64 s9), (13, .int .i64 s750), (15, Sl.v r1442), (16, .int .i64 r1443.1), (17, .int .i64 r1443.2.1), (18, .bool r1443.2.2)]) (by kernel_rfl) (by kernel_rfl) ?_
          refine OJ.nil ?_
          refine SJ.seq (by kernel_rfl) ?_
          refine SJ.seq (by kernel_rfl) ?_
          refine SJ.region (id := 28) (by kernel_rfl) [0, 1] (by kernel_rfl) ?_
          refine OJ.run [0, 1] [] [0, 1, 2, 7, 8, 9, 11, 12, 13, 15, 16, 17, 105] (m2 := [(0, Sl.v r1.2), (1, Sl.v a1), (2, .int .i64 a2), (7, .pointer r1.1), (8, .pointer r2), (9, .pointer r3), (11, Sl.v r8), (12, .int .i64 s9), (13, .int .i64 s750), (15, Sl.v r1442), (16, .int .i64 r1443.1), (17, .int .i64 r1443.2.1), (105, .bool (!r1443.2.2))]) (by kernel_rfl) (by kernel_rfl) ?_
          refine OJ.nil ?_
          refine SJ.cond (t := (.tmp 105)) (b := (!r1443.2.2)) (by kernel_rfl) (by kernel_rfl) (bnot_iff Iff.rfl) (fun hc1484 => ?_) (fun hc1484 => ?_)
          · refine SJ.exit (id := 3) (by kernel_rfl) (by rfl) ?_
            refine SJ.region (id := 17) (by kernel_rfl) [0, 1, 2] (by kernel_rfl) ?_
            refine OJ.run [0, 1, 2] [] [0, 1, 2, 7, 8, 9, 11, 12, 13] (m2 := [(0, Sl.v r1.2), (1, Sl.v a1), (2, .int .i64 a2), (7, .pointer r1.1), (8, .pointer r2), (9, .pointer r3), (11, Sl.v r8), (12, .int .i64 s9), (13, .int .i64 (IntKind.wrap .i64 (s750 + 1)))]) (by kernel_rfl) (by kernel_rfl) ?_
            refine OJ.nil ?_
            refine SJ.forget (List.Sublist.cons _ List.Sublist.slnil) ?_
            exact SJ.at_ [0, 1, 2, 7, 8, 9, 11, 12, 13] rfl (by kernel_rfl)
          · refine SJ.skip (by kernel_rfl) ?_
            refine SJ.seq (by kernel_rfl) ?_
            refine SJ.region (id := 29) (by kernel_rfl) [0] (by kernel_rfl) ?_
            refine OJ.run [0] [] [0, 1, 2, 7, 8, 9, 11, 12, 13, 15, 16, 17, 19] (m2 := [(0, Sl.v r1.2), (1, Sl.v a1), (2, .int .i64 a2), (7, .pointer r1.1), (8, .pointer r2), (9, .pointer r3), (11, Sl.v r8), (12, .int .i64 s9), (13, .int .i64 s750), (15, Sl.v r1442), (16, .int .i64 r1443.1), (17, .int .i64 r1443.2.1), (19, .int .i64 0)]) (by kernel_rfl) (by kernel_rfl) ?_
            refine OJ.nil ?_
            refine SJ.seq (by kernel_rfl) ?_
            refine SJ.seq (by kernel_rfl) ?_
            refine SJ.region (id := 30) (by kernel_rfl) [0, 1, 2, 3, 4, 5, 6, 7] (by kernel_rfl) ?_
            refine OJ.run [0, 1, 2] [3, 4, 5, 6, 7] [0, 1, 2, 7, 8, 9, 11, 12, 13, 15, 16, 17, 19, 108] (m2 := [(0, Sl.v r1.2), (1, Sl.v a1), (2, .int .i64 a2), (7, .pointer r1.1), (8, .pointer r2), (9, .pointer r3), (11, Sl.v r8), (12, .int .i64 s9), (13, .int .i64 s750), (15, Sl.v r1442), (16, .int .i64 r1443.1), (17, .int .i64 r1443.2.1), (19, .int .i64 0), (108, .bool (decide (r1443.2.1 ≥ 0)))]) (by kernel_rfl) (by kernel_rfl) ?_
            refine OJ.join (b := decide (r1443.2.1 ≥ 0)) [3, 4, 5, 6, 7] [] [0, 1, 2, 7, 8, 9, 11, 12, 13, 15, 16, 17, 19, 113] (fun y1444 => [(0, Sl.v r1.2), (1, Sl.v a1), (2, .int .i64 a2), (7, .pointer r1.1), (8, .pointer r2), (9, .pointer r3), (11, Sl.v r8), (12, .int .i64 s9), (13, .int .i64 s750), (15, Sl.v r1442), (16, .int .i64 r1443.1), (17, .int .i64 r1443.2.1), (19, .int .i64 0), (113, .bool y1444)]) [] [] (by kernel_rfl) (t := 108) (by kernel_rfl) decide_eq_true_iff (fun hp_ => ?_) (fun hp_ => ?_) (by kernel_rfl) (fun _ _ _ _ _ _ h_ => h_) (fun y1444 => ?_)
            · refine OJ.run [3, 4, 5, 6, 7] [] [0, 1, 2, 7, 8, 9, 11, 12, 13, 15, 16, 17, 19, 113] (m2 := [(0, Sl.v r1.2), (1, Sl.v a1), (2, .int .i64 a2), (7, .pointer r1.1), (8, .pointer r2), (9, .pointer r3), (11, Sl.v r8), (12, .int .i64 s9), (13, .int .i64 s750), (15, Sl.v r1442), (16, .int .i64 r1443.1), (17, .int .i64 r1443.2.1), (19, .int .i64 0), (113, .bool (decide (r1443.2.1 < (r1.2.len : Int))))]) (by kernel_rfl) (by kernel_rfl) ?_
              exact OJ.nil ⟨(Cov.mem Cov.nil), rfl, _, rfl, by kernel_rfl⟩
            · refine OJ.run [3, 4, 5, 6, 7] [] [0, 1, 2, 7, 8, 9, 11, 12, 13, 15, 16, 17, 19, 113] (m2 := [(0, Sl.v r1.2), (1, Sl.v a1), (2, .int .i64 a2), (7, .pointer r1.1), (8, .pointer r2), (9, .pointer r3), (11, Sl.v r8), (12, .int .i64 s9), (13, .int .i64 s750), (15, Sl.v r1442), (16, .int .i64 r1443.1), (17, .int .i64 r1443.2.1), (19, .int .i64 0), (113, .bool false)]) (by kernel_rfl) (by kernel_rfl) ?_
              exact OJ.nil ⟨(Cov.mem Cov.nil), rfl, _, rfl, by kernel_rfl⟩
            · refine OJ.nil ?_
              refine SJ.cond (t := (.tmp 113)) (b := y1444) (by kernel_rfl) (by kernel_rfl) Iff.rfl (fun hc1483 => ?_) (fun hc1483 => ?_)
              · refine SJ.region (id := 31) (by kernel_rfl) [0, 1, 2, 3, 4, 5, 6, 7] (by kernel_rfl) ?_
                refine OJ.run [0] [1, 2, 3, 4, 5, 6, 7] [0, 1, 2, 7, 8, 9, 11, 12, 13, 15, 16, 17, 19, 114] (m2 := [(0, Sl.v r1.2), (1, Sl.v a1), (2, .int .i64 a2), (7, .pointer r1.1), (8, .pointer r2), (9, .pointer r3), (11, Sl.v r8), (12, .int .i64 s9), (13, .int .i64 s750), (15, Sl.v r1442), (16, .int .i64 r1443.1), (17, .int .i64 r1443.2.1), (19, .int .i64 0), (114, .pointer r2)]) (by kernel_rfl) (by kernel_rfl) ?_
                refine OJ.nilck (d := 115) (y := .tmp 114) (by kernel_rfl) (by kernel_rfl) (by kernel_rfl) (by kernel_rfl) (by kernel_rfl) (fun p1479 => ?_)
                refine OJ.run [2] [3, 4, 5, 6, 7] [0, 1, 2, 7, 8, 9, 11, 12, 13, 15, 16, 17, 19, 116] (m2 := [(0, Sl.v r1.2), (1, Sl.v a1), (2, .int .i64 a2), (7, .pointer r1.1), (8, .pointer r2), (9, .pointer r3), (11, Sl.v r8), (12, .int .i64 s9), (13, .int .i64 s750), (15, Sl.v r1442), (16, .int .i64 r1443.1), (17, .int .i64 r1443.2.1), (19, .int .i64 0), (116, .pointer (some (Addr.add p1479 2)))]) (by kernel_rfl) (by kernel_rfl) ?_
                refine OJ.ld (d := 117) (T := 28) (y := .tmp 116) (pend2 := fun x1480 => []) (by kernel_rfl) (by kernel_rfl) Ty28 (by kernel_rfl) (by kernel_rfl) (fun _ => rfl) (fun x1480 => ?_)
                refine OJ.run [4] [5, 6, 7] [0, 1, 2, 7, 8, 9, 11, 12, 13, 15, 16, 17, 19, 117, 118] (m2 := [(0, Sl.v r1.2), (1, Sl.v a1), (2, .int .i64 a2), (7, .pointer r1.1), (8, .pointer r2), (9, .pointer r3), (11, Sl.v r8), (12, .int .i64 s9), (13, .int .i64 s750), (15, Sl.v r1442), (16, .int .i64 r1443.1), (17, .int .i64 r1443.2.1), (19, .int .i64 0), (117, Sl.v x1480), (118, .int .i64 r1443.2.1)]) (by kernel_rfl) (by kernel_rfl) ?_
                refine OJ.idxS (d := 119) (T := 28) (y := .tmp 117) (j := .tmp 118) (E := 3) (cap := x1480.cap) (k := .i64) (by kernel_rfl) (by kernel_rfl) (by kernel_rfl) (by kernel_rfl) (by kernel_rfl) (by kernel_rfl) (by kernel_rfl) (by kernel_rfl) (fun p1481 => ?_)
                refine OJ.ld (d := 120) (T := 3) (y := .tmp 119) (pend2 := fun x1482 => []) (by kernel_rfl) (by kernel_rfl) Ty3 (by kernel_rfl) (by kernel_rfl) (fun _ => rfl) (fun x1482 => ?_)
                refine OJ.run [7] [] [0, 1, 2, 7, 8, 9, 11, 12, 13, 15, 16, 17, 19] (m2 := [(0, Sl.v r1.2), (1, Sl.v a1), (2, .int .i64 a2), (7, .pointer r1.1), (8, .pointer r2), (9, .pointer r3), (11, Sl.v r8), (12, .int .i64 s9), (13, .int .i64 s750), (15, Sl.v r1442), (16, .int .i64 r1443.1), (17, .int .i64 r1443.2.1), (19, .int .i64 x1482)]) (by kernel_rfl) (by kernel_rfl) ?_
                refine OJ.nil ?_
                refine SJ.forget (List.Sublist.cons _ List.Sublist.slnil) ?_
                refine SJ.less [0, 1, 2, 7, 8, 9, 11, 12, 13, 15, 16, 17, 19] (m' := [(0, Sl.v r1.2), (1, Sl.v a1), (2, .int .i64 a2), (7, .pointer r1.1), (8, .pointer r2), (9, .pointer r3), (11, Sl.v r8), (12, .int .i64 s9), (13, .int .i64 s750), (15, Sl.v r1442), (16, .int .i64 r1443.1), (17, .int .i64 r1443.2.1), (19, .int .i64 x1482)]) (by kernel_rfl) ?_
                exact weirlaw18_QueueEven.K2_ok a1 a2 r1 r2 r3 r8 s9 s750 r1442 r1443 x1482
              · refine SJ.skip (by kernel_rfl) ?_
                refine SJ.forget (List.Sublist.cons _ List.Sublist.slnil) ?_
                refine SJ.less [0, 1, 2, 7, 8, 9, 11, 12, 13, 15, 16, 17, 19] (m' := [(0, Sl.v r1.2), (1, Sl.v a1), (2, .int .i64 a2), (7, .pointer r1.1), (8, .pointer r2), (9, .pointer r3), (11, Sl.v r8), (12, .int .i64 s9), (13, .int .i64 s750), (15, Sl.v r1442), (16, .int .i64 r1443.1), (17, .int .i64 r1443.2.1), (19, .int .i64 0)]) (by kernel_rfl) ?_
                exact weirlaw18_QueueEven.K2_ok a1 a2 r1 r2 r3 r8 s9 s750 r1442 r1443 0
        · refine SJ.skip (by kernel_rfl) ?_
          refine SJ.forget (List.Sublist.cons _ List.Sublist.slnil) ?_
          refine SJ.less [0, 1, 2, 7, 8, 9, 11, 12, 13] (m' := [(0, Sl.v r1.2), (1, Sl.v a1), (2, .int .i64 a2), (7, .pointer r1.1), (8, .pointer r2), (9, .pointer r3), (11, Sl.v r8), (12, .int .i64 s9), (13, .int .i64 s750)]) (by kernel_rfl) ?_
          exact weirlaw18_QueueEven.K1_ok a1 a2 r1 r2 r3 r8 s9 s750
  · refine SJ.exit (id := 2) (by kernel_rfl) (by rfl) ?_
    refine SJ.inBlock ?_
    refine SJ.region (id := 14) (by kernel_rfl) [0, 1, 2] (by kernel_rfl) ?_
    refine OJ.run [0, 1, 2] [] [0, 1, 2, 7, 8, 9, 11, 12] (m2 := [(0, Sl.v r1.2), (1, Sl.v a1), (2, .int .i64 a2), (7, .pointer r1.1), (8, .pointer r2), (9, .pointer r3), (11, Sl.v r8), (12, .int .i64 (IntKind.wrap .i64 (s9 + 1)))]) (by kernel_rfl) (by kernel_rfl) ?_
    refine OJ.nil ?_
    exact SJ.at_ [0, 1, 2, 7, 8, 9, 11, 12] rfl (by kernel_rfl)
noncomputable def weirlaw18_QueueEven.L1 (a1 : Sl) (a2 : Int) (r1 : ((Option Addr) × Sl)) (r2 : (Option Addr)) (r3 : (Option Addr)) (r8 : Sl) (s9 : Int) : M (LS Int Bool) :=
  if s9 < (IntKind.wrap .i64 (1 + (band .i64 a2 31))) then
    loopM (fun s_ : Int => weirlaw18_QueueEven.L2 a1 r1 r2 r3 r8 s9 s_) 0
  else
    pure (LS.done true)
theorem weirlaw18_QueueEven.L1_ok (a1 : Sl) (a2 : Int) (r1 : ((Option Addr) × Sl)) (r2 : (Option Addr)) (r3 : (Option Addr)) (r8 : Sl) (s9 : Int) :
    SJ weirlaw18_QueueEven.cx [.code (c1 (c1 (c2 (c1 (c2 (c2 (c2 (c2 (c2 (c2 (c2 (c2 (c2 weirlaw18_QueueEven.B))))))))))))), .inLoop (c1 (c1 (c2 (c1 (c2 (c2 (c2 (c2 (c2 (c2 (c2 (c2 (c2 weirlaw18_QueueEven.B))))))))))))), .inBlock 0, .code (c2 (c2 (c2 (c2 (c2 (c2 (c2 (c2 (c2 (c2 weirlaw18_QueueEven.B))))))))))] [(0, Sl.v r1.2), (1, Sl.v a1), (2, .int .i64 a2), (7, .pointer r1.1), (8, .pointer r2), (9, .pointer r3), (11, Sl.v r8), (12, .int .i64 s9)] [] (weirlaw18_QueueEven.L1 a1 a2 r1 r2 r3 r8 s9) (weirlaw18_QueueEven.F1 a1 a2 r1 r2 r3 r8) := by
  unfold weirlaw18_QueueEven.L1
  refine SJ.seq (by kernel_rfl) ?_
  refine SJ.seq (by kernel_rfl) ?_
  refine SJ.region (id := 13) (by kernel_rfl) [0, 1, 2, 3, 4] (by kernel_rfl) ?_
  refine OJ.run [0, 1, 2, 3, 4] [] [0, 1, 2, 7, 8, 9, 11, 12, 55] (m2 := [(0, Sl.v r1.2), (1, Sl.v a1), (2, .int .i64 a2), (7, .pointer r1.1), (8, .pointer r2), (9, .pointer r3), (11, Sl.v r8), (12, .int .i64 s9), (55, .bool (decide (s9 < (IntKind.wrap .i64 (1 + (band .i64 a2 31))))))]) (by kernel_rfl) (by kernel_rfl) ?_
  refine OJ.nil ?_
  refine SJ.cond (t := (.tmp 55)) (b := decide (s9 < (IntKind.wrap .i64 (1 + (band .i64 a2 31))))) (by kernel_rfl) (by kernel_rfl) decide_eq_true_iff (fun hc1489 => ?_) (fun hc1489 => ?_)
  · refine SJ.skip (by kernel_rfl) ?_
    refine SJ.seq (by kernel_rfl) ?_
    refine SJ.block (id := 1) (by kernel_rfl) ?_
    refine SJ.seq (by kernel_rfl) ?_
    refine SJ.region (id := 15) (by kernel_rfl) [0] (by kernel_rfl) ?_
    refine OJ.run [0] [] [0, 1, 2, 7, 8, 9, 11, 12, 13] (m2 := [(0, Sl.v r1.2), (1, Sl.v a1), (2, .int .i64 a2), (7, .pointer r1.1), (8, .pointer r2), (9, .pointer r3), (11, Sl.v r8), (12, .int .i64 s9), (13, .int .i64 0)]) (by kernel_rfl) (by kernel_rfl) ?_
    refine OJ.nil ?_
    refine SJ.block (id := 2) (by kernel_rfl) ?_
    exact SJ.loop (fun s_ : Int => [(0, Sl.v r1.2), (1, Sl.v a1), (2, .int .i64 a2), (7, .pointer r1.1), (8, .pointer r2), (9, .pointer r3), (11, Sl.v r8), (12, .int .i64 s9), (13, .int .i64 s_)]) (fun s_ : Int => []) [0, 1, 2, 7, 8, 9, 11, 12, 13] (by kernel_rfl) (by kernel_rfl) rfl (fun _ _ => rfl) (fun s_ => weirlaw18_QueueEven.L2_ok a1 a2 r1 r2 r3 r8 s9 s_)
  · refine SJ.exit (id := 0) (by kernel_rfl) (by rfl) ?_
    refine SJ.seq (by kernel_rfl) ?_
    refine SJ.region (id := 39) (by kernel_rfl) [0] (by kernel_rfl) ?_
    refine OJ.run [0] [] [6] (m2 := [(6, .bool true)]) (by kernel_rfl) (by kernel_rfl) ?_
    refine OJ.nil ?_
    exact SJ.ret (by kernel_rfl) rfl (Res.run (ys := [.bool true]) (.tmp (by kernel_rfl) .nil) rfl)
noncomputable def weirlaw18_QueueEven (a0 : Sl) (a1 : Sl) (a2 : Int) : M Bool :=
  weirlaw18_queueOf a0 >>= fun r1 =>
  if r1.1 = none then
    pure false
  else
    weirlaw18_book (r1.2.len : Int) >>= fun r2 =>
    weirlaw18_purse r1.2 >>= fun r3 =>
    slot 48 >>= fun b4 =>
    draw >>= fun _ =>
    queue_Queue_Push r1.1 0 1 (-4) >>= fun r5 =>
    weirlaw18_num r5 >>= fun r6 =>
    weirlaw18_Book_pushed r2 r1.2 (⟨z_weirlaw18_Op.Kind, z_weirlaw18_Op.Two, z_weirlaw18_Op.Class, 1, (-4)⟩ : weirlaw18_Op) r6 >>= fun r7 =>
    if ¬ (r7 = true) then
      pure false
    else
      if (a1.len : Int) > 100000 then
        pure true
      else
        mkS c_weirlaw18_Pair 111 16 z_weirlaw18_Pair (IntKind.wrap .i64 ((r1.2.len : Int) * (r1.2.len : Int))) (IntKind.wrap .i64 ((r1.2.len : Int) * (r1.2.len : Int))) >>= fun r8 =>
        loopM (fun s_ : Int => weirlaw18_QueueEven.L1 a1 a2 r1 r2 r3 r8 s_) 0
theorem weirlaw18_QueueEven_ok (a0 : Sl) (a1 : Sl) (a2 : Int) : Ref Try.prog 5 [Sl.v a0, Sl.v a1, .int .i64 a2] (weirlaw18_QueueEven a0 a1 a2) weirlaw18_QueueEven.out := by
  refine Ref.of (cd := weirlaw18_QueueEven.B) Try.func5 (by kernel_rfl) (by kernel_rfl) ?_
  show SJ weirlaw18_QueueEven.cx [.code weirlaw18_QueueEven.B] [(0, Sl.v a0), (1, Sl.v a1), (2, .int .i64 a2)] [] (weirlaw18_QueueEven a0 a1 a2) weirlaw18_QueueEven.F0
  unfold weirlaw18_QueueEven
  refine SJ.seq (by kernel_rfl) ?_
  refine SJ.region (id := 0) (by kernel_rfl) [0] (by kernel_rfl) ?_
  refine OJ.run [0] [] [0, 1, 2] (m2 := [(0, Sl.v a0), (1, Sl.v a1), (2, .int .i64 a2)]) (by kernel_rfl) (by kernel_rfl) ?_
  refine OJ.nil ?_
  refine SJ.seq (by kernel_rfl) ?_
  refine SJ.region (id := 1) (by kernel_rfl) [0, 1, 2, 3, 4, 5, 6] (by kernel_rfl) ?_
  refine OJ.run [0] [1, 2, 3, 4, 5, 6] [0, 1, 2, 22] (m2 := [(0, Sl.v a0), (1, Sl.v a1), (2, .int .i64 a2), (22, Sl.v a0)]) (by kernel_rfl) (by kernel_rfl) ?_
  refine OJ.call (d := 23) (g := 15) (ats := #[27]) (args := [.tmp 22]) (vals := [Sl.v a0]) (owed := []) (by kernel_rfl) F15 (by kernel_rfl) (weirlaw18_queueOf_ok a0) (by kernel_rfl) (by kernel_rfl) (by kernel_rfl) (fun r1 => ?_)
  refine OW.nil ?_
  refine OJ.run [2, 3, 4, 5, 6] [] [0, 1, 2, 7] (m2 := [(0, Sl.v r1.2), (1, Sl.v a1), (2, .int .i64 a2), (7, .pointer r1.1)]) (by kernel_rfl) (by kernel_rfl) ?_
  refine OJ.nil ?_
  refine SJ.seq (by kernel_rfl) ?_
  refine SJ.seq (by kernel_rfl) ?_
  refine SJ.region (id := 2) (by kernel_rfl) [0, 1] (by kernel_rfl) ?_
  refine OJ.run [0, 1] [] [0, 1, 2, 7, 27] (m2 := [(0, Sl.v r1.2), (1, Sl.v a1), (2, .int .i64 a2), (7, .pointer r1.1), (27, .bool (Option.isNone r1.1))]) (by kernel_rfl) (by kernel_rfl) ?_
  refine OJ.nil ?_
  refine SJ.cond (t := (.tmp 27)) (b := (Option.isNone r1.1)) (by kernel_rfl) (by kernel_rfl) Option.isNone_iff_eq_none (fun hc1492 => ?_) (fun hc1492 => ?_)
  · refine SJ.seq (by kernel_rfl) ?_
    refine SJ.region (id := 3) (by kernel_rfl) [0] (by kernel_rfl) ?_
    refine OJ.run [0] [] [6] (m2 := [(6, .bool false)]) (by kernel_rfl) (by kernel_rfl) ?_
    refine OJ.nil ?_
    exact SJ.ret (by kernel_rfl) rfl (Res.run (ys := [.bool false]) (.tmp (by kernel_rfl) .nil) rfl)
  · refine SJ.skip (by kernel_rfl) ?_
    refine SJ.seq (by kernel_rfl) ?_
    refine SJ.region (id := 4) (by kernel_rfl) [0, 1, 2, 3] (by kernel_rfl) ?_
    refine OJ.run [0, 1] [2, 3] [0, 1, 2, 7, 29] (m2 := [(0, Sl.v r1.2), (1, Sl.v a1), (2, .int .i64 a2), (7, .pointer r1.1), (29, .int .i64 (r1.2.len : Int))]) (by kernel_rfl) (by kernel_rfl) ?_
    refine OJ.call (d := 30) (g := 16) (ats := #[3]) (args := [.tmp 29]) (vals := [.int .i64 (r1.2.len : Int)]) (owed := []) (by kernel_rfl) F16 (by kernel_rfl) (weirlaw18_book_ok (r1.2.len : Int)) (by kernel_rfl) (by kernel_rfl) (by kernel_rfl) (fun r2 => ?_)
    refine OW.nil ?_
    refine OJ.run [3] [] [0, 1, 2, 7, 8] (m2 := [(0, Sl.v r1.2), (1, Sl.v a1), (2, .int .i64 a2), (7, .pointer r1.1), (8, .pointer r2)]) (by kernel_rfl) (by kernel_rfl) ?_
    refine OJ.nil ?_
    refine SJ.seq (by kernel_rfl) ?_
    refine SJ.region (id := 5) (by kernel_rfl) [0, 1, 2] (by kernel_rfl) ?_
    refine OJ.run [0] [1, 2] [0, 1, 2, 7, 8, 31] (m2 := [(0, Sl.v r1.2), (1, Sl.v a1), (2, .int .i64 a2), (7, .pointer r1.1), (8, .pointer r2), (31, Sl.v r1.2)]) (by kernel_rfl) (by kernel_rfl) ?_
    refine OJ.call (d := 32) (g := 25) (ats := #[27]) (args := [.tmp 31]) (vals := [Sl.v r1.2]) (owed := []) (by kernel_rfl) F25 (by kernel_rfl) (weirlaw18_purse_ok r1.2) (by kernel_rfl) (by kernel_rfl) (by kernel_rfl) (fun r3 => ?_)
    refine OW.nil ?_
    refine OJ.run [2] [] [0, 1, 2, 7, 8, 9] (m2 := [(0, Sl.v r1.2), (1, Sl.v a1), (2, .int .i64 a2), (7, .pointer r1.1), (8, .pointer r2), (9, .pointer r3)]) (by kernel_rfl) (by kernel_rfl) ?_
    refine OJ.nil ?_
    refine SJ.seq (by kernel_rfl) ?_
    refine SJ.region (id := 6) (by kernel_rfl) [0, 1, 2] (by kernel_rfl) ?_
    refine OJ.build (d := 33) (T := 48) (parts := [(3, .const (.int .i64 1)), (4, .const (.int .i64 (-4)))]) (ps := [(3, (cI .i64).val 1), (4, (cI .i64).val (-4))]) (cd := c_weirlaw18_Op) (z0 := z_weirlaw18_Op) (⟨z_weirlaw18_Op.Kind, z_weirlaw18_Op.Two, z_weirlaw18_Op.Class, 1, (-4)⟩ : weirlaw18_Op) (by kernel_rfl) (by kernel_rfl) Ty48 rfl (by kernel_rfl) (Filled.cons (cd := (cI .i64)) (q := 1) (o := 3) (by kernel_rfl) (Up_weirlaw18_Op_Size z_weirlaw18_Op 1) (Filled.cons (cd := (cI .i64)) (q := (-4)) (o := 4) (by kernel_rfl) (Up_weirlaw18_Op_Item (⟨z_weirlaw18_Op.Kind, z_weirlaw18_Op.Two, z_weirlaw18_Op.Class, 1, z_weirlaw18_Op.Item⟩ : weirlaw18_Op) (-4)) Filled.nil)) (by kernel_rfl) (by kernel_rfl) (by kernel_rfl) ?_
    refine OJ.slotOf (d := 10) (op := (.alloc 48)) (cd := c_weirlaw18_Op) (u := z_weirlaw18_Op) (owed := []) (by kernel_rfl) (alloc_run Ty48) (by kernel_rfl) (by kernel_rfl) (by kernel_rfl) (fun b4 => ?_)
    refine OW.nil ?_
    refine OJ.kst (T := 48) (y := .tmp 10) (z := .tmp 33) (cd := c_weirlaw18_Op) (u := (⟨z_weirlaw18_Op.Kind, z_weirlaw18_Op.Two, z_weirlaw18_Op.Class, 1, (-4)⟩ : weirlaw18_Op)) (j := 0) (b := b4) (o := 0) (c_weirlaw18_Op.enc (⟨z_weirlaw18_Op.Kind, z_weirlaw18_Op.Two, z_weirlaw18_Op.Class, 1, (-4)⟩ : weirlaw18_Op)) (h2 := [(b4, c_weirlaw18_Op.enc (⟨z_weirlaw18_Op.Kind, z_weirlaw18_Op.Two, z_weirlaw18_Op.Class, 1, (-4)⟩ : weirlaw18_Op))]) (owed := []) (by kernel_rfl) (by kernel_rfl) (by kernel_rfl) Ty48 rfl (Upd.whole ((Cod.len _ _).trans (Cod.len _ _).symm)) (by kernel_rfl) (by kernel_rfl) rfl ?_
    refine OW.nil ?_
    refine OJ.nil ?_
    refine SJ.seq (by kernel_rfl) ?_
    refine SJ.seq (by kernel_rfl) ?_
    refine SJ.draw (id := 7) (kd := [0, 0, 1, 0, 2, 2, 2, 0]) (bef := [0, 0, 0, 0, 8, 24, 63, 127]) (ord := [0, 1, 2, 3, 4, 5, 6, 7]) (by kernel_rfl) mixed (by kernel_rfl) ?_
    refine OJ.run [0, 1] [2, 3, 4, 5, 6, 7] [0, 1, 2, 7, 8, 9, 10, 34, 35] (m2 := [(0, Sl.v r1.2), (1, Sl.v a1), (2, .int .i64 a2), (7, .pointer r1.1), (8, .pointer r2), (9, .pointer r3), (10, .pointer (some (pt b4 0))), (34, .pointer r2), (35, Sl.v r1.2)]) (by kernel_rfl) (by kernel_rfl) ?_
    refine OJ.kld (d := 36) (T := 48) (y := .tmp 10) (cd := c_weirlaw18_Op) (j := 0) (b := b4) (o := 0) (⟨z_weirlaw18_Op.Kind, z_weirlaw18_Op.Two, z_weirlaw18_Op.Class, 1, (-4)⟩ : weirlaw18_Op) (pend2 := [⟨2, 48, (pt b4 0), c_weirlaw18_Op.val (⟨z_weirlaw18_Op.Kind, z_weirlaw18_Op.Two, z_weirlaw18_Op.Class, 1, (-4)⟩ : weirlaw18_Op)⟩]) (by kernel_rfl) (by kernel_rfl) Ty48 (by kernel_rfl) rfl (At.whole _) (by kernel_rfl) rfl ?_
    refine OJ.run [3] [4, 5, 6, 7] [0, 1, 2, 7, 8, 9, 34, 35, 36, 37] (m2 := [(0, Sl.v r1.2), (1, Sl.v a1), (2, .int .i64 a2), (7, .pointer r1.1), (8, .pointer r2), (9, .pointer r3), (34, .pointer r2), (35, Sl.v r1.2), (36, c_weirlaw18_Op.val (⟨z_weirlaw18_Op.Kind, z_weirlaw18_Op.Two, z_weirlaw18_Op.Class, 1, (-4)⟩ : weirlaw18_Op)), (37, .pointer r1.1)]) (by kernel_rfl) (by kernel_rfl) ?_
    refine OJ.call (d := 38) (g := 18) (ats := #[29, 3, 3, 3]) (args := [.tmp 37, .const (.int .i64 0), .const (.int .i64 1), .const (.int .i64 (-4))]) (vals := [.pointer r1.1, .int .i64 0, .int .i64 1, .int .i64 (-4)]) (owed := [⟨2, 48, (pt b4 0), c_weirlaw18_Op.val (⟨z_weirlaw18_Op.Kind, z_weirlaw18_Op.Two, z_weirlaw18_Op.Class, 1, (-4)⟩ : weirlaw18_Op)⟩]) (by kernel_rfl) F18 (by kernel_rfl) (queue_Queue_Push_ok r1.1 0 1 (-4)) (by kernel_rfl) (by kernel_rfl) (by kernel_rfl) (fun r5 => ?_)
    refine OW.known (j := 0) (q := (⟨z_weirlaw18_Op.Kind, z_weirlaw18_Op.Two, z_weirlaw18_Op.Class, 1, (-4)⟩ : weirlaw18_Op)) Ty48 rfl (At.whole _) ?_
    refine OW.nil ?_
    refine OJ.call (d := 39) (g := 17) (ats := #[35]) (args := [.tmp 38]) (vals := [.int .i64 r5]) (owed := [⟨2, 48, (pt b4 0), c_weirlaw18_Op.val (⟨z_weirlaw18_Op.Kind, z_weirlaw18_Op.Two, z_weirlaw18_Op.Class, 1, (-4)⟩ : weirlaw18_Op)⟩]) (by kernel_rfl) F17 (by kernel_rfl) (weirlaw18_num_ok r5) (by kernel_rfl) (by kernel_rfl) (by kernel_rfl) (fun r6 => ?_)
    refine OW.known (j := 0) (q := (⟨z_weirlaw18_Op.Kind, z_weirlaw18_Op.Two, z_weirlaw18_Op.Class, 1, (-4)⟩ : weirlaw18_Op)) Ty48 rfl (At.whole _) ?_
    refine OW.nil ?_
    refine OJ.call (d := 40) (g := 21) (ats := #[32, 27, 48, 3]) (args := [.tmp 34, .tmp 35, .tmp 36, .tmp 39]) (vals := [.pointer r2, Sl.v r1.2, c_weirlaw18_Op.val (⟨z_weirlaw18_Op.Kind, z_weirlaw18_Op.Two, z_weirlaw18_Op.Class, 1, (-4)⟩ : weirlaw18_Op), .int .i64 r6]) (owed := []) (by kernel_rfl) F21 (by kernel_rfl) (weirlaw18_Book_pushed_ok r2 r1.2 (⟨z_weirlaw18_Op.Kind, z_weirlaw18_Op.Two, z_weirlaw18_Op.Class, 1, (-4)⟩ : weirlaw18_Op) r6) (by kernel_rfl) (by kernel_rfl) (by kernel_rfl) (fun r7 => ?_)
    refine OW.nil ?_
    refine OJ.run [7] [] [0, 1, 2, 7, 8, 9, 41] (m2 := [(0, Sl.v r1.2), (1, Sl.v a1), (2, .int .i64 a2), (7, .pointer r1.1), (8, .pointer r2), (9, .pointer r3), (41, .bool (!r7))]) (by kernel_rfl) (by kernel_rfl) ?_
    refine OJ.nil ?_
    refine SJ.cond (t := (.tmp 41)) (b := (!r7)) (by kernel_rfl) (by kernel_rfl) (bnot_iff Iff.rfl) (fun hc1491 => ?_) (fun hc1491 => ?_)
    · refine SJ.seq (by kernel_rfl) ?_
      refine SJ.region (id := 8) (by kernel_rfl) [0] (by kernel_rfl) ?_
      refine OJ.run [0] [] [6] (m2 := [(6, .bool false)]) (by kernel_rfl) (by kernel_rfl) ?_
      refine OJ.nil ?_
      exact SJ.ret (by kernel_rfl) rfl (Res.run (ys := [.bool false]) (.tmp (by kernel_rfl) .nil) rfl)
    · refine SJ.skip (by kernel_rfl) ?_
      refine SJ.seq (by kernel_rfl) ?_
      refine SJ.seq (by kernel_rfl) ?_
      refine SJ.region (id := 9) (by kernel_rfl) [0, 1, 2] (by kernel_rfl) ?_
      refine OJ.run [0, 1, 2] [] [0, 1, 2, 7, 8, 9, 44] (m2 := [(0, Sl.v r1.2), (1, Sl.v a1), (2, .int .i64 a2), (7, .pointer r1.1), (8, .pointer r2), (9, .pointer r3), (44, .bool (decide ((a1.len : Int) > 100000)))]) (by kernel_rfl) (by kernel_rfl) ?_
      refine OJ.nil ?_
      refine SJ.cond (t := (.tmp 44)) (b := decide ((a1.len : Int) > 100000)) (by kernel_rfl) (by kernel_rfl) decide_eq_true_iff (fun hc1490 => ?_) (fun hc1490 => ?_)
      · refine SJ.seq (by kernel_rfl) ?_
        refine SJ.region (id := 10) (by kernel_rfl) [0] (by kernel_rfl) ?_
        refine OJ.run [0] [] [6] (m2 := [(6, .bool true)]) (by kernel_rfl) (by kernel_rfl) ?_
        refine OJ.nil ?_
        exact SJ.ret (by kernel_rfl) rfl (Res.run (ys := [.bool true]) (.tmp (by kernel_rfl) .nil) rfl)
      · refine SJ.skip (by kernel_rfl) ?_
        refine SJ.seq (by kernel_rfl) ?_
        refine SJ.region (id := 11) (by kernel_rfl) [0, 1, 2, 3, 4, 5, 6] (by kernel_rfl) ?_
        refine OJ.run [0, 1, 2, 3, 4] [5, 6] [0, 1, 2, 7, 8, 9, 49] (m2 := [(0, Sl.v r1.2), (1, Sl.v a1), (2, .int .i64 a2), (7, .pointer r1.1), (8, .pointer r2), (9, .pointer r3), (49, .int .i64 (IntKind.wrap .i64 ((r1.2.len : Int) * (r1.2.len : Int))))]) (by kernel_rfl) (by kernel_rfl) ?_
        refine OJ.mk (d := 50) (t := 56) (lo := .tmp 49) (ko := .tmp 49) (k1 := .i64) (k2 := .i64) (owed := []) (by kernel_rfl) (by kernel_rfl) Ty111 (by kernel_rfl) (by kernel_rfl) (by kernel_rfl) (by kernel_rfl) (by kernel_rfl) (by kernel_rfl) (fun r8 => ?_)
        refine OW.nil ?_
        refine OJ.run [6] [] [0, 1, 2, 7, 8, 9, 11] (m2 := [(0, Sl.v r1.2), (1, Sl.v a1), (2, .int .i64 a2), (7, .pointer r1.1), (8, .pointer r2), (9, .pointer r3), (11, Sl.v r8)]) (by kernel_rfl) (by kernel_rfl) ?_
        refine OJ.nil ?_
        refine SJ.seq (by kernel_rfl) ?_
        refine SJ.seq (by kernel_rfl) ?_
        refine SJ.region (id := 12) (by kernel_rfl) [0] (by kernel_rfl) ?_
        refine OJ.run [0] [] [0, 1, 2, 7, 8, 9, 11, 12] (m2 := [(0, Sl.v r1.2), (1, Sl.v a1), (2, .int .i64 a2), (7, .pointer r1.1), (8, .pointer r2), (9, .pointer r3), (11, Sl.v r8), (12, .int .i64 0)]) (by kernel_rfl) (by kernel_rfl) ?_
        refine OJ.nil ?_
        refine SJ.block (id := 0) (by kernel_rfl) ?_
        refine SJ.forget (List.Sublist.cons _ List.Sublist.slnil) ?_
        exact SJ.loop (fun s_ : Int => [(0, Sl.v r1.2), (1, Sl.v a1), (2, .int .i64 a2), (7, .pointer r1.1), (8, .pointer r2), (9, .pointer r3), (11, Sl.v r8), (12, .int .i64 s_)]) (fun s_ : Int => []) [0, 1, 2, 7, 8, 9, 11, 12] (by kernel_rfl) (by kernel_rfl) rfl (fun _ _ => rfl) (fun s_ => weirlaw18_QueueEven.L1_ok a1 a2 r1 r2 r3 r8 s_)
end Go.Proofs.Ytgddbpmfendaeaa.Lx
