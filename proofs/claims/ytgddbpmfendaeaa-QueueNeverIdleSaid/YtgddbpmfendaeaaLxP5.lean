/- Programs of the M-world for Go functions, each with the proof that the Go text does what it says. Printed by lxgen.py. -/
import Derived.Test.YtgddbpmfendaeaaLxT
import Derived.Test.YtgddbpmfendaeaaLxP0
import Derived.Test.YtgddbpmfendaeaaLxP1
import Derived.Test.YtgddbpmfendaeaaLxP2
import Derived.Test.YtgddbpmfendaeaaLxP3
import Derived.Test.YtgddbpmfendaeaaLxP4
set_option linter.unusedVariables false
set_option linter.unusedSimpArgs false
namespace Go.Proofs.Ytgddbpmfendaeaa.Lx
open Go Go.Proofs
/-! ### weir/weirlaw18.QueueNeverIdle: function 6 -/
noncomputable def weirlaw18_QueueNeverIdle.B : Code := (Try.f6.body).getD .skip
noncomputable def weirlaw18_QueueNeverIdle.cx : Fx := ⟨Try.prog, 6, Try.f6⟩
noncomputable def weirlaw18_QueueNeverIdle.out (r_ : Bool) : Value := .bool r_
noncomputable def weirlaw18_QueueNeverIdle.F0 (r_ : Bool) : Reach := .ret (weirlaw18_QueueNeverIdle.out r_)
noncomputable def weirlaw18_QueueNeverIdle.F1 (a1 : Sl) (r1 : ((Option Addr) × Sl)) (r2 : (Option Addr)) (r3 : (Option Addr)) : (LS (Int × Int) Bool) → Reach := loopF [.inLoop (c1 (c1 (c2 (c1 (c2 (c2 (c2 (c2 (c2 (c2 (c2 (c2 weirlaw18_QueueNeverIdle.B)))))))))))), .inBlock 0, .code (c2 (c2 (c2 (c2 (c2 (c2 (c2 (c2 (c2 weirlaw18_QueueNeverIdle.B)))))))))] (fun s_ : (Int × Int) => [(0, Sl.v r1.2), (1, Sl.v a1), (5, .pointer r1.1), (6, .pointer r2), (7, .pointer r3), (9, .int .i64 s_.1), (10, .int .i64 s_.2)]) (fun s_ : (Int × Int) => []) weirlaw18_QueueNeverIdle.F0
noncomputable def weirlaw18_QueueNeverIdle.K1 (s9 : Int) (j900 : Int) : M (LS (Int × Int) Bool) :=
  pure (LS.next (j900, IntKind.wrap .i64 (s9 + 1)))
theorem weirlaw18_QueueNeverIdle.K1_ok (a1 : Sl) (r1 : ((Option Addr) × Sl)) (r2 : (Option Addr)) (r3 : (Option Addr)) (s9 : Int) (j900 : Int) :
    SJ weirlaw18_QueueNeverIdle.cx [.inBlock 2, .inBlock 1, .code (c2 (c2 (c1 (c1 (c2 (c1 (c2 (c2 (c2 (c2 (c2 (c2 (c2 (c2 weirlaw18_QueueNeverIdle.B)))))))))))))), .inLoop (c1 (c1 (c2 (c1 (c2 (c2 (c2 (c2 (c2 (c2 (c2 (c2 weirlaw18_QueueNeverIdle.B)))))))))))), .inBlock 0, .code (c2 (c2 (c2 (c2 (c2 (c2 (c2 (c2 (c2 weirlaw18_QueueNeverIdle.B)))))))))] [(0, Sl.v r1.2), (1, Sl.v a1), (5, .pointer r1.1), (6, .pointer r2), (7, .pointer r3), (9, .int .i64 j900), (10, .int .i64 s9)] [] (weirlaw18_QueueNeverIdle.K1 s9 j900) (weirlaw18_QueueNeverIdle.F1 a1 r1 r2 r3) := by
  unfold weirlaw18_QueueNeverIdle.K1
  refine SJ.inBlock ?_
  refine SJ.inBlock ?_
  refine SJ.region (id := 12) (by kernel_rfl) [0, 1, 2] (by kernel_rfl) ?_
  refine OJ.run [0, 1, 2] [] [0, 1, 5, 6, 7, 9, 10] (m2 := [(0, Sl.v r1.2), (1, Sl.v a1), (5, .pointer r1.1), (6, .pointer r2), (7, .pointer r3), (9, .int .i64 j900), (10, .int .i64 (IntKind.wrap .i64 (s9 + 1)))]) (by kernel_rfl) (by kernel_rfl) ?_
  refine OJ.nil ?_
  exact SJ.at_ [0, 1, 5, 6, 7, 9, 10] rfl (by kernel_rfl)
noncomputable def weirlaw18_QueueNeverIdle.K2 (r1 : ((Option Addr) × Sl)) (r2 : (Option Addr)) (s8 : Int) (s9 : Int) (r1130 : (Int × Int × Bool)) : M (LS (Int × Int) Bool) :=
  draw >>= fun _ =>
  idx r1.2.a r1.2.len r1130.2.1 5 >>= fun p1157 =>
  ld (cI .i64) (Addr.add p1157 3) >>= fun x1158 =>
  (if x1158 > 0 then
      pure (decide (s8 < 1000000))
    else
      pure false) >>= fun y1159 =>
  (if y1159 = true then
      nilck r2 >>= fun p1160 =>
      ld cL (Addr.add p1160 2) >>= fun x1161 =>
      idx x1161.a x1161.len r1130.2.1 1 >>= fun p1162 =>
      ld (cI .i64) p1162 >>= fun x1163 =>
      idx r1.2.a r1.2.len r1130.2.1 5 >>= fun p1164 =>
      ld (cI .i64) (Addr.add p1164 4) >>= fun x1165 =>
      idx r1.2.a r1.2.len r1130.2.1 5 >>= fun p1166 =>
      ld (cI .i64) (Addr.add p1166 3) >>= fun x1167 =>
      pure (decide (x1163 > (IntKind.wrap .i64 (x1165 + (IntKind.wrap .i64 (s8 * x1167))))))
    else
      pure false) >>= fun y1168 =>
  if y1168 = true then
    pure (LS.done false)
  else
    weirlaw18_QueueNeverIdle.K1 s9 s8
theorem weirlaw18_QueueNeverIdle.K2_ok (a1 : Sl) (r1 : ((Option Addr) × Sl)) (r2 : (Option Addr)) (r3 : (Option Addr)) (s8 : Int) (s9 : Int) (r1130 : (Int × Int × Bool)) :
    SJ weirlaw18_QueueNeverIdle.cx [.code (c2 (c2 (c2 (c2 (c2 (c2 (c2 (c2 (c2 (c2 (c1 (c2 (c2 (c2 (c2 (c2 (c1 (c2 (c2 (c2 (c1 (c1 (c2 (c1 (c1 (c2 (c1 (c2 (c2 (c2 (c2 (c2 (c2 (c2 (c2 weirlaw18_QueueNeverIdle.B))))))))))))))))))))))))))))))))))), .inBlock 2, .inBlock 1, .code (c2 (c2 (c1 (c1 (c2 (c1 (c2 (c2 (c2 (c2 (c2 (c2 (c2 (c2 weirlaw18_QueueNeverIdle.B)))))))))))))), .inLoop (c1 (c1 (c2 (c1 (c2 (c2 (c2 (c2 (c2 (c2 (c2 (c2 weirlaw18_QueueNeverIdle.B)))))))))))), .inBlock 0, .code (c2 (c2 (c2 (c2 (c2 (c2 (c2 (c2 (c2 weirlaw18_QueueNeverIdle.B)))))))))] [(0, Sl.v r1.2), (1, Sl.v a1), (5, .pointer r1.1), (6, .pointer r2), (7, .pointer r3), (9, .int .i64 s8), (10, .int .i64 s9), (18, .int .i64 r1130.2.1)] [] (weirlaw18_QueueNeverIdle.K2 r1 r2 s8 s9 r1130) (weirlaw18_QueueNeverIdle.F1 a1 r1 r2 r3) := by
  unfold weirlaw18_QueueNeverIdle.K2
  refine SJ.seq (by kernel_rfl) ?_
  refine SJ.draw (id := 44) (kd := [0, 0, 0, 0, 1, 0, 0, 0, 0, 0, 0, 0, 0, 0, 1, 0, 0, 1, 0, 0, 0, 0, 1, 0, 0, 0, 0, 0, 1, 0, 0, 0, 0]) (bef := [0, 0, 3, 7, 15, 31, 63, 127, 255, 511, 1023, 2047, 4095, 8191, 16383, 2047, 65535, 131071, 2047, 2047, 788479, 1837055, 3934207, 2047, 2047, 2047, 50333695, 117442559, 251660287, 528484351, 1073481727, 2147483647, 4294967295]) (ord := [0, 1, 2, 3, 4, 5, 6, 7, 8, 9, 10, 11, 12, 13, 14, 15, 16, 17, 18, 19, 20, 21, 22, 23, 24, 25, 26, 27, 28, 29, 30, 31, 32]) (by kernel_rfl) mixed (by kernel_rfl) ?_
  refine OJ.run [0, 1] [2, 3, 4, 5, 6, 7, 8, 9, 10, 11, 12, 13, 14, 15, 16, 17, 18, 19, 20, 21, 22, 23, 24, 25, 26, 27, 28, 29, 30, 31, 32] [0, 1, 5, 6, 7, 9, 10, 18, 193, 194] (m2 := [(0, Sl.v r1.2), (1, Sl.v a1), (5, .pointer r1.1), (6, .pointer r2), (7, .pointer r3), (9, .int .i64 s8), (10, .int .i64 s9), (18, .int .i64 r1130.2.1), (193, Sl.v r1.2), (194, .int .i64 r1130.2.1)]) (by kernel_rfl) (by kernel_rfl) ?_
  refine OJ.idxS (d := 195) (T := 27) (y := .tmp 193) (j := .tmp 194) (E := 41) (cap := r1.2.cap) (k := .i64) (by kernel_rfl) (by kernel_rfl) (by kernel_rfl) (by kernel_rfl) (by kernel_rfl) (by kernel_rfl) (by kernel_rfl) (by kernel_rfl) (fun p1157 => ?_)
  refine OJ.run [3] [4, 5, 6, 7, 8, 9, 10, 11, 12, 13, 14, 15, 16, 17, 18, 19, 20, 21, 22, 23, 24, 25, 26, 27, 28, 29, 30, 31, 32] [0, 1, 5, 6, 7, 9, 10, 18, 196] (m2 := [(0, Sl.v r1.2), (1, Sl.v a1), (5, .pointer r1.1), (6, .pointer r2), (7, .pointer r3), (9, .int .i64 s8), (10, .int .i64 s9), (18, .int .i64 r1130.2.1), (196, .pointer (some (Addr.add p1157 3)))]) (by kernel_rfl) (by kernel_rfl) ?_
  refine OJ.ld (d := 197) (T := 3) (y := .tmp 196) (pend2 := fun x1158 => [⟨4, 3, (Addr.add p1157 3), (cI .i64).val x1158⟩]) (by kernel_rfl) (by kernel_rfl) Ty3 (by kernel_rfl) (by kernel_rfl) (fun _ => rfl) (fun x1158 => ?_)
  refine OJ.run [5, 6] [7, 8, 9, 10, 11, 12, 13, 14, 15, 16, 17, 18, 19, 20, 21, 22, 23, 24, 25, 26, 27, 28, 29, 30, 31, 32] [0, 1, 5, 6, 7, 9, 10, 18, 199] (m2 := [(0, Sl.v r1.2), (1, Sl.v a1), (5, .pointer r1.1), (6, .pointer r2), (7, .pointer r3), (9, .int .i64 s8), (10, .int .i64 s9), (18, .int .i64 r1130.2.1), (199, .bool (decide (x1158 > 0)))]) (by kernel_rfl) (by kernel_rfl) ?_
  refine OJ.join (b := decide (x1158 > 0)) [7, 8, 9] [10, 11, 12, 13, 14, 15, 16, 17, 18, 19, 20, 21, 22, 23, 24, 25, 26, 27, 28, 29, 30, 31, 32] [0, 1, 5, 6, 7, 9, 10, 18, 202] (fun y1159 => [(0, Sl.v r1.2), (1, Sl.v a1), (5, .pointer r1.1), (6, .pointer r2), (7, .pointer r3), (9, .int .i64 s8), (10, .int .i64 s9), (18, .int .i64 r1130.2.1), (202, .bool y1159)]) [⟨4, 3, (Addr.add p1157 3), (cI .i64).val x1158⟩] [] (by kernel_rfl) (t := 199) (by kernel_rfl) decide_eq_true_iff (fun hp_ => ?_) (fun hp_ => ?_) (by kernel_rfl) (fun _ _ _ _ _ _ h_ => h_) (fun y1159 => ?_)
  · refine OJ.run [7, 8, 9] [] [0, 1, 5, 6, 7, 9, 10, 18, 202] (m2 := [(0, Sl.v r1.2), (1, Sl.v a1), (5, .pointer r1.1), (6, .pointer r2), (7, .pointer r3), (9, .int .i64 s8), (10, .int .i64 s9), (18, .int .i64 r1130.2.1), (202, .bool (decide (s8 < 1000000)))]) (by kernel_rfl) (by kernel_rfl) ?_
    exact OJ.nil ⟨(Cov.mem (Cov.keep (List.mem_of_getElem? (i := 0) rfl) Cov.nil)), rfl, _, rfl, by kernel_rfl⟩
  · refine OJ.run [7, 8, 9] [] [0, 1, 5, 6, 7, 9, 10, 18, 202] (m2 := [(0, Sl.v r1.2), (1, Sl.v a1), (5, .pointer r1.1), (6, .pointer r2), (7, .pointer r3), (9, .int .i64 s8), (10, .int .i64 s9), (18, .int .i64 r1130.2.1), (202, .bool false)]) (by kernel_rfl) (by kernel_rfl) ?_
    exact OJ.nil ⟨(Cov.mem (Cov.keep (List.mem_of_getElem? (i := 0) rfl) Cov.nil)), rfl, _, rfl, by kernel_rfl⟩
  · refine OJ.run [10] [11, 12, 13, 14, 15, 16, 17, 18, 19, 20, 21, 22, 23, 24, 25, 26, 27, 28, 29, 30, 31, 32] [0, 1, 5, 6, 7, 9, 10, 18, 203] (m2 := [(0, Sl.v r1.2), (1, Sl.v a1), (5, .pointer r1.1), (6, .pointer r2), (7, .pointer r3), (9, .int .i64 s8), (10, .int .i64 s9), (18, .int .i64 r1130.2.1), (203, .bool y1159)]) (by kernel_rfl) (by kernel_rfl) ?_
    refine OJ.join (b := y1159) [11, 12, 13, 14, 15, 16, 17, 18, 19, 20, 21, 22, 23, 24, 25, 26, 27, 28, 29, 30, 31, 32] [] [0, 1, 5, 6, 7, 9, 10, 225] (fun y1168 => [(0, Sl.v r1.2), (1, Sl.v a1), (5, .pointer r1.1), (6, .pointer r2), (7, .pointer r3), (9, .int .i64 s8), (10, .int .i64 s9), (225, .bool y1168)]) [⟨4, 3, (Addr.add p1157 3), (cI .i64).val x1158⟩] [14, 17, 22, 28] (by kernel_rfl) (t := 203) (by kernel_rfl) Iff.rfl (fun hp_ => ?_) (fun hp_ => ?_) (by kernel_rfl) (fun _ _ _ _ _ _ h_ => h_) (fun y1168 => ?_)
    · refine OJ.run [11] [12, 13, 14, 15, 16, 17, 18, 19, 20, 21, 22, 23, 24, 25, 26, 27, 28, 29, 30, 31, 32] [0, 1, 5, 6, 7, 9, 10, 18, 203, 204] (m2 := [(0, Sl.v r1.2), (1, Sl.v a1), (5, .pointer r1.1), (6, .pointer r2), (7, .pointer r3), (9, .int .i64 s8), (10, .int .i64 s9), (18, .int .i64 r1130.2.1), (203, .bool true), (204, .pointer r2)]) (by kernel_rfl) (by kernel_rfl) ?_
      refine OJ.nilck (d := 205) (y := .tmp 204) (by kernel_rfl) (by kernel_rfl) (by kernel_rfl) (by kernel_rfl) (by kernel_rfl) (fun p1160 => ?_)
      refine OJ.run [13] [14, 15, 16, 17, 18, 19, 20, 21, 22, 23, 24, 25, 26, 27, 28, 29, 30, 31, 32] [0, 1, 5, 6, 7, 9, 10, 18, 203, 206] (m2 := [(0, Sl.v r1.2), (1, Sl.v a1), (5, .pointer r1.1), (6, .pointer r2), (7, .pointer r3), (9, .int .i64 s8), (10, .int .i64 s9), (18, .int .i64 r1130.2.1), (203, .bool true), (206, .pointer (some (Addr.add p1160 2)))]) (by kernel_rfl) (by kernel_rfl) ?_
      refine OJ.ld (d := 207) (T := 28) (y := .tmp 206) (pend2 := fun x1161 => [⟨14, 28, (Addr.add p1160 2), cL.val x1161⟩, ⟨4, 3, (Addr.add p1157 3), (cI .i64).val x1158⟩]) (by kernel_rfl) (by kernel_rfl) Ty28 (by kernel_rfl) (by kernel_rfl) (fun _ => rfl) (fun x1161 => ?_)
      refine OJ.run [15] [16, 17, 18, 19, 20, 21, 22, 23, 24, 25, 26, 27, 28, 29, 30, 31, 32] [0, 1, 5, 6, 7, 9, 10, 18, 203, 207, 208] (m2 := [(0, Sl.v r1.2), (1, Sl.v a1), (5, .pointer r1.1), (6, .pointer r2), (7, .pointer r3), (9, .int .i64 s8), (10, .int .i64 s9), (18, .int .i64 r1130.2.1), (203, .bool true), (207, Sl.v x1161), (208, .int .i64 r1130.2.1)]) (by kernel_rfl) (by kernel_rfl) ?_
      refine OJ.idxS (d := 209) (T := 28) (y := .tmp 207) (j := .tmp 208) (E := 3) (cap := x1161.cap) (k := .i64) (by kernel_rfl) (by kernel_rfl) (by kernel_rfl) (by kernel_rfl) (by kernel_rfl) (by kernel_rfl) (by kernel_rfl) (by kernel_rfl) (fun p1162 => ?_)
      refine OJ.ld (d := 210) (T := 3) (y := .tmp 209) (pend2 := fun x1163 => [⟨17, 3, p1162, (cI .i64).val x1163⟩, ⟨14, 28, (Addr.add p1160 2), cL.val x1161⟩, ⟨4, 3, (Addr.add p1157 3), (cI .i64).val x1158⟩]) (by kernel_rfl) (by kernel_rfl) Ty3 (by kernel_rfl) (by kernel_rfl) (fun _ => rfl) (fun x1163 => ?_)
      refine OJ.run [18, 19] [20, 21, 22, 23, 24, 25, 26, 27, 28, 29, 30, 31, 32] [0, 1, 5, 6, 7, 9, 10, 18, 203, 210, 211, 212] (m2 := [(0, Sl.v r1.2), (1, Sl.v a1), (5, .pointer r1.1), (6, .pointer r2), (7, .pointer r3), (9, .int .i64 s8), (10, .int .i64 s9), (18, .int .i64 r1130.2.1), (203, .bool true), (210, .int .i64 x1163), (211, Sl.v r1.2), (212, .int .i64 r1130.2.1)]) (by kernel_rfl) (by kernel_rfl) ?_
      refine OJ.idxS (d := 213) (T := 27) (y := .tmp 211) (j := .tmp 212) (E := 41) (cap := r1.2.cap) (k := .i64) (by kernel_rfl) (by kernel_rfl) (by kernel_rfl) (by kernel_rfl) (by kernel_rfl) (by kernel_rfl) (by kernel_rfl) (by kernel_rfl) (fun p1164 => ?_)
      refine OJ.run [21] [22, 23, 24, 25, 26, 27, 28, 29, 30, 31, 32] [0, 1, 5, 6, 7, 9, 10, 18, 203, 210, 214] (m2 := [(0, Sl.v r1.2), (1, Sl.v a1), (5, .pointer r1.1), (6, .pointer r2), (7, .pointer r3), (9, .int .i64 s8), (10, .int .i64 s9), (18, .int .i64 r1130.2.1), (203, .bool true), (210, .int .i64 x1163), (214, .pointer (some (Addr.add p1164 4)))]) (by kernel_rfl) (by kernel_rfl) ?_
      refine OJ.ld (d := 215) (T := 3) (y := .tmp 214) (pend2 := fun x1165 => [⟨22, 3, (Addr.add p1164 4), (cI .i64).val x1165⟩, ⟨17, 3, p1162, (cI .i64).val x1163⟩, ⟨14, 28, (Addr.add p1160 2), cL.val x1161⟩, ⟨4, 3, (Addr.add p1157 3), (cI .i64).val x1158⟩]) (by kernel_rfl) (by kernel_rfl) Ty3 (by kernel_rfl) (by kernel_rfl) (fun _ => rfl) (fun x1165 => ?_)
      refine OJ.run [23, 24, 25] [26, 27, 28, 29, 30, 31, 32] [0, 1, 5, 6, 7, 9, 10, 203, 210, 215, 216, 217, 218] (m2 := [(0, Sl.v r1.2), (1, Sl.v a1), (5, .pointer r1.1), (6, .pointer r2), (7, .pointer r3), (9, .int .i64 s8), (10, .int .i64 s9), (203, .bool true), (210, .int .i64 x1163), (215, .int .i64 x1165), (216, .int .i64 s8), (217, Sl.v r1.2), (218, .int .i64 r1130.2.1)]) (by kernel_rfl) (by kernel_rfl) ?_
      refine OJ.idxS (d := 219) (T := 27) (y := .tmp 217) (j := .tmp 218) (E := 41) (cap := r1.2.cap) (k := .i64) (by kernel_rfl) (by kernel_rfl) (by kernel_rfl) (by kernel_rfl) (by kernel_rfl) (by kernel_rfl) (by kernel_rfl) (by kernel_rfl) (fun p1166 => ?_)
      refine OJ.run [27] [28, 29, 30, 31, 32] [0, 1, 5, 6, 7, 9, 10, 203, 210, 215, 216, 220] (m2 := [(0, Sl.v r1.2), (1, Sl.v a1), (5, .pointer r1.1), (6, .pointer r2), (7, .pointer r3), (9, .int .i64 s8), (10, .int .i64 s9), (203, .bool true), (210, .int .i64 x1163), (215, .int .i64 x1165), (216, .int .i64 s8), (220, .pointer (some (Addr.add p1166 3)))]) (by kernel_rfl) (by kernel_rfl) ?_
      refine OJ.ld (d := 221) (T := 3) (y := .tmp 220) (pend2 := fun x1167 => [⟨28, 3, (Addr.add p1166 3), (cI .i64).val x1167⟩, ⟨22, 3, (Addr.add p1164 4), (cI .i64).val x1165⟩, ⟨17, 3, p1162, (cI .i64).val x1163⟩, ⟨14, 28, (Addr.add p1160 2), cL.val x1161⟩, ⟨4, 3, (Addr.add p1157 3), (cI .i64).val x1158⟩]) (by kernel_rfl) (by kernel_rfl) Ty3 (by kernel_rfl) (by kernel_rfl) (fun _ => rfl) (fun x1167 => ?_)
      refine OJ.run [29, 30, 31, 32] [] [0, 1, 5, 6, 7, 9, 10, 225] (m2 := [(0, Sl.v r1.2), (1, Sl.v a1), (5, .pointer r1.1), (6, .pointer r2), (7, .pointer r3), (9, .int .i64 s8), (10, .int .i64 s9), (225, .bool (decide (x1163 > (IntKind.wrap .i64 (x1165 + (IntKind.wrap .i64 (s8 * x1167)))))))]) (by kernel_rfl) (by kernel_rfl) ?_
      exact OJ.nil ⟨(Cov.mem (Cov.drop (List.mem_of_getElem? (i := 3) rfl) (Cov.drop (List.mem_of_getElem? (i := 2) rfl) (Cov.drop (List.mem_of_getElem? (i := 1) rfl) (Cov.drop (List.mem_of_getElem? (i := 0) rfl) (Cov.keep (List.mem_of_getElem? (i := 0) rfl) Cov.nil)))))), rfl, _, rfl, by kernel_rfl⟩
    · refine OJ.run [11, 12, 13, 14, 15, 16, 17, 18, 19, 20, 21, 22, 23, 24, 25, 26, 27, 28, 29, 30, 31, 32] [] [0, 1, 5, 6, 7, 9, 10, 225] (m2 := [(0, Sl.v r1.2), (1, Sl.v a1), (5, .pointer r1.1), (6, .pointer r2), (7, .pointer r3), (9, .int .i64 s8), (10, .int .i64 s9), (225, .bool false)]) (by kernel_rfl) (by kernel_rfl) ?_
      exact OJ.nil ⟨(Cov.mem (Cov.keep (List.mem_of_getElem? (i := 0) rfl) Cov.nil)), rfl, _, rfl, by kernel_rfl⟩
    · refine OJ.nil ?_
      refine SJ.cond (t := (.tmp 225)) (b := y1168) (by kernel_rfl) (by kernel_rfl) Iff.rfl (fun hc1169 => ?_) (fun hc1169 => ?_)
      · refine SJ.seq (by kernel_rfl) ?_
        refine SJ.region (id := 45) (by kernel_rfl) [0] (by kernel_rfl) ?_
        refine OJ.run [0] [] [4] (m2 := [(4, .bool false)]) (by kernel_rfl) (by kernel_rfl) ?_
        refine OJ.nil ?_
        exact SJ.ret (by kernel_rfl) rfl (Res.run (ys := [.bool false]) (.tmp (by kernel_rfl) .nil) rfl)
      · refine SJ.skip (by kernel_rfl) ?_
        refine SJ.less [0, 1, 5, 6, 7, 9, 10] (m' := [(0, Sl.v r1.2), (1, Sl.v a1), (5, .pointer r1.1), (6, .pointer r2), (7, .pointer r3), (9, .int .i64 s8), (10, .int .i64 s9)]) (by kernel_rfl) ?_
        exact weirlaw18_QueueNeverIdle.K1_ok a1 r1 r2 r3 s9 s8
noncomputable def weirlaw18_QueueNeverIdle.K3 (r1 : ((Option Addr) × Sl)) (r2 : (Option Addr)) (r3 : (Option Addr)) (s8 : Int) (s9 : Int) (r1130 : (Int × Int × Bool)) (j1146 : Int) : M (LS (Int × Int) Bool) :=
  weirlaw18_Book_popped r2 r1130.1 r1130.2.1 >>= fun r1147 =>
  if ¬ (r1147 = true) then
    pure (LS.done false)
  else
    idx r1.2.a r1.2.len r1130.2.1 5 >>= fun p1148 =>
    ld (cI .i64) (Addr.add p1148 3) >>= fun x1149 =>
    if x1149 > 0 then
      draw >>= fun _ =>
      nilck r3 >>= fun p1170 =>
      ld cL p1170 >>= fun x1171 =>
      nilck r3 >>= fun p1172 =>
      ld cL p1172 >>= fun x1173 =>
      idx x1173.a x1173.len r1130.2.1 1 >>= fun p1174 =>
      ld (cI .i64) p1174 >>= fun x1175 =>
      idx x1171.a x1171.len r1130.2.1 1 >>= fun p1176 =>
      st (cI .i64) p1176 (IntKind.wrap .i64 (x1175 - j1146)) >>= fun _ =>
      weirlaw18_QueueNeverIdle.K2 r1 r2 s8 s9 r1130
    else
      weirlaw18_QueueNeverIdle.K2 r1 r2 s8 s9 r1130
theorem weirlaw18_QueueNeverIdle.K3_ok (a1 : Sl) (r1 : ((Option Addr) × Sl)) (r2 : (Option Addr)) (r3 : (Option Addr)) (s8 : Int) (s9 : Int) (r1130 : (Int × Int × Bool)) (j1146 : Int) :
    SJ weirlaw18_QueueNeverIdle.cx [.code (c2 (c2 (c2 (c2 (c2 (c2 (c2 (c2 (c1 (c2 (c2 (c2 (c2 (c2 (c1 (c2 (c2 (c2 (c1 (c1 (c2 (c1 (c1 (c2 (c1 (c2 (c2 (c2 (c2 (c2 (c2 (c2 (c2 weirlaw18_QueueNeverIdle.B))))))))))))))))))))))))))))))))), .inBlock 2, .inBlock 1, .code (c2 (c2 (c1 (c1 (c2 (c1 (c2 (c2 (c2 (c2 (c2 (c2 (c2 (c2 weirlaw18_QueueNeverIdle.B)))))))))))))), .inLoop (c1 (c1 (c2 (c1 (c2 (c2 (c2 (c2 (c2 (c2 (c2 (c2 weirlaw18_QueueNeverIdle.B)))))))))))), .inBlock 0, .code (c2 (c2 (c2 (c2 (c2 (c2 (c2 (c2 (c2 weirlaw18_QueueNeverIdle.B)))))))))] [(0, Sl.v r1.2), (1, Sl.v a1), (5, .pointer r1.1), (6, .pointer r2), (7, .pointer r3), (9, .int .i64 s8), (10, .int .i64 s9), (17, .int .i64 r1130.1), (18, .int .i64 r1130.2.1), (20, .int .i64 j1146)] [] (weirlaw18_QueueNeverIdle.K3 r1 r2 r3 s8 s9 r1130 j1146) (weirlaw18_QueueNeverIdle.F1 a1 r1 r2 r3) := by
  unfold weirlaw18_QueueNeverIdle.K3
  refine SJ.seq (by kernel_rfl) ?_
  refine SJ.seq (by kernel_rfl) ?_
  refine SJ.region (id := 40) (by kernel_rfl) [0, 1, 2, 3, 4] (by kernel_rfl) ?_
  refine OJ.run [0, 1, 2] [3, 4] [0, 1, 5, 6, 7, 9, 10, 18, 20, 167, 168, 169] (m2 := [(0, Sl.v r1.2), (1, Sl.v a1), (5, .pointer r1.1), (6, .pointer r2), (7, .pointer r3), (9, .int .i64 s8), (10, .int .i64 s9), (18, .int .i64 r1130.2.1), (20, .int .i64 j1146), (167, .pointer r2), (168, .int .i64 r1130.1), (169, .int .i64 r1130.2.1)]) (by kernel_rfl) (by kernel_rfl) ?_
  refine OJ.call (d := 170) (g := 23) (ats := #[32, 3, 3]) (args := [.tmp 167, .tmp 168, .tmp 169]) (vals := [.pointer r2, .int .i64 r1130.1, .int .i64 r1130.2.1]) (owed := []) (by kernel_rfl) F23 (by kernel_rfl) (weirlaw18_Book_popped_ok r2 r1130.1 r1130.2.1) (by kernel_rfl) (by kernel_rfl) (by kernel_rfl) (fun r1147 => ?_)
  refine OW.nil ?_
  refine OJ.run [4] [] [0, 1, 5, 6, 7, 9, 10, 18, 20, 171] (m2 := [(0, Sl.v r1.2), (1, Sl.v a1), (5, .pointer r1.1), (6, .pointer r2), (7, .pointer r3), (9, .int .i64 s8), (10, .int .i64 s9), (18, .int .i64 r1130.2.1), (20, .int .i64 j1146), (171, .bool (!r1147))]) (by kernel_rfl) (by kernel_rfl) ?_
  refine OJ.nil ?_
  refine SJ.cond (t := (.tmp 171)) (b := (!r1147)) (by kernel_rfl) (by kernel_rfl) (bnot_iff Iff.rfl) (fun hc1178 => ?_) (fun hc1178 => ?_)
  · refine SJ.seq (by kernel_rfl) ?_
    refine SJ.region (id := 41) (by kernel_rfl) [0] (by kernel_rfl) ?_
    refine OJ.run [0] [] [4] (m2 := [(4, .bool false)]) (by kernel_rfl) (by kernel_rfl) ?_
    refine OJ.nil ?_
    exact SJ.ret (by kernel_rfl) rfl (Res.run (ys := [.bool false]) (.tmp (by kernel_rfl) .nil) rfl)
  · refine SJ.skip (by kernel_rfl) ?_
    refine SJ.seq (by kernel_rfl) ?_
    refine SJ.seq (by kernel_rfl) ?_
    refine SJ.region (id := 42) (by kernel_rfl) [0, 1, 2, 3, 4, 5] (by kernel_rfl) ?_
    refine OJ.run [0, 1] [2, 3, 4, 5] [0, 1, 5, 6, 7, 9, 10, 18, 20, 172, 173] (m2 := [(0, Sl.v r1.2), (1, Sl.v a1), (5, .pointer r1.1), (6, .pointer r2), (7, .pointer r3), (9, .int .i64 s8), (10, .int .i64 s9), (18, .int .i64 r1130.2.1), (20, .int .i64 j1146), (172, Sl.v r1.2), (173, .int .i64 r1130.2.1)]) (by kernel_rfl) (by kernel_rfl) ?_
    refine OJ.idxS (d := 174) (T := 27) (y := .tmp 172) (j := .tmp 173) (E := 41) (cap := r1.2.cap) (k := .i64) (by kernel_rfl) (by kernel_rfl) (by kernel_rfl) (by kernel_rfl) (by kernel_rfl) (by kernel_rfl) (by kernel_rfl) (by kernel_rfl) (fun p1148 => ?_)
    refine OJ.run [3] [4, 5] [0, 1, 5, 6, 7, 9, 10, 18, 20, 175] (m2 := [(0, Sl.v r1.2), (1, Sl.v a1), (5, .pointer r1.1), (6, .pointer r2), (7, .pointer r3), (9, .int .i64 s8), (10, .int .i64 s9), (18, .int .i64 r1130.2.1), (20, .int .i64 j1146), (175, .pointer (some (Addr.add p1148 3)))]) (by kernel_rfl) (by kernel_rfl) ?_
    refine OJ.ld (d := 176) (T := 3) (y := .tmp 175) (pend2 := fun x1149 => []) (by kernel_rfl) (by kernel_rfl) Ty3 (by kernel_rfl) (by kernel_rfl) (fun _ => rfl) (fun x1149 => ?_)
    refine OJ.run [5] [] [0, 1, 5, 6, 7, 9, 10, 18, 20, 177] (m2 := [(0, Sl.v r1.2), (1, Sl.v a1), (5, .pointer r1.1), (6, .pointer r2), (7, .pointer r3), (9, .int .i64 s8), (10, .int .i64 s9), (18, .int .i64 r1130.2.1), (20, .int .i64 j1146), (177, .bool (decide (x1149 > 0)))]) (by kernel_rfl) (by kernel_rfl) ?_
    refine OJ.nil ?_
    refine SJ.cond (t := (.tmp 177)) (b := decide (x1149 > 0)) (by kernel_rfl) (by kernel_rfl) decide_eq_true_iff (fun hc1177 => ?_) (fun hc1177 => ?_)
    · refine SJ.draw (id := 43) (kd := [0, 0, 0, 1, 0, 0, 0, 0, 1, 0, 0, 1, 0, 0, 0, 2]) (bef := [0, 1, 3, 7, 0, 0, 32, 96, 224, 0, 992, 2016, 0, 8160, 16383, 32767]) (ord := [0, 1, 2, 3, 4, 5, 6, 7, 8, 9, 10, 11, 12, 13, 14, 15]) (by kernel_rfl) mixed (by kernel_rfl) ?_
      refine OJ.run [0] [1, 2, 3, 4, 5, 6, 7, 8, 9, 10, 11, 12, 13, 14, 15] [0, 1, 5, 6, 7, 9, 10, 18, 20, 178] (m2 := [(0, Sl.v r1.2), (1, Sl.v a1), (5, .pointer r1.1), (6, .pointer r2), (7, .pointer r3), (9, .int .i64 s8), (10, .int .i64 s9), (18, .int .i64 r1130.2.1), (20, .int .i64 j1146), (178, .pointer r3)]) (by kernel_rfl) (by kernel_rfl) ?_
      refine OJ.nilck (d := 179) (y := .tmp 178) (by kernel_rfl) (by kernel_rfl) (by kernel_rfl) (by kernel_rfl) (by kernel_rfl) (fun p1170 => ?_)
      refine OJ.run [2] [3, 4, 5, 6, 7, 8, 9, 10, 11, 12, 13, 14, 15] [0, 1, 5, 6, 7, 9, 10, 18, 20, 180] (m2 := [(0, Sl.v r1.2), (1, Sl.v a1), (5, .pointer r1.1), (6, .pointer r2), (7, .pointer r3), (9, .int .i64 s8), (10, .int .i64 s9), (18, .int .i64 r1130.2.1), (20, .int .i64 j1146), (180, .pointer (some p1170))]) (by kernel_rfl) (by kernel_rfl) ?_
      refine OJ.ld (d := 181) (T := 28) (y := .tmp 180) (pend2 := fun x1171 => [⟨3, 28, p1170, cL.val x1171⟩]) (by kernel_rfl) (by kernel_rfl) Ty28 (by kernel_rfl) (by kernel_rfl) (fun _ => rfl) (fun x1171 => ?_)
      refine OJ.run [4, 5] [6, 7, 8, 9, 10, 11, 12, 13, 14, 15] [0, 1, 5, 6, 7, 9, 10, 18, 20, 181, 182, 183] (m2 := [(0, Sl.v r1.2), (1, Sl.v a1), (5, .pointer r1.1), (6, .pointer r2), (7, .pointer r3), (9, .int .i64 s8), (10, .int .i64 s9), (18, .int .i64 r1130.2.1), (20, .int .i64 j1146), (181, Sl.v x1171), (182, .int .i64 r1130.2.1), (183, .pointer r3)]) (by kernel_rfl) (by kernel_rfl) ?_
      refine OJ.nilck (d := 184) (y := .tmp 183) (by kernel_rfl) (by kernel_rfl) (by kernel_rfl) (by kernel_rfl) (by kernel_rfl) (fun p1172 => ?_)
      refine OJ.run [7] [8, 9, 10, 11, 12, 13, 14, 15] [0, 1, 5, 6, 7, 9, 10, 18, 20, 181, 182, 185] (m2 := [(0, Sl.v r1.2), (1, Sl.v a1), (5, .pointer r1.1), (6, .pointer r2), (7, .pointer r3), (9, .int .i64 s8), (10, .int .i64 s9), (18, .int .i64 r1130.2.1), (20, .int .i64 j1146), (181, Sl.v x1171), (182, .int .i64 r1130.2.1), (185, .pointer (some p1172))]) (by kernel_rfl) (by kernel_rfl) ?_
      refine OJ.ld (d := 186) (T := 28) (y := .tmp 185) (pend2 := fun x1173 => [⟨8, 28, p1172, cL.val x1173⟩, ⟨3, 28, p1170, cL.val x1171⟩]) (by kernel_rfl) (by kernel_rfl) Ty28 (by kernel_rfl) (by kernel_rfl) (fun _ => rfl) (fun x1173 => ?_)
      refine OJ.run [9] [10, 11, 12, 13, 14, 15] [0, 1, 5, 6, 7, 9, 10, 18, 20, 181, 182, 186, 187] (m2 := [(0, Sl.v r1.2), (1, Sl.v a1), (5, .pointer r1.1), (6, .pointer r2), (7, .pointer r3), (9, .int .i64 s8), (10, .int .i64 s9), (18, .int .i64 r1130.2.1), (20, .int .i64 j1146), (181, Sl.v x1171), (182, .int .i64 r1130.2.1), (186, Sl.v x1173), (187, .int .i64 r1130.2.1)]) (by kernel_rfl) (by kernel_rfl) ?_
      refine OJ.idxS (d := 188) (T := 28) (y := .tmp 186) (j := .tmp 187) (E := 3) (cap := x1173.cap) (k := .i64) (by kernel_rfl) (by kernel_rfl) (by kernel_rfl) (by kernel_rfl) (by kernel_rfl) (by kernel_rfl) (by kernel_rfl) (by kernel_rfl) (fun p1174 => ?_)
      refine OJ.ld (d := 189) (T := 3) (y := .tmp 188) (pend2 := fun x1175 => [⟨11, 3, p1174, (cI .i64).val x1175⟩, ⟨8, 28, p1172, cL.val x1173⟩, ⟨3, 28, p1170, cL.val x1171⟩]) (by kernel_rfl) (by kernel_rfl) Ty3 (by kernel_rfl) (by kernel_rfl) (fun _ => rfl) (fun x1175 => ?_)
      refine OJ.run [12, 13] [14, 15] [0, 1, 5, 6, 7, 9, 10, 18, 181, 182, 191] (m2 := [(0, Sl.v r1.2), (1, Sl.v a1), (5, .pointer r1.1), (6, .pointer r2), (7, .pointer r3), (9, .int .i64 s8), (10, .int .i64 s9), (18, .int .i64 r1130.2.1), (181, Sl.v x1171), (182, .int .i64 r1130.2.1), (191, .int .i64 (IntKind.wrap .i64 (x1175 - j1146)))]) (by kernel_rfl) (by kernel_rfl) ?_
      refine OJ.idxS (d := 192) (T := 28) (y := .tmp 181) (j := .tmp 182) (E := 3) (cap := x1171.cap) (k := .i64) (by kernel_rfl) (by kernel_rfl) (by kernel_rfl) (by kernel_rfl) (by kernel_rfl) (by kernel_rfl) (by kernel_rfl) (by kernel_rfl) (fun p1176 => ?_)
      refine OJ.st (T := 3) (y := .tmp 192) (z := .tmp 191) (owed := []) (by kernel_rfl) (by kernel_rfl) (by kernel_rfl) Ty3 (by kernel_rfl) (by kernel_rfl) ?_
      refine OW.nil ?_
      refine OJ.nil ?_
      refine SJ.less [0, 1, 5, 6, 7, 9, 10, 18] (m' := [(0, Sl.v r1.2), (1, Sl.v a1), (5, .pointer r1.1), (6, .pointer r2), (7, .pointer r3), (9, .int .i64 s8), (10, .int .i64 s9), (18, .int .i64 r1130.2.1)]) (by kernel_rfl) ?_
      exact weirlaw18_QueueNeverIdle.K2_ok a1 r1 r2 r3 s8 s9 r1130
    · refine SJ.skip (by kernel_rfl) ?_
      refine SJ.less [0, 1, 5, 6, 7, 9, 10, 18] (m' := [(0, Sl.v r1.2), (1, Sl.v a1), (5, .pointer r1.1), (6, .pointer r2), (7, .pointer r3), (9, .int .i64 s8), (10, .int .i64 s9), (18, .int .i64 r1130.2.1)]) (by kernel_rfl) ?_
      exact weirlaw18_QueueNeverIdle.K2_ok a1 r1 r2 r3 s8 s9 r1130
noncomputable def weirlaw18_QueueNeverIdle.K4 (r1 : ((Option Addr) × Sl)) (r2 : (Option Addr)) (r3 : (Option Addr)) (s8 : Int) (s9 : Int) (s1121 : Bool) : M (LS (Int × Int) Bool) :=
  queue_Queue_Peek r1.1 >>= fun r1126 =>
  (if ¬ (r1126.2.2 = s1121) then
      pure true
    else
      (if r1126.2.2 = true then
          weirlaw18_Purse_ready r3 r1.2 r2 r1126.2.1 >>= fun r1127 =>
          pure (!r1127)
        else
          pure false) >>= fun y1128 =>
      pure y1128) >>= fun y1129 =>
  if y1129 = true then
    pure (LS.done false)
  else
    queue_Queue_Pop r1.1 >>= fun r1130 =>
    (if ¬ (r1130.2.2 = r1126.2.2) then
        pure true
      else
        pure (!r1130.2.2)) >>= fun y1131 =>
    if y1131 = true then
      if ¬ (r1130.2.2 = r1126.2.2) then
        pure (LS.done false)
      else
        pure (LS.next (s8, IntKind.wrap .i64 (s9 + 1)))
    else
      (if r1130.2.1 ≥ 0 then
          pure (decide (r1130.2.1 < (r1.2.len : Int)))
        else
          pure false) >>= fun y1134 =>
      (if y1134 = true then
          nilck r2 >>= fun p1135 =>
          ld cL p1135 >>= fun x1136 =>
          idx x1136.a x1136.len r1130.2.1 1 >>= fun p1137 =>
          ld cL p1137 >>= fun x1138 =>
          pure (decide ((x1138.len : Int) > 0))
        else
          pure false) >>= fun y1139 =>
      if y1139 = true then
        nilck r2 >>= fun p1179 =>
        ld cL p1179 >>= fun x1180 =>
        idx x1180.a x1180.len r1130.2.1 1 >>= fun p1181 =>
        ld cL p1181 >>= fun x1182 =>
        idx x1182.a x1182.len 0 2 >>= fun p1183 =>
        ld (cI .i64) p1183 >>= fun x1184 =>
        weirlaw18_QueueNeverIdle.K3 r1 r2 r3 s8 s9 r1130 x1184
      else
        weirlaw18_QueueNeverIdle.K3 r1 r2 r3 s8 s9 r1130 0
theorem weirlaw18_QueueNeverIdle.K4_ok (a1 : Sl) (r1 : ((Option Addr) × Sl)) (r2 : (Option Addr)) (r3 : (Option Addr)) (s8 : Int) (s9 : Int) (s1121 : Bool) :
    SJ weirlaw18_QueueNeverIdle.cx [.code (c2 (c2 (c1 (c2 (c2 (c2 (c2 (c2 (c1 (c2 (c2 (c2 (c1 (c1 (c2 (c1 (c1 (c2 (c1 (c2 (c2 (c2 (c2 (c2 (c2 (c2 (c2 weirlaw18_QueueNeverIdle.B))))))))))))))))))))))))))), .inBlock 2, .inBlock 1, .code (c2 (c2 (c1 (c1 (c2 (c1 (c2 (c2 (c2 (c2 (c2 (c2 (c2 (c2 weirlaw18_QueueNeverIdle.B)))))))))))))), .inLoop (c1 (c1 (c2 (c1 (c2 (c2 (c2 (c2 (c2 (c2 (c2 (c2 weirlaw18_QueueNeverIdle.B)))))))))))), .inBlock 0, .code (c2 (c2 (c2 (c2 (c2 (c2 (c2 (c2 (c2 weirlaw18_QueueNeverIdle.B)))))))))] [(0, Sl.v r1.2), (1, Sl.v a1), (5, .pointer r1.1), (6, .pointer r2), (7, .pointer r3), (9, .int .i64 s8), (10, .int .i64 s9), (12, .bool s1121)] [] (weirlaw18_QueueNeverIdle.K4 r1 r2 r3 s8 s9 s1121) (weirlaw18_QueueNeverIdle.F1 a1 r1 r2 r3) := by
  unfold weirlaw18_QueueNeverIdle.K4
  refine SJ.seq (by kernel_rfl) ?_
  refine SJ.region (id := 30) (by kernel_rfl) [0, 1, 2, 3, 4, 5, 6, 7, 8] (by kernel_rfl) ?_
  refine OJ.run [0] [1, 2, 3, 4, 5, 6, 7, 8] [0, 1, 5, 6, 7, 9, 10, 12, 103] (m2 := [(0, Sl.v r1.2), (1, Sl.v a1), (5, .pointer r1.1), (6, .pointer r2), (7, .pointer r3), (9, .int .i64 s8), (10, .int .i64 s9), (12, .bool s1121), (103, .pointer r1.1)]) (by kernel_rfl) (by kernel_rfl) ?_
  refine OJ.call (d := 104) (g := 31) (ats := #[29]) (args := [.tmp 103]) (vals := [.pointer r1.1]) (owed := []) (by kernel_rfl) F31 (by kernel_rfl) (queue_Queue_Peek_ok r1.1) (by kernel_rfl) (by kernel_rfl) (by kernel_rfl) (fun r1126 => ?_)
  refine OW.nil ?_
  refine OJ.run [2, 3, 4, 5, 6, 7, 8] [] [0, 1, 5, 6, 7, 9, 10, 12, 15, 16] (m2 := [(0, Sl.v r1.2), (1, Sl.v a1), (5, .pointer r1.1), (6, .pointer r2), (7, .pointer r3), (9, .int .i64 s8), (10, .int .i64 s9), (12, .bool s1121), (15, .int .i64 r1126.2.1), (16, .bool r1126.2.2)]) (by kernel_rfl) (by kernel_rfl) ?_
  refine OJ.nil ?_
  refine SJ.seq (by kernel_rfl) ?_
  refine SJ.seq (by kernel_rfl) ?_
  refine SJ.region (id := 31) (by kernel_rfl) [0, 1, 2, 3, 4, 5, 6, 7, 8, 9, 10, 11, 12, 13] (by kernel_rfl) ?_
  refine OJ.run [0, 1, 2, 3] [4, 5, 6, 7, 8, 9, 10, 11, 12, 13] [0, 1, 5, 6, 7, 9, 10, 15, 16, 111] (m2 := [(0, Sl.v r1.2), (1, Sl.v a1), (5, .pointer r1.1), (6, .pointer r2), (7, .pointer r3), (9, .int .i64 s8), (10, .int .i64 s9), (15, .int .i64 r1126.2.1), (16, .bool r1126.2.2), (111, .bool (!(r1126.2.2 == s1121)))]) (by kernel_rfl) (by kernel_rfl) ?_
  refine OJ.join (b := (!(r1126.2.2 == s1121))) [4, 5, 6, 7, 8, 9, 10, 11, 12, 13] [] [0, 1, 5, 6, 7, 9, 10, 16, 121] (fun y1129 => [(0, Sl.v r1.2), (1, Sl.v a1), (5, .pointer r1.1), (6, .pointer r2), (7, .pointer r3), (9, .int .i64 s8), (10, .int .i64 s9), (16, .bool r1126.2.2), (121, .bool y1129)]) [] [] (by kernel_rfl) (t := 111) (by kernel_rfl) (bnot_iff beq_iff_eq) (fun hp_ => ?_) (fun hp_ => ?_) (by kernel_rfl) (fun _ _ _ _ _ _ h_ => h_) (fun y1129 => ?_)
  · refine OJ.run [4, 5, 6, 7, 8, 9, 10, 11, 12, 13] [] [0, 1, 5, 6, 7, 9, 10, 16, 121] (m2 := [(0, Sl.v r1.2), (1, Sl.v a1), (5, .pointer r1.1), (6, .pointer r2), (7, .pointer r3), (9, .int .i64 s8), (10, .int .i64 s9), (16, .bool r1126.2.2), (121, .bool true)]) (by kernel_rfl) (by kernel_rfl) ?_
    exact OJ.nil ⟨(Cov.mem Cov.nil), rfl, _, rfl, by kernel_rfl⟩
  · refine OJ.run [4, 5] [6, 7, 8, 9, 10, 11, 12, 13] [0, 1, 5, 6, 7, 9, 10, 15, 16, 111, 113] (m2 := [(0, Sl.v r1.2), (1, Sl.v a1), (5, .pointer r1.1), (6, .pointer r2), (7, .pointer r3), (9, .int .i64 s8), (10, .int .i64 s9), (15, .int .i64 r1126.2.1), (16, .bool r1126.2.2), (111, .bool false), (113, .bool r1126.2.2)]) (by kernel_rfl) (by kernel_rfl) ?_
    refine OJ.join (b := r1126.2.2) [6, 7, 8, 9, 10, 11, 12] [13] [0, 1, 5, 6, 7, 9, 10, 16, 111, 120] (fun y1128 => [(0, Sl.v r1.2), (1, Sl.v a1), (5, .pointer r1.1), (6, .pointer r2), (7, .pointer r3), (9, .int .i64 s8), (10, .int .i64 s9), (16, .bool r1126.2.2), (111, .bool false), (120, .bool y1128)]) [] [] (by kernel_rfl) (t := 113) (by kernel_rfl) Iff.rfl (fun hp_ => ?_) (fun hp_ => ?_) (by kernel_rfl) (fun _ _ _ _ _ hq_ h_ => ⟨fun e_ he_ => (hq_ e_ he_).elim (fun h => h_.1 e_ h) (fun h => nomatch h), h_.2⟩) (fun y1128 => ?_)
    · refine OJ.run [6, 7, 8, 9] [10, 11, 12] [0, 1, 5, 6, 7, 9, 10, 16, 111, 113, 114, 115, 116, 117] (m2 := [(0, Sl.v r1.2), (1, Sl.v a1), (5, .pointer r1.1), (6, .pointer r2), (7, .pointer r3), (9, .int .i64 s8), (10, .int .i64 s9), (16, .bool r1126.2.2), (111, .bool false), (113, .bool true), (114, .pointer r3), (115, Sl.v r1.2), (116, .pointer r2), (117, .int .i64 r1126.2.1)]) (by kernel_rfl) (by kernel_rfl) ?_
      refine OJ.call (d := 118) (g := 30) (ats := #[54, 27, 32, 3]) (args := [.tmp 114, .tmp 115, .tmp 116, .tmp 117]) (vals := [.pointer r3, Sl.v r1.2, .pointer r2, .int .i64 r1126.2.1]) (owed := []) (by kernel_rfl) F30 (by kernel_rfl) (weirlaw18_Purse_ready_ok r3 r1.2 r2 r1126.2.1) (by kernel_rfl) (by kernel_rfl) (by kernel_rfl) (fun r1127 => ?_)
      refine OW.nil ?_
      refine OJ.run [11, 12] [] [0, 1, 5, 6, 7, 9, 10, 16, 111, 120] (m2 := [(0, Sl.v r1.2), (1, Sl.v a1), (5, .pointer r1.1), (6, .pointer r2), (7, .pointer r3), (9, .int .i64 s8), (10, .int .i64 s9), (16, .bool r1126.2.2), (111, .bool false), (120, .bool (!r1127))]) (by kernel_rfl) (by kernel_rfl) ?_
      exact OJ.nil ⟨(Cov.mem Cov.nil), rfl, _, rfl, by kernel_rfl⟩
    · refine OJ.run [6, 7, 8, 9, 10, 11, 12] [] [0, 1, 5, 6, 7, 9, 10, 16, 111, 120] (m2 := [(0, Sl.v r1.2), (1, Sl.v a1), (5, .pointer r1.1), (6, .pointer r2), (7, .pointer r3), (9, .int .i64 s8), (10, .int .i64 s9), (16, .bool r1126.2.2), (111, .bool false), (120, .bool false)]) (by kernel_rfl) (by kernel_rfl) ?_
      exact OJ.nil ⟨(Cov.mem Cov.nil), rfl, _, rfl, by kernel_rfl⟩
    · refine OJ.run [13] [] [0, 1, 5, 6, 7, 9, 10, 16, 121] (m2 := [(0, Sl.v r1.2), (1, Sl.v a1), (5, .pointer r1.1), (6, .pointer r2), (7, .pointer r3), (9, .int .i64 s8), (10, .int .i64 s9), (16, .bool r1126.2.2), (121, .bool y1128)]) (by kernel_rfl) (by kernel_rfl) ?_
      exact OJ.nil ⟨(Cov.mem Cov.nil), rfl, _, rfl, by kernel_rfl⟩
  · refine OJ.nil ?_
    refine SJ.cond (t := (.tmp 121)) (b := y1129) (by kernel_rfl) (by kernel_rfl) Iff.rfl (fun hc1187 => ?_) (fun hc1187 => ?_)
    · refine SJ.seq (by kernel_rfl) ?_
      refine SJ.region (id := 32) (by kernel_rfl) [0] (by kernel_rfl) ?_
      refine OJ.run [0] [] [4] (m2 := [(4, .bool false)]) (by kernel_rfl) (by kernel_rfl) ?_
      refine OJ.nil ?_
      exact SJ.ret (by kernel_rfl) rfl (Res.run (ys := [.bool false]) (.tmp (by kernel_rfl) .nil) rfl)
    · refine SJ.skip (by kernel_rfl) ?_
      refine SJ.seq (by kernel_rfl) ?_
      refine SJ.region (id := 33) (by kernel_rfl) [0, 1, 2, 3, 4, 5, 6, 7, 8] (by kernel_rfl) ?_
      refine OJ.run [0] [1, 2, 3, 4, 5, 6, 7, 8] [0, 1, 5, 6, 7, 9, 10, 16, 123] (m2 := [(0, Sl.v r1.2), (1, Sl.v a1), (5, .pointer r1.1), (6, .pointer r2), (7, .pointer r3), (9, .int .i64 s8), (10, .int .i64 s9), (16, .bool r1126.2.2), (123, .pointer r1.1)]) (by kernel_rfl) (by kernel_rfl) ?_
      refine OJ.call (d := 124) (g := 19) (ats := #[29]) (args := [.tmp 123]) (vals := [.pointer r1.1]) (owed := []) (by kernel_rfl) F19 (by kernel_rfl) (queue_Queue_Pop_ok r1.1) (by kernel_rfl) (by kernel_rfl) (by kernel_rfl) (fun r1130 => ?_)
      refine OW.nil ?_
      refine OJ.run [2, 3, 4, 5, 6, 7, 8] [] [0, 1, 5, 6, 7, 9, 10, 16, 17, 18, 19] (m2 := [(0, Sl.v r1.2), (1, Sl.v a1), (5, .pointer r1.1), (6, .pointer r2), (7, .pointer r3), (9, .int .i64 s8), (10, .int .i64 s9), (16, .bool r1126.2.2), (17, .int .i64 r1130.1), (18, .int .i64 r1130.2.1), (19, .bool r1130.2.2)]) (by kernel_rfl) (by kernel_rfl) ?_
      refine OJ.nil ?_
      refine SJ.seq (by kernel_rfl) ?_
      refine SJ.seq (by kernel_rfl) ?_
      refine SJ.region (id := 34) (by kernel_rfl) [0, 1, 2, 3, 4, 5, 6] (by kernel_rfl) ?_
      refine OJ.run [0, 1, 2, 3] [4, 5, 6] [0, 1, 5, 6, 7, 9, 10, 16, 17, 18, 19, 131] (m2 := [(0, Sl.v r1.2), (1, Sl.v a1), (5, .pointer r1.1), (6, .pointer r2), (7, .pointer r3), (9, .int .i64 s8), (10, .int .i64 s9), (16, .bool r1126.2.2), (17, .int .i64 r1130.1), (18, .int .i64 r1130.2.1), (19, .bool r1130.2.2), (131, .bool (!(r1130.2.2 == r1126.2.2)))]) (by kernel_rfl) (by kernel_rfl) ?_
      refine OJ.join (b := (!(r1130.2.2 == r1126.2.2))) [4, 5, 6] [] [0, 1, 5, 6, 7, 9, 10, 16, 17, 18, 19, 134] (fun y1131 => [(0, Sl.v r1.2), (1, Sl.v a1), (5, .pointer r1.1), (6, .pointer r2), (7, .pointer r3), (9, .int .i64 s8), (10, .int .i64 s9), (16, .bool r1126.2.2), (17, .int .i64 r1130.1), (18, .int .i64 r1130.2.1), (19, .bool r1130.2.2), (134, .bool y1131)]) [] [] (by kernel_rfl) (t := 131) (by kernel_rfl) (bnot_iff beq_iff_eq) (fun hp_ => ?_) (fun hp_ => ?_) (by kernel_rfl) (fun _ _ _ _ _ _ h_ => h_) (fun y1131 => ?_)
      · refine OJ.run [4, 5, 6] [] [0, 1, 5, 6, 7, 9, 10, 16, 17, 18, 19, 134] (m2 := [(0, Sl.v r1.2), (1, Sl.v a1), (5, .pointer r1.1), (6, .pointer r2), (7, .pointer r3), (9, .int .i64 s8), (10, .int .i64 s9), (16, .bool r1126.2.2), (17, .int .i64 r1130.1), (18, .int .i64 r1130.2.1), (19, .bool r1130.2.2), (134, .bool true)]) (by kernel_rfl) (by kernel_rfl) ?_
        exact OJ.nil ⟨(Cov.mem Cov.nil), rfl, _, rfl, by kernel_rfl⟩
      · refine OJ.run [4, 5, 6] [] [0, 1, 5, 6, 7, 9, 10, 16, 17, 18, 19, 134] (m2 := [(0, Sl.v r1.2), (1, Sl.v a1), (5, .pointer r1.1), (6, .pointer r2), (7, .pointer r3), (9, .int .i64 s8), (10, .int .i64 s9), (16, .bool r1126.2.2), (17, .int .i64 r1130.1), (18, .int .i64 r1130.2.1), (19, .bool r1130.2.2), (134, .bool (!r1130.2.2))]) (by kernel_rfl) (by kernel_rfl) ?_
        exact OJ.nil ⟨(Cov.mem Cov.nil), rfl, _, rfl, by kernel_rfl⟩
      · refine OJ.nil ?_
        refine SJ.cond (t := (.tmp 134)) (b := y1131) (by kernel_rfl) (by kernel_rfl) Iff.rfl (fun hc1186 => ?_) (fun hc1186 => ?_)
        · refine SJ.seq (by kernel_rfl) ?_
          refine SJ.seq (by kernel_rfl) ?_
          refine SJ.region (id := 35) (by kernel_rfl) [0, 1, 2] (by kernel_rfl) ?_
          refine OJ.run [0, 1, 2] [] [0, 1, 5, 6, 7, 9, 10, 137] (m2 := [(0, Sl.v r1.2), (1, Sl.v a1), (5, .pointer r1.1), (6, .pointer r2), (7, .pointer r3), (9, .int .i64 s8), (10, .int .i64 s9), (137, .bool (!(r1130.2.2 == r1126.2.2)))]) (by kernel_rfl) (by kernel_rfl) ?_
          refine OJ.nil ?_
          refine SJ.cond (t := (.tmp 137)) (b := (!(r1130.2.2 == r1126.2.2))) (by kernel_rfl) (by kernel_rfl) (bnot_iff beq_iff_eq) (fun hc1133 => ?_) (fun hc1133 => ?_)
          · refine SJ.seq (by kernel_rfl) ?_
            refine SJ.region (id := 36) (by kernel_rfl) [0] (by kernel_rfl) ?_
            refine OJ.run [0] [] [4] (m2 := [(4, .bool false)]) (by kernel_rfl) (by kernel_rfl) ?_
            refine OJ.nil ?_
            exact SJ.ret (by kernel_rfl) rfl (Res.run (ys := [.bool false]) (.tmp (by kernel_rfl) .nil) rfl)
          · refine SJ.skip (by kernel_rfl) ?_
            refine SJ.exit (id := 1) (by kernel_rfl) (by rfl) ?_
            refine SJ.region (id := 12) (by kernel_rfl) [0, 1, 2] (by kernel_rfl) ?_
            refine OJ.run [0, 1, 2] [] [0, 1, 5, 6, 7, 9, 10] (m2 := [(0, Sl.v r1.2), (1, Sl.v a1), (5, .pointer r1.1), (6, .pointer r2), (7, .pointer r3), (9, .int .i64 s8), (10, .int .i64 (IntKind.wrap .i64 (s9 + 1)))]) (by kernel_rfl) (by kernel_rfl) ?_
            refine OJ.nil ?_
            exact SJ.at_ [0, 1, 5, 6, 7, 9, 10] rfl (by kernel_rfl)
        · refine SJ.skip (by kernel_rfl) ?_
          refine SJ.seq (by kernel_rfl) ?_
          refine SJ.region (id := 37) (by kernel_rfl) [0] (by kernel_rfl) ?_
          refine OJ.run [0] [] [0, 1, 5, 6, 7, 9, 10, 17, 18, 20] (m2 := [(0, Sl.v r1.2), (1, Sl.v a1), (5, .pointer r1.1), (6, .pointer r2), (7, .pointer r3), (9, .int .i64 s8), (10, .int .i64 s9), (17, .int .i64 r1130.1), (18, .int .i64 r1130.2.1), (20, .int .i64 0)]) (by kernel_rfl) (by kernel_rfl) ?_
          refine OJ.nil ?_
          refine SJ.seq (by kernel_rfl) ?_
          refine SJ.seq (by kernel_rfl) ?_
          refine SJ.region (id := 38) (by kernel_rfl) [0, 1, 2, 3, 4, 5, 6, 7, 8, 9, 10, 11, 12, 13, 14, 15, 16, 17, 18] (by kernel_rfl) ?_
          refine OJ.run [0, 1, 2] [3, 4, 5, 6, 7, 8, 9, 10, 11, 12, 13, 14, 15, 16, 17, 18] [0, 1, 5, 6, 7, 9, 10, 17, 18, 20, 140] (m2 := [(0, Sl.v r1.2), (1, Sl.v a1), (5, .pointer r1.1), (6, .pointer r2), (7, .pointer r3), (9, .int .i64 s8), (10, .int .i64 s9), (17, .int .i64 r1130.1), (18, .int .i64 r1130.2.1), (20, .int .i64 0), (140, .bool (decide (r1130.2.1 ≥ 0)))]) (by kernel_rfl) (by kernel_rfl) ?_
          refine OJ.join (b := decide (r1130.2.1 ≥ 0)) [3, 4, 5, 6, 7] [8, 9, 10, 11, 12, 13, 14, 15, 16, 17, 18] [0, 1, 5, 6, 7, 9, 10, 17, 18, 20, 145] (fun y1134 => [(0, Sl.v r1.2), (1, Sl.v a1), (5, .pointer r1.1), (6, .pointer r2), (7, .pointer r3), (9, .int .i64 s8), (10, .int .i64 s9), (17, .int .i64 r1130.1), (18, .int .i64 r1130.2.1), (20, .int .i64 0), (145, .bool y1134)]) [] [] (by kernel_rfl) (t := 140) (by kernel_rfl) decide_eq_true_iff (fun hp_ => ?_) (fun hp_ => ?_) (by kernel_rfl) (fun _ _ _ _ _ _ h_ => h_) (fun y1134 => ?_)
          · refine OJ.run [3, 4, 5, 6, 7] [] [0, 1, 5, 6, 7, 9, 10, 17, 18, 20, 145] (m2 := [(0, Sl.v r1.2), (1, Sl.v a1), (5, .pointer r1.1), (6, .pointer r2), (7, .pointer r3), (9, .int .i64 s8), (10, .int .i64 s9), (17, .int .i64 r1130.1), (18, .int .i64 r1130.2.1), (20, .int .i64 0), (145, .bool (decide (r1130.2.1 < (r1.2.len : Int))))]) (by kernel_rfl) (by kernel_rfl) ?_
            exact OJ.nil ⟨(Cov.mem Cov.nil), rfl, _, rfl, by kernel_rfl⟩
          · refine OJ.run [3, 4, 5, 6, 7] [] [0, 1, 5, 6, 7, 9, 10, 17, 18, 20, 145] (m2 := [(0, Sl.v r1.2), (1, Sl.v a1), (5, .pointer r1.1), (6, .pointer r2), (7, .pointer r3), (9, .int .i64 s8), (10, .int .i64 s9), (17, .int .i64 r1130.1), (18, .int .i64 r1130.2.1), (20, .int .i64 0), (145, .bool false)]) (by kernel_rfl) (by kernel_rfl) ?_
            exact OJ.nil ⟨(Cov.mem Cov.nil), rfl, _, rfl, by kernel_rfl⟩
          · refine OJ.run [8] [9, 10, 11, 12, 13, 14, 15, 16, 17, 18] [0, 1, 5, 6, 7, 9, 10, 17, 18, 20, 146] (m2 := [(0, Sl.v r1.2), (1, Sl.v a1), (5, .pointer r1.1), (6, .pointer r2), (7, .pointer r3), (9, .int .i64 s8), (10, .int .i64 s9), (17, .int .i64 r1130.1), (18, .int .i64 r1130.2.1), (20, .int .i64 0), (146, .bool y1134)]) (by kernel_rfl) (by kernel_rfl) ?_
            refine OJ.join (b := y1134) [9, 10, 11, 12, 13, 14, 15, 16, 17, 18] [] [0, 1, 5, 6, 7, 9, 10, 17, 18, 20, 156] (fun y1139 => [(0, Sl.v r1.2), (1, Sl.v a1), (5, .pointer r1.1), (6, .pointer r2), (7, .pointer r3), (9, .int .i64 s8), (10, .int .i64 s9), (17, .int .i64 r1130.1), (18, .int .i64 r1130.2.1), (20, .int .i64 0), (156, .bool y1139)]) [] [] (by kernel_rfl) (t := 146) (by kernel_rfl) Iff.rfl (fun hp_ => ?_) (fun hp_ => ?_) (by kernel_rfl) (fun _ _ _ _ _ _ h_ => h_) (fun y1139 => ?_)
            · refine OJ.run [9] [10, 11, 12, 13, 14, 15, 16, 17, 18] [0, 1, 5, 6, 7, 9, 10, 17, 18, 20, 146, 147] (m2 := [(0, Sl.v r1.2), (1, Sl.v a1), (5, .pointer r1.1), (6, .pointer r2), (7, .pointer r3), (9, .int .i64 s8), (10, .int .i64 s9), (17, .int .i64 r1130.1), (18, .int .i64 r1130.2.1), (20, .int .i64 0), (146, .bool true), (147, .pointer r2)]) (by kernel_rfl) (by kernel_rfl) ?_
              refine OJ.nilck (d := 148) (y := .tmp 147) (by kernel_rfl) (by kernel_rfl) (by kernel_rfl) (by kernel_rfl) (by kernel_rfl) (fun p1135 => ?_)
              refine OJ.run [11] [12, 13, 14, 15, 16, 17, 18] [0, 1, 5, 6, 7, 9, 10, 17, 18, 20, 146, 149] (m2 := [(0, Sl.v r1.2), (1, Sl.v a1), (5, .pointer r1.1), (6, .pointer r2), (7, .pointer r3), (9, .int .i64 s8), (10, .int .i64 s9), (17, .int .i64 r1130.1), (18, .int .i64 r1130.2.1), (20, .int .i64 0), (146, .bool true), (149, .pointer (some p1135))]) (by kernel_rfl) (by kernel_rfl) ?_
              refine OJ.ld (d := 150) (T := 43) (y := .tmp 149) (pend2 := fun x1136 => []) (by kernel_rfl) (by kernel_rfl) Ty43 (by kernel_rfl) (by kernel_rfl) (fun _ => rfl) (fun x1136 => ?_)
              refine OJ.run [13] [14, 15, 16, 17, 18] [0, 1, 5, 6, 7, 9, 10, 17, 18, 20, 146, 150, 151] (m2 := [(0, Sl.v r1.2), (1, Sl.v a1), (5, .pointer r1.1), (6, .pointer r2), (7, .pointer r3), (9, .int .i64 s8), (10, .int .i64 s9), (17, .int .i64 r1130.1), (18, .int .i64 r1130.2.1), (20, .int .i64 0), (146, .bool true), (150, Sl.v x1136), (151, .int .i64 r1130.2.1)]) (by kernel_rfl) (by kernel_rfl) ?_
              refine OJ.idxS (d := 152) (T := 43) (y := .tmp 150) (j := .tmp 151) (E := 42) (cap := x1136.cap) (k := .i64) (by kernel_rfl) (by kernel_rfl) (by kernel_rfl) (by kernel_rfl) (by kernel_rfl) (by kernel_rfl) (by kernel_rfl) (by kernel_rfl) (fun p1137 => ?_)
              refine OJ.ld (d := 153) (T := 42) (y := .tmp 152) (pend2 := fun x1138 => []) (by kernel_rfl) (by kernel_rfl) Ty42 (by kernel_rfl) (by kernel_rfl) (fun _ => rfl) (fun x1138 => ?_)
              refine OJ.run [16, 17, 18] [] [0, 1, 5, 6, 7, 9, 10, 17, 18, 20, 156] (m2 := [(0, Sl.v r1.2), (1, Sl.v a1), (5, .pointer r1.1), (6, .pointer r2), (7, .pointer r3), (9, .int .i64 s8), (10, .int .i64 s9), (17, .int .i64 r1130.1), (18, .int .i64 r1130.2.1), (20, .int .i64 0), (156, .bool (decide ((x1138.len : Int) > 0)))]) (by kernel_rfl) (by kernel_rfl) ?_
              exact OJ.nil ⟨(Cov.mem Cov.nil), rfl, _, rfl, by kernel_rfl⟩
            · refine OJ.run [9, 10, 11, 12, 13, 14, 15, 16, 17, 18] [] [0, 1, 5, 6, 7, 9, 10, 17, 18, 20, 156] (m2 := [(0, Sl.v r1.2), (1, Sl.v a1), (5, .pointer r1.1), (6, .pointer r2), (7, .pointer r3), (9, .int .i64 s8), (10, .int .i64 s9), (17, .int .i64 r1130.1), (18, .int .i64 r1130.2.1), (20, .int .i64 0), (156, .bool false)]) (by kernel_rfl) (by kernel_rfl) ?_
              exact OJ.nil ⟨(Cov.mem Cov.nil), rfl, _, rfl, by kernel_rfl⟩
            · refine OJ.nil ?_
              refine SJ.cond (t := (.tmp 156)) (b := y1139) (by kernel_rfl) (by kernel_rfl) Iff.rfl (fun hc1185 => ?_) (fun hc1185 => ?_)
              · refine SJ.region (id := 39) (by kernel_rfl) [0, 1, 2, 3, 4, 5, 6, 7, 8, 9, 10] (by kernel_rfl) ?_
                refine OJ.run [0] [1, 2, 3, 4, 5, 6, 7, 8, 9, 10] [0, 1, 5, 6, 7, 9, 10, 17, 18, 20, 157] (m2 := [(0, Sl.v r1.2), (1, Sl.v a1), (5, .pointer r1.1), (6, .pointer r2), (7, .pointer r3), (9, .int .i64 s8), (10, .int .i64 s9), (17, .int .i64 r1130.1), (18, .int .i64 r1130.2.1), (20, .int .i64 0), (157, .pointer r2)]) (by kernel_rfl) (by kernel_rfl) ?_
                refine OJ.nilck (d := 158) (y := .tmp 157) (by kernel_rfl) (by kernel_rfl) (by kernel_rfl) (by kernel_rfl) (by kernel_rfl) (fun p1179 => ?_)
                refine OJ.run [2] [3, 4, 5, 6, 7, 8, 9, 10] [0, 1, 5, 6, 7, 9, 10, 17, 18, 20, 159] (m2 := [(0, Sl.v r1.2), (1, Sl.v a1), (5, .pointer r1.1), (6, .pointer r2), (7, .pointer r3), (9, .int .i64 s8), (10, .int .i64 s9), (17, .int .i64 r1130.1), (18, .int .i64 r1130.2.1), (20, .int .i64 0), (159, .pointer (some p1179))]) (by kernel_rfl) (by kernel_rfl) ?_
                refine OJ.ld (d := 160) (T := 43) (y := .tmp 159) (pend2 := fun x1180 => []) (by kernel_rfl) (by kernel_rfl) Ty43 (by kernel_rfl) (by kernel_rfl) (fun _ => rfl) (fun x1180 => ?_)
                refine OJ.run [4] [5, 6, 7, 8, 9, 10] [0, 1, 5, 6, 7, 9, 10, 17, 18, 20, 160, 161] (m2 := [(0, Sl.v r1.2), (1, Sl.v a1), (5, .pointer r1.1), (6, .pointer r2), (7, .pointer r3), (9, .int .i64 s8), (10, .int .i64 s9), (17, .int .i64 r1130.1), (18, .int .i64 r1130.2.1), (20, .int .i64 0), (160, Sl.v x1180), (161, .int .i64 r1130.2.1)]) (by kernel_rfl) (by kernel_rfl) ?_
                refine OJ.idxS (d := 162) (T := 43) (y := .tmp 160) (j := .tmp 161) (E := 42) (cap := x1180.cap) (k := .i64) (by kernel_rfl) (by kernel_rfl) (by kernel_rfl) (by kernel_rfl) (by kernel_rfl) (by kernel_rfl) (by kernel_rfl) (by kernel_rfl) (fun p1181 => ?_)
                refine OJ.ld (d := 163) (T := 42) (y := .tmp 162) (pend2 := fun x1182 => []) (by kernel_rfl) (by kernel_rfl) Ty42 (by kernel_rfl) (by kernel_rfl) (fun _ => rfl) (fun x1182 => ?_)
                refine OJ.idxS (d := 164) (T := 42) (y := .tmp 163) (j := .const (.int .i64 0)) (E := 66) (cap := x1182.cap) (k := .i64) (by kernel_rfl) (by kernel_rfl) (by kernel_rfl) (by kernel_rfl) (by kernel_rfl) (by kernel_rfl) (by kernel_rfl) (by kernel_rfl) (fun p1183 => ?_)
                refine OJ.run [8] [9, 10] [0, 1, 5, 6, 7, 9, 10, 17, 18, 20, 165] (m2 := [(0, Sl.v r1.2), (1, Sl.v a1), (5, .pointer r1.1), (6, .pointer r2), (7, .pointer r3), (9, .int .i64 s8), (10, .int .i64 s9), (17, .int .i64 r1130.1), (18, .int .i64 r1130.2.1), (20, .int .i64 0), (165, .pointer (some p1183))]) (by kernel_rfl) (by kernel_rfl) ?_
                refine OJ.ld (d := 166) (T := 3) (y := .tmp 165) (pend2 := fun x1184 => []) (by kernel_rfl) (by kernel_rfl) Ty3 (by kernel_rfl) (by kernel_rfl) (fun _ => rfl) (fun x1184 => ?_)
                refine OJ.run [10] [] [0, 1, 5, 6, 7, 9, 10, 17, 18, 20] (m2 := [(0, Sl.v r1.2), (1, Sl.v a1), (5, .pointer r1.1), (6, .pointer r2), (7, .pointer r3), (9, .int .i64 s8), (10, .int .i64 s9), (17, .int .i64 r1130.1), (18, .int .i64 r1130.2.1), (20, .int .i64 x1184)]) (by kernel_rfl) (by kernel_rfl) ?_
                refine OJ.nil ?_
                refine SJ.less [0, 1, 5, 6, 7, 9, 10, 17, 18, 20] (m' := [(0, Sl.v r1.2), (1, Sl.v a1), (5, .pointer r1.1), (6, .pointer r2), (7, .pointer r3), (9, .int .i64 s8), (10, .int .i64 s9), (17, .int .i64 r1130.1), (18, .int .i64 r1130.2.1), (20, .int .i64 x1184)]) (by kernel_rfl) ?_
                exact weirlaw18_QueueNeverIdle.K3_ok a1 r1 r2 r3 s8 s9 r1130 x1184
              · refine SJ.skip (by kernel_rfl) ?_
                refine SJ.less [0, 1, 5, 6, 7, 9, 10, 17, 18, 20] (m' := [(0, Sl.v r1.2), (1, Sl.v a1), (5, .pointer r1.1), (6, .pointer r2), (7, .pointer r3), (9, .int .i64 s8), (10, .int .i64 s9), (17, .int .i64 r1130.1), (18, .int .i64 r1130.2.1), (20, .int .i64 0)]) (by kernel_rfl) ?_
                exact weirlaw18_QueueNeverIdle.K3_ok a1 r1 r2 r3 s8 s9 r1130 0
noncomputable def weirlaw18_QueueNeverIdle.F2 (a1 : Sl) (r1 : ((Option Addr) × Sl)) (r2 : (Option Addr)) (r3 : (Option Addr)) (s8 : Int) (s9 : Int) : (LS (Bool × Int) (LS (Int × Int) Bool)) → Reach := loopF [.inLoop (c1 (c1 (c2 (c1 (c2 (c1 (c2 (c2 (c2 (c2 (c2 (c1 (c2 (c2 (c2 (c1 (c1 (c2 (c1 (c1 (c2 (c1 (c2 (c2 (c2 (c2 (c2 (c2 (c2 (c2 weirlaw18_QueueNeverIdle.B)))))))))))))))))))))))))))))), .inBlock 3, .code (c2 (c2 (c1 (c2 (c2 (c2 (c2 (c2 (c1 (c2 (c2 (c2 (c1 (c1 (c2 (c1 (c1 (c2 (c1 (c2 (c2 (c2 (c2 (c2 (c2 (c2 (c2 weirlaw18_QueueNeverIdle.B))))))))))))))))))))))))))), .inBlock 2, .inBlock 1, .code (c2 (c2 (c1 (c1 (c2 (c1 (c2 (c2 (c2 (c2 (c2 (c2 (c2 (c2 weirlaw18_QueueNeverIdle.B)))))))))))))), .inLoop (c1 (c1 (c2 (c1 (c2 (c2 (c2 (c2 (c2 (c2 (c2 (c2 weirlaw18_QueueNeverIdle.B)))))))))))), .inBlock 0, .code (c2 (c2 (c2 (c2 (c2 (c2 (c2 (c2 (c2 weirlaw18_QueueNeverIdle.B)))))))))] (fun s_ : (Bool × Int) => [(0, Sl.v r1.2), (1, Sl.v a1), (5, .pointer r1.1), (6, .pointer r2), (7, .pointer r3), (9, .int .i64 s8), (10, .int .i64 s9), (12, .bool s_.1), (13, .int .i64 s_.2)]) (fun s_ : (Bool × Int) => []) (weirlaw18_QueueNeverIdle.F1 a1 r1 r2 r3)
noncomputable def weirlaw18_QueueNeverIdle.L2 (r1 : ((Option Addr) × Sl)) (r2 : (Option Addr)) (r3 : (Option Addr)) (s8 : Int) (s9 : Int) (s1121 : Bool) (s1122 : Int) : M (LS (Bool × Int) (LS (Int × Int) Bool)) :=
  if s1122 < (r1.2.len : Int) then
    (if s1121 = true then
        pure true
      else
        weirlaw18_Purse_ready r3 r1.2 r2 s1122 >>= fun r1188 =>
        pure r1188) >>= fun y1189 =>
    pure (LS.next (y1189, IntKind.wrap .i64 (s1122 + 1)))
  else
    (weirlaw18_QueueNeverIdle.K4 r1 r2 r3 s8 s9 s1121) >>= fun b => pure (LS.done b)
theorem weirlaw18_QueueNeverIdle.L2_ok (a1 : Sl) (r1 : ((Option Addr) × Sl)) (r2 : (Option Addr)) (r3 : (Option Addr)) (s8 : Int) (s9 : Int) (s1121 : Bool) (s1122 : Int) :
    SJ weirlaw18_QueueNeverIdle.cx [.code (c1 (c1 (c2 (c1 (c2 (c1 (c2 (c2 (c2 (c2 (c2 (c1 (c2 (c2 (c2 (c1 (c1 (c2 (c1 (c1 (c2 (c1 (c2 (c2 (c2 (c2 (c2 (c2 (c2 (c2 weirlaw18_QueueNeverIdle.B)))))))))))))))))))))))))))))), .inLoop (c1 (c1 (c2 (c1 (c2 (c1 (c2 (c2 (c2 (c2 (c2 (c1 (c2 (c2 (c2 (c1 (c1 (c2 (c1 (c1 (c2 (c1 (c2 (c2 (c2 (c2 (c2 (c2 (c2 (c2 weirlaw18_QueueNeverIdle.B)))))))))))))))))))))))))))))), .inBlock 3, .code (c2 (c2 (c1 (c2 (c2 (c2 (c2 (c2 (c1 (c2 (c2 (c2 (c1 (c1 (c2 (c1 (c1 (c2 (c1 (c2 (c2 (c2 (c2 (c2 (c2 (c2 (c2 weirlaw18_QueueNeverIdle.B))))))))))))))))))))))))))), .inBlock 2, .inBlock 1, .code (c2 (c2 (c1 (c1 (c2 (c1 (c2 (c2 (c2 (c2 (c2 (c2 (c2 (c2 weirlaw18_QueueNeverIdle.B)))))))))))))), .inLoop (c1 (c1 (c2 (c1 (c2 (c2 (c2 (c2 (c2 (c2 (c2 (c2 weirlaw18_QueueNeverIdle.B)))))))))))), .inBlock 0, .code (c2 (c2 (c2 (c2 (c2 (c2 (c2 (c2 (c2 weirlaw18_QueueNeverIdle.B)))))))))] [(0, Sl.v r1.2), (1, Sl.v a1), (5, .pointer r1.1), (6, .pointer r2), (7, .pointer r3), (9, .int .i64 s8), (10, .int .i64 s9), (12, .bool s1121), (13, .int .i64 s1122)] [] (weirlaw18_QueueNeverIdle.L2 r1 r2 r3 s8 s9 s1121 s1122) (weirlaw18_QueueNeverIdle.F2 a1 r1 r2 r3 s8 s9) := by
  unfold weirlaw18_QueueNeverIdle.L2
  refine SJ.seq (by kernel_rfl) ?_
  refine SJ.seq (by kernel_rfl) ?_
  refine SJ.region (id := 27) (by kernel_rfl) [0, 1, 2, 3] (by kernel_rfl) ?_
  refine OJ.run [0, 1, 2, 3] [] [0, 1, 5, 6, 7, 9, 10, 12, 13, 91] (m2 := [(0, Sl.v r1.2), (1, Sl.v a1), (5, .pointer r1.1), (6, .pointer r2), (7, .pointer r3), (9, .int .i64 s8), (10, .int .i64 s9), (12, .bool s1121), (13, .int .i64 s1122), (91, .bool (decide (s1122 < (r1.2.len : Int))))]) (by kernel_rfl) (by kernel_rfl) ?_
  refine OJ.nil ?_
  refine SJ.cond (t := (.tmp 91)) (b := decide (s1122 < (r1.2.len : Int))) (by kernel_rfl) (by kernel_rfl) decide_eq_true_iff (fun hc1190 => ?_) (fun hc1190 => ?_)
  · refine SJ.skip (by kernel_rfl) ?_
    refine SJ.seq (by kernel_rfl) ?_
    refine SJ.block (id := 4) (by kernel_rfl) ?_
    refine SJ.region (id := 29) (by kernel_rfl) [0, 1, 2, 3, 4, 5, 6, 7, 8] (by kernel_rfl) ?_
    refine OJ.run [0, 1] [2, 3, 4, 5, 6, 7, 8] [0, 1, 5, 6, 7, 9, 10, 12, 13, 95] (m2 := [(0, Sl.v r1.2), (1, Sl.v a1), (5, .pointer r1.1), (6, .pointer r2), (7, .pointer r3), (9, .int .i64 s8), (10, .int .i64 s9), (12, .bool s1121), (13, .int .i64 s1122), (95, .bool s1121)]) (by kernel_rfl) (by kernel_rfl) ?_
    refine OJ.join (b := s1121) [2, 3, 4, 5, 6, 7] [8] [0, 1, 5, 6, 7, 9, 10, 12, 13, 101] (fun y1189 => [(0, Sl.v r1.2), (1, Sl.v a1), (5, .pointer r1.1), (6, .pointer r2), (7, .pointer r3), (9, .int .i64 s8), (10, .int .i64 s9), (12, .bool s1121), (13, .int .i64 s1122), (101, .bool y1189)]) [] [] (by kernel_rfl) (t := 95) (by kernel_rfl) Iff.rfl (fun hp_ => ?_) (fun hp_ => ?_) (by kernel_rfl) (fun _ _ _ _ _ _ h_ => h_) (fun y1189 => ?_)
    · refine OJ.run [2, 3, 4, 5, 6, 7] [] [0, 1, 5, 6, 7, 9, 10, 12, 13, 101] (m2 := [(0, Sl.v r1.2), (1, Sl.v a1), (5, .pointer r1.1), (6, .pointer r2), (7, .pointer r3), (9, .int .i64 s8), (10, .int .i64 s9), (12, .bool s1121), (13, .int .i64 s1122), (101, .bool true)]) (by kernel_rfl) (by kernel_rfl) ?_
      exact OJ.nil ⟨(Cov.mem Cov.nil), rfl, _, rfl, by kernel_rfl⟩
    · refine OJ.run [2, 3, 4, 5] [6, 7] [0, 1, 5, 6, 7, 9, 10, 12, 13, 95, 96, 97, 98, 99] (m2 := [(0, Sl.v r1.2), (1, Sl.v a1), (5, .pointer r1.1), (6, .pointer r2), (7, .pointer r3), (9, .int .i64 s8), (10, .int .i64 s9), (12, .bool s1121), (13, .int .i64 s1122), (95, .bool false), (96, .pointer r3), (97, Sl.v r1.2), (98, .pointer r2), (99, .int .i64 s1122)]) (by kernel_rfl) (by kernel_rfl) ?_
      refine OJ.call (d := 100) (g := 30) (ats := #[54, 27, 32, 3]) (args := [.tmp 96, .tmp 97, .tmp 98, .tmp 99]) (vals := [.pointer r3, Sl.v r1.2, .pointer r2, .int .i64 s1122]) (owed := []) (by kernel_rfl) F30 (by kernel_rfl) (weirlaw18_Purse_ready_ok r3 r1.2 r2 s1122) (by kernel_rfl) (by kernel_rfl) (by kernel_rfl) (fun r1188 => ?_)
      refine OW.nil ?_
      refine OJ.run [7] [] [0, 1, 5, 6, 7, 9, 10, 12, 13, 101] (m2 := [(0, Sl.v r1.2), (1, Sl.v a1), (5, .pointer r1.1), (6, .pointer r2), (7, .pointer r3), (9, .int .i64 s8), (10, .int .i64 s9), (12, .bool s1121), (13, .int .i64 s1122), (101, .bool r1188)]) (by kernel_rfl) (by kernel_rfl) ?_
      exact OJ.nil ⟨(Cov.mem Cov.nil), rfl, _, rfl, by kernel_rfl⟩
    · refine OJ.run [8] [] [0, 1, 5, 6, 7, 9, 10, 12, 13] (m2 := [(0, Sl.v r1.2), (1, Sl.v a1), (5, .pointer r1.1), (6, .pointer r2), (7, .pointer r3), (9, .int .i64 s8), (10, .int .i64 s9), (12, .bool y1189), (13, .int .i64 s1122)]) (by kernel_rfl) (by kernel_rfl) ?_
      refine OJ.nil ?_
      refine SJ.inBlock ?_
      refine SJ.region (id := 28) (by kernel_rfl) [0, 1, 2] (by kernel_rfl) ?_
      refine OJ.run [0, 1, 2] [] [0, 1, 5, 6, 7, 9, 10, 12, 13] (m2 := [(0, Sl.v r1.2), (1, Sl.v a1), (5, .pointer r1.1), (6, .pointer r2), (7, .pointer r3), (9, .int .i64 s8), (10, .int .i64 s9), (12, .bool y1189), (13, .int .i64 (IntKind.wrap .i64 (s1122 + 1)))]) (by kernel_rfl) (by kernel_rfl) ?_
      refine OJ.nil ?_
      exact SJ.at_ [0, 1, 5, 6, 7, 9, 10, 12, 13] rfl (by kernel_rfl)
  · refine SJ.exit (id := 3) (by kernel_rfl) (by rfl) ?_
    refine SJ.less [0, 1, 5, 6, 7, 9, 10, 12] (m' := [(0, Sl.v r1.2), (1, Sl.v a1), (5, .pointer r1.1), (6, .pointer r2), (7, .pointer r3), (9, .int .i64 s8), (10, .int .i64 s9), (12, .bool s1121)]) (by kernel_rfl) ?_
    refine SJ.done ?_
    exact weirlaw18_QueueNeverIdle.K4_ok a1 r1 r2 r3 s8 s9 s1121
noncomputable def weirlaw18_QueueNeverIdle.K5 (r1 : ((Option Addr) × Sl)) (r2 : (Option Addr)) (r3 : (Option Addr)) (s8 : Int) (s9 : Int) (j607 : weirlaw18_Op) : M (LS (Int × Int) Bool) :=
  if j607.Kind = 1 then
    draw >>= fun _ =>
    queue_Queue_Push r1.1 j607.Class j607.Size j607.Item >>= fun r901 =>
    weirlaw18_num r901 >>= fun r902 =>
    weirlaw18_Book_pushed r2 r1.2 j607 r902 >>= fun r903 =>
    weirlaw18_QueueNeverIdle.K1 s9 s8
  else
    if j607.Kind = 4 then
      queue_Queue_Tick r1.1 >>= fun r1048 =>
      weirlaw18_Purse_tick r3 r1.2 >>= fun r1049 =>
      if s8 < 1000000 then
        weirlaw18_QueueNeverIdle.K1 s9 (IntKind.wrap .i64 (s8 + 1))
      else
        weirlaw18_QueueNeverIdle.K1 s9 s8
    else
      if j607.Kind = 2 then
        loopM (fun s_ : (Bool × Int) => weirlaw18_QueueNeverIdle.L2 r1 r2 r3 s8 s9 s_.1 s_.2) (false, 0)
      else
        weirlaw18_QueueNeverIdle.K1 s9 s8
theorem weirlaw18_QueueNeverIdle.K5_ok (a1 : Sl) (r1 : ((Option Addr) × Sl)) (r2 : (Option Addr)) (r3 : (Option Addr)) (s8 : Int) (s9 : Int) (b604 : Nat) (j607 : weirlaw18_Op) :
    SJ weirlaw18_QueueNeverIdle.cx [.code (c2 (c2 (c1 (c1 (c2 (c1 (c1 (c2 (c1 (c2 (c2 (c2 (c2 (c2 (c2 (c2 (c2 weirlaw18_QueueNeverIdle.B))))))))))))))))), .inBlock 1, .code (c2 (c2 (c1 (c1 (c2 (c1 (c2 (c2 (c2 (c2 (c2 (c2 (c2 (c2 weirlaw18_QueueNeverIdle.B)))))))))))))), .inLoop (c1 (c1 (c2 (c1 (c2 (c2 (c2 (c2 (c2 (c2 (c2 (c2 weirlaw18_QueueNeverIdle.B)))))))))))), .inBlock 0, .code (c2 (c2 (c2 (c2 (c2 (c2 (c2 (c2 (c2 weirlaw18_QueueNeverIdle.B)))))))))] [(0, Sl.v r1.2), (1, Sl.v a1), (5, .pointer r1.1), (6, .pointer r2), (7, .pointer r3), (9, .int .i64 s8), (10, .int .i64 s9), (11, .pointer (some (pt b604 0)))] [(b604, c_weirlaw18_Op.enc j607)] (weirlaw18_QueueNeverIdle.K5 r1 r2 r3 s8 s9 j607) (weirlaw18_QueueNeverIdle.F1 a1 r1 r2 r3) := by
  unfold weirlaw18_QueueNeverIdle.K5
  refine SJ.seq (by kernel_rfl) ?_
  refine SJ.region (id := 16) (by kernel_rfl) [0, 1] (by kernel_rfl) ?_
  refine OJ.run [0] [1] [0, 1, 5, 6, 7, 9, 10, 11, 58] (m2 := [(0, Sl.v r1.2), (1, Sl.v a1), (5, .pointer r1.1), (6, .pointer r2), (7, .pointer r3), (9, .int .i64 s8), (10, .int .i64 s9), (11, .pointer (some (pt b604 0))), (58, .pointer (some (pt b604 0)))]) (by kernel_rfl) (by kernel_rfl) ?_
  refine OJ.kld (d := 59) (T := 3) (y := .tmp 58) (cd := (cI .i64)) (j := 0) (b := b604) (o := 0) j607.Kind (pend2 := []) (by kernel_rfl) (by kernel_rfl) Ty3 (by kernel_rfl) rfl (At_weirlaw18_Op_Kind j607) (by kernel_rfl) rfl ?_
  refine OJ.nil ?_
  refine SJ.block (id := 2) (by kernel_rfl) ?_
  refine SJ.seq (by kernel_rfl) ?_
  refine SJ.region (id := 17) (by kernel_rfl) [0, 1] (by kernel_rfl) ?_
  refine OJ.run [0, 1] [] [0, 1, 5, 6, 7, 9, 10, 11, 59, 60] (m2 := [(0, Sl.v r1.2), (1, Sl.v a1), (5, .pointer r1.1), (6, .pointer r2), (7, .pointer r3), (9, .int .i64 s8), (10, .int .i64 s9), (11, .pointer (some (pt b604 0))), (59, .int .i64 j607.Kind), (60, .bool (j607.Kind == 1))]) (by kernel_rfl) (by kernel_rfl) ?_
  refine OJ.nil ?_
  refine SJ.cond (t := (.tmp 60)) (b := (j607.Kind == 1)) (by kernel_rfl) (by kernel_rfl) beq_iff_eq (fun hc1193 => ?_) (fun hc1193 => ?_)
  · refine SJ.draw (id := 18) (kd := [0, 0, 1, 0, 0, 1, 0, 1, 0, 1, 2, 2, 2]) (bef := [0, 0, 0, 0, 0, 16, 0, 64, 0, 256, 1016, 2040, 4095]) (ord := [0, 1, 2, 3, 4, 5, 6, 7, 8, 9, 10, 11, 12]) (by kernel_rfl) mixed (by kernel_rfl) ?_
    refine OJ.run [0, 1] [2, 3, 4, 5, 6, 7, 8, 9, 10, 11, 12] [0, 1, 5, 6, 7, 9, 10, 11, 62, 63] (m2 := [(0, Sl.v r1.2), (1, Sl.v a1), (5, .pointer r1.1), (6, .pointer r2), (7, .pointer r3), (9, .int .i64 s8), (10, .int .i64 s9), (11, .pointer (some (pt b604 0))), (62, .pointer r2), (63, Sl.v r1.2)]) (by kernel_rfl) (by kernel_rfl) ?_
    refine OJ.kld (d := 64) (T := 48) (y := .tmp 11) (cd := c_weirlaw18_Op) (j := 0) (b := b604) (o := 0) j607 (pend2 := [⟨2, 48, (pt b604 0), c_weirlaw18_Op.val j607⟩]) (by kernel_rfl) (by kernel_rfl) Ty48 (by kernel_rfl) rfl (At.whole _) (by kernel_rfl) rfl ?_
    refine OJ.run [3, 4] [5, 6, 7, 8, 9, 10, 11, 12] [0, 1, 5, 6, 7, 9, 10, 11, 62, 63, 64, 65, 66] (m2 := [(0, Sl.v r1.2), (1, Sl.v a1), (5, .pointer r1.1), (6, .pointer r2), (7, .pointer r3), (9, .int .i64 s8), (10, .int .i64 s9), (11, .pointer (some (pt b604 0))), (62, .pointer r2), (63, Sl.v r1.2), (64, c_weirlaw18_Op.val j607), (65, .pointer r1.1), (66, .pointer (some (pt b604 2)))]) (by kernel_rfl) (by kernel_rfl) ?_
    refine OJ.kld (d := 67) (T := 3) (y := .tmp 66) (cd := (cI .i64)) (j := 0) (b := b604) (o := 2) j607.Class (pend2 := [⟨5, 3, (pt b604 2), (cI .i64).val j607.Class⟩, ⟨2, 48, (pt b604 0), c_weirlaw18_Op.val j607⟩]) (by kernel_rfl) (by kernel_rfl) Ty3 (by kernel_rfl) rfl (At_weirlaw18_Op_Class j607) (by kernel_rfl) rfl ?_
    refine OJ.run [6] [7, 8, 9, 10, 11, 12] [0, 1, 5, 6, 7, 9, 10, 11, 62, 63, 64, 65, 67, 68] (m2 := [(0, Sl.v r1.2), (1, Sl.v a1), (5, .pointer r1.1), (6, .pointer r2), (7, .pointer r3), (9, .int .i64 s8), (10, .int .i64 s9), (11, .pointer (some (pt b604 0))), (62, .pointer r2), (63, Sl.v r1.2), (64, c_weirlaw18_Op.val j607), (65, .pointer r1.1), (67, .int .i64 j607.Class), (68, .pointer (some (pt b604 3)))]) (by kernel_rfl) (by kernel_rfl) ?_
    refine OJ.kld (d := 69) (T := 3) (y := .tmp 68) (cd := (cI .i64)) (j := 0) (b := b604) (o := 3) j607.Size (pend2 := [⟨7, 3, (pt b604 3), (cI .i64).val j607.Size⟩, ⟨5, 3, (pt b604 2), (cI .i64).val j607.Class⟩, ⟨2, 48, (pt b604 0), c_weirlaw18_Op.val j607⟩]) (by kernel_rfl) (by kernel_rfl) Ty3 (by kernel_rfl) rfl (At_weirlaw18_Op_Size j607) (by kernel_rfl) rfl ?_
    refine OJ.run [8] [9, 10, 11, 12] [0, 1, 5, 6, 7, 9, 10, 62, 63, 64, 65, 67, 69, 70] (m2 := [(0, Sl.v r1.2), (1, Sl.v a1), (5, .pointer r1.1), (6, .pointer r2), (7, .pointer r3), (9, .int .i64 s8), (10, .int .i64 s9), (62, .pointer r2), (63, Sl.v r1.2), (64, c_weirlaw18_Op.val j607), (65, .pointer r1.1), (67, .int .i64 j607.Class), (69, .int .i64 j607.Size), (70, .pointer (some (pt b604 4)))]) (by kernel_rfl) (by kernel_rfl) ?_
    refine OJ.kld (d := 71) (T := 3) (y := .tmp 70) (cd := (cI .i64)) (j := 0) (b := b604) (o := 4) j607.Item (pend2 := [⟨9, 3, (pt b604 4), (cI .i64).val j607.Item⟩, ⟨7, 3, (pt b604 3), (cI .i64).val j607.Size⟩, ⟨5, 3, (pt b604 2), (cI .i64).val j607.Class⟩, ⟨2, 48, (pt b604 0), c_weirlaw18_Op.val j607⟩]) (by kernel_rfl) (by kernel_rfl) Ty3 (by kernel_rfl) rfl (At_weirlaw18_Op_Item j607) (by kernel_rfl) rfl ?_
    refine OJ.call (d := 72) (g := 18) (ats := #[29, 3, 3, 3]) (args := [.tmp 65, .tmp 67, .tmp 69, .tmp 71]) (vals := [.pointer r1.1, .int .i64 j607.Class, .int .i64 j607.Size, .int .i64 j607.Item]) (owed := [⟨2, 48, (pt b604 0), c_weirlaw18_Op.val j607⟩]) (by kernel_rfl) F18 (by kernel_rfl) (queue_Queue_Push_ok r1.1 j607.Class j607.Size j607.Item) (by kernel_rfl) (by kernel_rfl) (by kernel_rfl) (fun r901 => ?_)
    refine OW.known (j := 0) (q := j607) Ty48 rfl (At.whole _) ?_
    refine OW.nil ?_
    refine OJ.call (d := 73) (g := 17) (ats := #[35]) (args := [.tmp 72]) (vals := [.int .i64 r901]) (owed := [⟨2, 48, (pt b604 0), c_weirlaw18_Op.val j607⟩]) (by kernel_rfl) F17 (by kernel_rfl) (weirlaw18_num_ok r901) (by kernel_rfl) (by kernel_rfl) (by kernel_rfl) (fun r902 => ?_)
    refine OW.known (j := 0) (q := j607) Ty48 rfl (At.whole _) ?_
    refine OW.nil ?_
    refine OJ.call (d := 74) (g := 21) (ats := #[32, 27, 48, 3]) (args := [.tmp 62, .tmp 63, .tmp 64, .tmp 73]) (vals := [.pointer r2, Sl.v r1.2, c_weirlaw18_Op.val j607, .int .i64 r902]) (owed := []) (by kernel_rfl) F21 (by kernel_rfl) (weirlaw18_Book_pushed_ok r2 r1.2 j607 r902) (by kernel_rfl) (by kernel_rfl) (by kernel_rfl) (fun r903 => ?_)
    refine OW.nil ?_
    refine OJ.nil ?_
    refine SJ.forget (List.Sublist.cons _ List.Sublist.slnil) ?_
    refine SJ.less [0, 1, 5, 6, 7, 9, 10] (m' := [(0, Sl.v r1.2), (1, Sl.v a1), (5, .pointer r1.1), (6, .pointer r2), (7, .pointer r3), (9, .int .i64 s8), (10, .int .i64 s9)]) (by kernel_rfl) ?_
    exact weirlaw18_QueueNeverIdle.K1_ok a1 r1 r2 r3 s9 s8
  · refine SJ.seq (by kernel_rfl) ?_
    refine SJ.region (id := 19) (by kernel_rfl) [0, 1] (by kernel_rfl) ?_
    refine OJ.run [0, 1] [] [0, 1, 5, 6, 7, 9, 10, 59, 75] (m2 := [(0, Sl.v r1.2), (1, Sl.v a1), (5, .pointer r1.1), (6, .pointer r2), (7, .pointer r3), (9, .int .i64 s8), (10, .int .i64 s9), (59, .int .i64 j607.Kind), (75, .bool (j607.Kind == 4))]) (by kernel_rfl) (by kernel_rfl) ?_
    refine OJ.nil ?_
    refine SJ.cond (t := (.tmp 75)) (b := (j607.Kind == 4)) (by kernel_rfl) (by kernel_rfl) beq_iff_eq (fun hc1192 => ?_) (fun hc1192 => ?_)
    · refine SJ.seq (by kernel_rfl) ?_
      refine SJ.region (id := 20) (by kernel_rfl) [0, 1] (by kernel_rfl) ?_
      refine OJ.run [0] [1] [0, 1, 5, 6, 7, 9, 10, 77] (m2 := [(0, Sl.v r1.2), (1, Sl.v a1), (5, .pointer r1.1), (6, .pointer r2), (7, .pointer r3), (9, .int .i64 s8), (10, .int .i64 s9), (77, .pointer r1.1)]) (by kernel_rfl) (by kernel_rfl) ?_
      refine OJ.call (d := 78) (g := 26) (ats := #[29]) (args := [.tmp 77]) (vals := [.pointer r1.1]) (owed := []) (by kernel_rfl) F26 (by kernel_rfl) (queue_Queue_Tick_ok r1.1) (by kernel_rfl) (by kernel_rfl) (by kernel_rfl) (fun r1048 => ?_)
      refine OW.nil ?_
      refine OJ.nil ?_
      refine SJ.seq (by kernel_rfl) ?_
      refine SJ.region (id := 21) (by kernel_rfl) [0, 1, 2] (by kernel_rfl) ?_
      refine OJ.run [0, 1] [2] [0, 1, 5, 6, 7, 9, 10, 79, 80] (m2 := [(0, Sl.v r1.2), (1, Sl.v a1), (5, .pointer r1.1), (6, .pointer r2), (7, .pointer r3), (9, .int .i64 s8), (10, .int .i64 s9), (79, .pointer r3), (80, Sl.v r1.2)]) (by kernel_rfl) (by kernel_rfl) ?_
      refine OJ.call (d := 81) (g := 27) (ats := #[54, 27]) (args := [.tmp 79, .tmp 80]) (vals := [.pointer r3, Sl.v r1.2]) (owed := []) (by kernel_rfl) F27 (by kernel_rfl) (weirlaw18_Purse_tick_ok r3 r1.2) (by kernel_rfl) (by kernel_rfl) (by kernel_rfl) (fun r1049 => ?_)
      refine OW.nil ?_
      refine OJ.nil ?_
      refine SJ.seq (by kernel_rfl) ?_
      refine SJ.region (id := 22) (by kernel_rfl) [0, 1] (by kernel_rfl) ?_
      refine OJ.run [0, 1] [] [0, 1, 5, 6, 7, 9, 10, 83] (m2 := [(0, Sl.v r1.2), (1, Sl.v a1), (5, .pointer r1.1), (6, .pointer r2), (7, .pointer r3), (9, .int .i64 s8), (10, .int .i64 s9), (83, .bool (decide (s8 < 1000000)))]) (by kernel_rfl) (by kernel_rfl) ?_
      refine OJ.nil ?_
      refine SJ.cond (t := (.tmp 83)) (b := decide (s8 < 1000000)) (by kernel_rfl) (by kernel_rfl) decide_eq_true_iff (fun hc1050 => ?_) (fun hc1050 => ?_)
      · refine SJ.region (id := 23) (by kernel_rfl) [0, 1, 2] (by kernel_rfl) ?_
        refine OJ.run [0, 1, 2] [] [0, 1, 5, 6, 7, 9, 10] (m2 := [(0, Sl.v r1.2), (1, Sl.v a1), (5, .pointer r1.1), (6, .pointer r2), (7, .pointer r3), (9, .int .i64 (IntKind.wrap .i64 (s8 + 1))), (10, .int .i64 s9)]) (by kernel_rfl) (by kernel_rfl) ?_
        refine OJ.nil ?_
        refine SJ.forget (List.Sublist.cons _ List.Sublist.slnil) ?_
        refine SJ.less [0, 1, 5, 6, 7, 9, 10] (m' := [(0, Sl.v r1.2), (1, Sl.v a1), (5, .pointer r1.1), (6, .pointer r2), (7, .pointer r3), (9, .int .i64 (IntKind.wrap .i64 (s8 + 1))), (10, .int .i64 s9)]) (by kernel_rfl) ?_
        exact weirlaw18_QueueNeverIdle.K1_ok a1 r1 r2 r3 s9 (IntKind.wrap .i64 (s8 + 1))
      · refine SJ.skip (by kernel_rfl) ?_
        refine SJ.forget (List.Sublist.cons _ List.Sublist.slnil) ?_
        refine SJ.less [0, 1, 5, 6, 7, 9, 10] (m' := [(0, Sl.v r1.2), (1, Sl.v a1), (5, .pointer r1.1), (6, .pointer r2), (7, .pointer r3), (9, .int .i64 s8), (10, .int .i64 s9)]) (by kernel_rfl) ?_
        exact weirlaw18_QueueNeverIdle.K1_ok a1 r1 r2 r3 s9 s8
    · refine SJ.seq (by kernel_rfl) ?_
      refine SJ.region (id := 24) (by kernel_rfl) [0, 1] (by kernel_rfl) ?_
      refine OJ.run [0, 1] [] [0, 1, 5, 6, 7, 9, 10, 86] (m2 := [(0, Sl.v r1.2), (1, Sl.v a1), (5, .pointer r1.1), (6, .pointer r2), (7, .pointer r3), (9, .int .i64 s8), (10, .int .i64 s9), (86, .bool (j607.Kind == 2))]) (by kernel_rfl) (by kernel_rfl) ?_
      refine OJ.nil ?_
      refine SJ.cond (t := (.tmp 86)) (b := (j607.Kind == 2)) (by kernel_rfl) (by kernel_rfl) beq_iff_eq (fun hc1191 => ?_) (fun hc1191 => ?_)
      · refine SJ.seq (by kernel_rfl) ?_
        refine SJ.region (id := 25) (by kernel_rfl) [0] (by kernel_rfl) ?_
        refine OJ.run [0] [] [0, 1, 5, 6, 7, 9, 10, 12] (m2 := [(0, Sl.v r1.2), (1, Sl.v a1), (5, .pointer r1.1), (6, .pointer r2), (7, .pointer r3), (9, .int .i64 s8), (10, .int .i64 s9), (12, .bool false)]) (by kernel_rfl) (by kernel_rfl) ?_
        refine OJ.nil ?_
        refine SJ.seq (by kernel_rfl) ?_
        refine SJ.seq (by kernel_rfl) ?_
        refine SJ.region (id := 26) (by kernel_rfl) [0] (by kernel_rfl) ?_
        refine OJ.run [0] [] [0, 1, 5, 6, 7, 9, 10, 12, 13] (m2 := [(0, Sl.v r1.2), (1, Sl.v a1), (5, .pointer r1.1), (6, .pointer r2), (7, .pointer r3), (9, .int .i64 s8), (10, .int .i64 s9), (12, .bool false), (13, .int .i64 0)]) (by kernel_rfl) (by kernel_rfl) ?_
        refine OJ.nil ?_
        refine SJ.block (id := 3) (by kernel_rfl) ?_
        refine SJ.forget (List.Sublist.cons _ List.Sublist.slnil) ?_
        exact SJ.loop (fun s_ : (Bool × Int) => [(0, Sl.v r1.2), (1, Sl.v a1), (5, .pointer r1.1), (6, .pointer r2), (7, .pointer r3), (9, .int .i64 s8), (10, .int .i64 s9), (12, .bool s_.1), (13, .int .i64 s_.2)]) (fun s_ : (Bool × Int) => []) [0, 1, 5, 6, 7, 9, 10, 12, 13] (by kernel_rfl) (by kernel_rfl) rfl (fun _ _ => rfl) (fun s_ => weirlaw18_QueueNeverIdle.L2_ok a1 r1 r2 r3 s8 s9 s_.1 s_.2)
      · refine SJ.skip (by kernel_rfl) ?_
        refine SJ.forget (List.Sublist.cons _ List.Sublist.slnil) ?_
        refine SJ.less [0, 1, 5, 6, 7, 9, 10] (m' := [(0, Sl.v r1.2), (1, Sl.v a1), (5, .pointer r1.1), (6, .pointer r2), (7, .pointer r3), (9, .int .i64 s8), (10, .int .i64 s9)]) (by kernel_rfl) ?_
        exact weirlaw18_QueueNeverIdle.K1_ok a1 r1 r2 r3 s9 s8
noncomputable def weirlaw18_QueueNeverIdle.L1 (a1 : Sl) (r1 : ((Option Addr) × Sl)) (r2 : (Option Addr)) (r3 : (Option Addr)) (s8 : Int) (s9 : Int) : M (LS (Int × Int) Bool) :=
  if s9 < (IntKind.wrap .i64 ((a1.len : Int) + 1)) then
    slot 48 >>= fun b604 =>
    if s9 < (a1.len : Int) then
      idx a1.a a1.len s9 5 >>= fun p1194 =>
      ld c_weirlaw18_Op p1194 >>= fun x1195 =>
      weirlaw18_QueueNeverIdle.K5 r1 r2 r3 s8 s9 x1195
    else
      weirlaw18_QueueNeverIdle.K5 r1 r2 r3 s8 s9 (⟨2, z_weirlaw18_Op.Two, z_weirlaw18_Op.Class, z_weirlaw18_Op.Size, z_weirlaw18_Op.Item⟩ : weirlaw18_Op)
  else
    pure (LS.done true)
theorem weirlaw18_QueueNeverIdle.L1_ok (a1 : Sl) (r1 : ((Option Addr) × Sl)) (r2 : (Option Addr)) (r3 : (Option Addr)) (s8 : Int) (s9 : Int) :
    SJ weirlaw18_QueueNeverIdle.cx [.code (c1 (c1 (c2 (c1 (c2 (c2 (c2 (c2 (c2 (c2 (c2 (c2 weirlaw18_QueueNeverIdle.B)))))))))))), .inLoop (c1 (c1 (c2 (c1 (c2 (c2 (c2 (c2 (c2 (c2 (c2 (c2 weirlaw18_QueueNeverIdle.B)))))))))))), .inBlock 0, .code (c2 (c2 (c2 (c2 (c2 (c2 (c2 (c2 (c2 weirlaw18_QueueNeverIdle.B)))))))))] [(0, Sl.v r1.2), (1, Sl.v a1), (5, .pointer r1.1), (6, .pointer r2), (7, .pointer r3), (9, .int .i64 s8), (10, .int .i64 s9)] [] (weirlaw18_QueueNeverIdle.L1 a1 r1 r2 r3 s8 s9) (weirlaw18_QueueNeverIdle.F1 a1 r1 r2 r3) := by
  unfold weirlaw18_QueueNeverIdle.L1
  refine SJ.seq (by kernel_rfl) ?_
  refine SJ.seq (by kernel_rfl) ?_
  refine SJ.region (id := 11) (by kernel_rfl) [0, 1, 2, 3, 4] (by kernel_rfl) ?_
  refine OJ.run [0, 1, 2, 3, 4] [] [0, 1, 5, 6, 7, 9, 10, 46] (m2 := [(0, Sl.v r1.2), (1, Sl.v a1), (5, .pointer r1.1), (6, .pointer r2), (7, .pointer r3), (9, .int .i64 s8), (10, .int .i64 s9), (46, .bool (decide (s9 < (IntKind.wrap .i64 ((a1.len : Int) + 1)))))]) (by kernel_rfl) (by kernel_rfl) ?_
  refine OJ.nil ?_
  refine SJ.cond (t := (.tmp 46)) (b := decide (s9 < (IntKind.wrap .i64 ((a1.len : Int) + 1)))) (by kernel_rfl) (by kernel_rfl) decide_eq_true_iff (fun hc1197 => ?_) (fun hc1197 => ?_)
  · refine SJ.skip (by kernel_rfl) ?_
    refine SJ.seq (by kernel_rfl) ?_
    refine SJ.block (id := 1) (by kernel_rfl) ?_
    refine SJ.seq (by kernel_rfl) ?_
    refine SJ.region (id := 13) (by kernel_rfl) [0, 1, 2] (by kernel_rfl) ?_
    refine OJ.build (d := 49) (T := 48) (parts := [(0, .const (.int .i64 2))]) (ps := [(0, (cI .i64).val 2)]) (cd := c_weirlaw18_Op) (z0 := z_weirlaw18_Op) (⟨2, z_weirlaw18_Op.Two, z_weirlaw18_Op.Class, z_weirlaw18_Op.Size, z_weirlaw18_Op.Item⟩ : weirlaw18_Op) (by kernel_rfl) (by kernel_rfl) Ty48 rfl (by kernel_rfl) (Filled.cons (cd := (cI .i64)) (q := 2) (o := 0) (by kernel_rfl) (Up_weirlaw18_Op_Kind z_weirlaw18_Op 2) Filled.nil) (by kernel_rfl) (by kernel_rfl) (by kernel_rfl) ?_
    refine OJ.slotOf (d := 11) (op := (.alloc 48)) (cd := c_weirlaw18_Op) (u := z_weirlaw18_Op) (owed := []) (by kernel_rfl) (alloc_run Ty48) (by kernel_rfl) (by kernel_rfl) (by kernel_rfl) (fun b604 => ?_)
    refine OW.nil ?_
    refine OJ.kst (T := 48) (y := .tmp 11) (z := .tmp 49) (cd := c_weirlaw18_Op) (u := (⟨2, z_weirlaw18_Op.Two, z_weirlaw18_Op.Class, z_weirlaw18_Op.Size, z_weirlaw18_Op.Item⟩ : weirlaw18_Op)) (j := 0) (b := b604) (o := 0) (c_weirlaw18_Op.enc (⟨2, z_weirlaw18_Op.Two, z_weirlaw18_Op.Class, z_weirlaw18_Op.Size, z_weirlaw18_Op.Item⟩ : weirlaw18_Op)) (h2 := [(b604, c_weirlaw18_Op.enc (⟨2, z_weirlaw18_Op.Two, z_weirlaw18_Op.Class, z_weirlaw18_Op.Size, z_weirlaw18_Op.Item⟩ : weirlaw18_Op))]) (owed := []) (by kernel_rfl) (by kernel_rfl) (by kernel_rfl) Ty48 rfl (Upd.whole ((Cod.len _ _).trans (Cod.len _ _).symm)) (by kernel_rfl) (by kernel_rfl) rfl ?_
    refine OW.nil ?_
    refine OJ.nil ?_
    refine SJ.seq (by kernel_rfl) ?_
    refine SJ.seq (by kernel_rfl) ?_
    refine SJ.region (id := 14) (by kernel_rfl) [0, 1, 2, 3] (by kernel_rfl) ?_
    refine OJ.run [0, 1, 2, 3] [] [0, 1, 5, 6, 7, 9, 10, 11, 53] (m2 := [(0, Sl.v r1.2), (1, Sl.v a1), (5, .pointer r1.1), (6, .pointer r2), (7, .pointer r3), (9, .int .i64 s8), (10, .int .i64 s9), (11, .pointer (some (pt b604 0))), (53, .bool (decide (s9 < (a1.len : Int))))]) (by kernel_rfl) (by kernel_rfl) ?_
    refine OJ.nil ?_
    refine SJ.cond (t := (.tmp 53)) (b := decide (s9 < (a1.len : Int))) (by kernel_rfl) (by kernel_rfl) decide_eq_true_iff (fun hc1196 => ?_) (fun hc1196 => ?_)
    · refine SJ.region (id := 15) (by kernel_rfl) [0, 1, 2, 3, 4] (by kernel_rfl) ?_
      refine OJ.run [0, 1] [2, 3, 4] [0, 1, 5, 6, 7, 9, 10, 11, 54, 55] (m2 := [(0, Sl.v r1.2), (1, Sl.v a1), (5, .pointer r1.1), (6, .pointer r2), (7, .pointer r3), (9, .int .i64 s8), (10, .int .i64 s9), (11, .pointer (some (pt b604 0))), (54, Sl.v a1), (55, .int .i64 s9)]) (by kernel_rfl) (by kernel_rfl) ?_
      refine OJ.idxS (d := 56) (T := 53) (y := .tmp 54) (j := .tmp 55) (E := 48) (cap := a1.cap) (k := .i64) (by kernel_rfl) (by kernel_rfl) (by kernel_rfl) (by kernel_rfl) (by kernel_rfl) (by kernel_rfl) (by kernel_rfl) (by kernel_rfl) (fun p1194 => ?_)
      refine OJ.ld (d := 57) (T := 48) (y := .tmp 56) (pend2 := fun x1195 => []) (by kernel_rfl) (by kernel_rfl) Ty48 (by kernel_rfl) (by kernel_rfl) (fun _ => rfl) (fun x1195 => ?_)
      refine OJ.kst (T := 48) (y := .tmp 11) (z := .tmp 57) (cd := c_weirlaw18_Op) (u := x1195) (j := 0) (b := b604) (o := 0) (c_weirlaw18_Op.enc x1195) (h2 := [(b604, c_weirlaw18_Op.enc x1195)]) (owed := []) (by kernel_rfl) (by kernel_rfl) (by kernel_rfl) Ty48 rfl (Upd.whole ((Cod.len _ _).trans (Cod.len _ _).symm)) (by kernel_rfl) (by kernel_rfl) rfl ?_
      refine OW.nil ?_
      refine OJ.nil ?_
      refine SJ.less [0, 1, 5, 6, 7, 9, 10, 11] (m' := [(0, Sl.v r1.2), (1, Sl.v a1), (5, .pointer r1.1), (6, .pointer r2), (7, .pointer r3), (9, .int .i64 s8), (10, .int .i64 s9), (11, .pointer (some (pt b604 0)))]) (by kernel_rfl) ?_
      exact weirlaw18_QueueNeverIdle.K5_ok a1 r1 r2 r3 s8 s9 b604 x1195
    · refine SJ.skip (by kernel_rfl) ?_
      refine SJ.less [0, 1, 5, 6, 7, 9, 10, 11] (m' := [(0, Sl.v r1.2), (1, Sl.v a1), (5, .pointer r1.1), (6, .pointer r2), (7, .pointer r3), (9, .int .i64 s8), (10, .int .i64 s9), (11, .pointer (some (pt b604 0)))]) (by kernel_rfl) ?_
      exact weirlaw18_QueueNeverIdle.K5_ok a1 r1 r2 r3 s8 s9 b604 (⟨2, z_weirlaw18_Op.Two, z_weirlaw18_Op.Class, z_weirlaw18_Op.Size, z_weirlaw18_Op.Item⟩ : weirlaw18_Op)
  · refine SJ.exit (id := 0) (by kernel_rfl) (by rfl) ?_
    refine SJ.seq (by kernel_rfl) ?_
    refine SJ.region (id := 46) (by kernel_rfl) [0] (by kernel_rfl) ?_
    refine OJ.run [0] [] [4] (m2 := [(4, .bool true)]) (by kernel_rfl) (by kernel_rfl) ?_
    refine OJ.nil ?_
    exact SJ.ret (by kernel_rfl) rfl (Res.run (ys := [.bool true]) (.tmp (by kernel_rfl) .nil) rfl)
noncomputable def weirlaw18_QueueNeverIdle (a0 : Sl) (a1 : Sl) : M Bool :=
  weirlaw18_queueOf a0 >>= fun r1 =>
  if r1.1 = none then
    pure false
  else
    weirlaw18_book (r1.2.len : Int) >>= fun r2 =>
    weirlaw18_purse r1.2 >>= fun r3 =>
    slot 48 >>= fun b4 =>
    draw >>= fun _ =>
    queue_Queue_Push r1.1 0 1 (-4) >>= fun r5 =>
    weirlaw18_num r5 >>= fun r6 =>
    weirlaw18_Book_pushed r2 r1.2 (⟨z_weirlaw18_Op.Kind, z_weirlaw18_Op.Two, z_weirlaw18_Op.Class, 1, (-4)⟩ : weirlaw18_Op) r6 >>= fun r7 =>
    if ¬ (r7 = true) then
      pure false
    else
      loopM (fun s_ : (Int × Int) => weirlaw18_QueueNeverIdle.L1 a1 r1 r2 r3 s_.1 s_.2) (0, 0)
theorem weirlaw18_QueueNeverIdle_ok (a0 : Sl) (a1 : Sl) : Ref Try.prog 6 [Sl.v a0, Sl.v a1] (weirlaw18_QueueNeverIdle a0 a1) weirlaw18_QueueNeverIdle.out := by
  refine Ref.of (cd := weirlaw18_QueueNeverIdle.B) Try.func6 (by kernel_rfl) (by kernel_rfl) ?_
  show SJ weirlaw18_QueueNeverIdle.cx [.code weirlaw18_QueueNeverIdle.B] [(0, Sl.v a0), (1, Sl.v a1)] [] (weirlaw18_QueueNeverIdle a0 a1) weirlaw18_QueueNeverIdle.F0
  unfold weirlaw18_QueueNeverIdle
  refine SJ.seq (by kernel_rfl) ?_
  refine SJ.region (id := 0) (by kernel_rfl) [0] (by kernel_rfl) ?_
  refine OJ.run [0] [] [0, 1] (m2 := [(0, Sl.v a0), (1, Sl.v a1)]) (by kernel_rfl) (by kernel_rfl) ?_
  refine OJ.nil ?_
  refine SJ.seq (by kernel_rfl) ?_
  refine SJ.region (id := 1) (by kernel_rfl) [0, 1, 2, 3, 4, 5, 6] (by kernel_rfl) ?_
  refine OJ.run [0] [1, 2, 3, 4, 5, 6] [0, 1, 22] (m2 := [(0, Sl.v a0), (1, Sl.v a1), (22, Sl.v a0)]) (by kernel_rfl) (by kernel_rfl) ?_
  refine OJ.call (d := 23) (g := 15) (ats := #[27]) (args := [.tmp 22]) (vals := [Sl.v a0]) (owed := []) (by kernel_rfl) F15 (by kernel_rfl) (weirlaw18_queueOf_ok a0) (by kernel_rfl) (by kernel_rfl) (by kernel_rfl) (fun r1 => ?_)
  refine OW.nil ?_
  refine OJ.run [2, 3, 4, 5, 6] [] [0, 1, 5] (m2 := [(0, Sl.v r1.2), (1, Sl.v a1), (5, .pointer r1.1)]) (by kernel_rfl) (by kernel_rfl) ?_
  refine OJ.nil ?_
  refine SJ.seq (by kernel_rfl) ?_
  refine SJ.seq (by kernel_rfl) ?_
  refine SJ.region (id := 2) (by kernel_rfl) [0, 1] (by kernel_rfl) ?_
  refine OJ.run [0, 1] [] [0, 1, 5, 27] (m2 := [(0, Sl.v r1.2), (1, Sl.v a1), (5, .pointer r1.1), (27, .bool (Option.isNone r1.1))]) (by kernel_rfl) (by kernel_rfl) ?_
  refine OJ.nil ?_
  refine SJ.cond (t := (.tmp 27)) (b := (Option.isNone r1.1)) (by kernel_rfl) (by kernel_rfl) Option.isNone_iff_eq_none (fun hc1199 => ?_) (fun hc1199 => ?_)
  · refine SJ.seq (by kernel_rfl) ?_
    refine SJ.region (id := 3) (by kernel_rfl) [0] (by kernel_rfl) ?_
    refine OJ.run [0] [] [4] (m2 := [(4, .bool false)]) (by kernel_rfl) (by kernel_rfl) ?_
    refine OJ.nil ?_
    exact SJ.ret (by kernel_rfl) rfl (Res.run (ys := [.bool false]) (.tmp (by kernel_rfl) .nil) rfl)
  · refine SJ.skip (by kernel_rfl) ?_
    refine SJ.seq (by kernel_rfl) ?_
    refine SJ.region (id := 4) (by kernel_rfl) [0, 1, 2, 3] (by kernel_rfl) ?_
    refine OJ.run [0, 1] [2, 3] [0, 1, 5, 29] (m2 := [(0, Sl.v r1.2), (1, Sl.v a1), (5, .pointer r1.1), (29, .int .i64 (r1.2.len : Int))]) (by kernel_rfl) (by kernel_rfl) ?_
    refine OJ.call (d := 30) (g := 16) (ats := #[3]) (args := [.tmp 29]) (vals := [.int .i64 (r1.2.len : Int)]) (owed := []) (by kernel_rfl) F16 (by kernel_rfl) (weirlaw18_book_ok (r1.2.len : Int)) (by kernel_rfl) (by kernel_rfl) (by kernel_rfl) (fun r2 => ?_)
    refine OW.nil ?_
    refine OJ.run [3] [] [0, 1, 5, 6] (m2 := [(0, Sl.v r1.2), (1, Sl.v a1), (5, .pointer r1.1), (6, .pointer r2)]) (by kernel_rfl) (by kernel_rfl) ?_
    refine OJ.nil ?_
    refine SJ.seq (by kernel_rfl) ?_
    refine SJ.region (id := 5) (by kernel_rfl) [0, 1, 2] (by kernel_rfl) ?_
    refine OJ.run [0] [1, 2] [0, 1, 5, 6, 31] (m2 := [(0, Sl.v r1.2), (1, Sl.v a1), (5, .pointer r1.1), (6, .pointer r2), (31, Sl.v r1.2)]) (by kernel_rfl) (by kernel_rfl) ?_
    refine OJ.call (d := 32) (g := 25) (ats := #[27]) (args := [.tmp 31]) (vals := [Sl.v r1.2]) (owed := []) (by kernel_rfl) F25 (by kernel_rfl) (weirlaw18_purse_ok r1.2) (by kernel_rfl) (by kernel_rfl) (by kernel_rfl) (fun r3 => ?_)
    refine OW.nil ?_
    refine OJ.run [2] [] [0, 1, 5, 6, 7] (m2 := [(0, Sl.v r1.2), (1, Sl.v a1), (5, .pointer r1.1), (6, .pointer r2), (7, .pointer r3)]) (by kernel_rfl) (by kernel_rfl) ?_
    refine OJ.nil ?_
    refine SJ.seq (by kernel_rfl) ?_
    refine SJ.region (id := 6) (by kernel_rfl) [0, 1, 2] (by kernel_rfl) ?_
    refine OJ.build (d := 33) (T := 48) (parts := [(3, .const (.int .i64 1)), (4, .const (.int .i64 (-4)))]) (ps := [(3, (cI .i64).val 1), (4, (cI .i64).val (-4))]) (cd := c_weirlaw18_Op) (z0 := z_weirlaw18_Op) (⟨z_weirlaw18_Op.Kind, z_weirlaw18_Op.Two, z_weirlaw18_Op.Class, 1, (-4)⟩ : weirlaw18_Op) (by kernel_rfl) (by kernel_rfl) Ty48 rfl (by kernel_rfl) (Filled.cons (cd := (cI .i64)) (q := 1) (o := 3) (by kernel_rfl) (Up_weirlaw18_Op_Size z_weirlaw18_Op 1) (Filled.cons (cd := (cI .i64)) (q := (-4)) (o := 4) (by kernel_rfl) (Up_weirlaw18_Op_Item (⟨z_weirlaw18_Op.Kind, z_weirlaw18_Op.Two, z_weirlaw18_Op.Class, 1, z_weirlaw18_Op.Item⟩ : weirlaw18_Op) (-4)) Filled.nil)) (by kernel_rfl) (by kernel_rfl) (by kernel_rfl) ?_
    refine OJ.slotOf (d := 8) (op := (.alloc 48)) (cd := c_weirlaw18_Op) (u := z_weirlaw18_Op) (owed := []) (by kernel_rfl) (alloc_run Ty48) (by kernel_rfl) (by kernel_rfl) (by kernel_rfl) (fun b4 => ?_)
    refine OW.nil ?_
    refine OJ.kst (T := 48) (y := .tmp 8) (z := .tmp 33) (cd := c_weirlaw18_Op) (u := (⟨z_weirlaw18_Op.Kind, z_weirlaw18_Op.Two, z_weirlaw18_Op.Class, 1, (-4)⟩ : weirlaw18_Op)) (j := 0) (b := b4) (o := 0) (c_weirlaw18_Op.enc (⟨z_weirlaw18_Op.Kind, z_weirlaw18_Op.Two, z_weirlaw18_Op.Class, 1, (-4)⟩ : weirlaw18_Op)) (h2 := [(b4, c_weirlaw18_Op.enc (⟨z_weirlaw18_Op.Kind, z_weirlaw18_Op.Two, z_weirlaw18_Op.Class, 1, (-4)⟩ : weirlaw18_Op))]) (owed := []) (by kernel_rfl) (by kernel_rfl) (by kernel_rfl) Ty48 rfl (Upd.whole ((Cod.len _ _).trans (Cod.len _ _).symm)) (by kernel_rfl) (by kernel_rfl) rfl ?_
    refine OW.nil ?_
    refine OJ.nil ?_
    refine SJ.seq (by kernel_rfl) ?_
    refine SJ.seq (by kernel_rfl) ?_
    refine SJ.draw (id := 7) (kd := [0, 0, 1, 0, 2, 2, 2, 0]) (bef := [0, 0, 0, 0, 8, 24, 63, 127]) (ord := [0, 1, 2, 3, 4, 5, 6, 7]) (by kernel_rfl) mixed (by kernel_rfl) ?_
    refine OJ.run [0, 1] [2, 3, 4, 5, 6, 7] [0, 1, 5, 6, 7, 8, 34, 35] (m2 := [(0, Sl.v r1.2), (1, Sl.v a1), (5, .pointer r1.1), (6, .pointer r2), (7, .pointer r3), (8, .pointer (some (pt b4 0))), (34, .pointer r2), (35, Sl.v r1.2)]) (by kernel_rfl) (by kernel_rfl) ?_
    refine OJ.kld (d := 36) (T := 48) (y := .tmp 8) (cd := c_weirlaw18_Op) (j := 0) (b := b4) (o := 0) (⟨z_weirlaw18_Op.Kind, z_weirlaw18_Op.Two, z_weirlaw18_Op.Class, 1, (-4)⟩ : weirlaw18_Op) (pend2 := [⟨2, 48, (pt b4 0), c_weirlaw18_Op.val (⟨z_weirlaw18_Op.Kind, z_weirlaw18_Op.Two, z_weirlaw18_Op.Class, 1, (-4)⟩ : weirlaw18_Op)⟩]) (by kernel_rfl) (by kernel_rfl) Ty48 (by kernel_rfl) rfl (At.whole _) (by kernel_rfl) rfl ?_
    refine OJ.run [3] [4, 5, 6, 7] [0, 1, 5, 6, 7, 34, 35, 36, 37] (m2 := [(0, Sl.v r1.2), (1, Sl.v a1), (5, .pointer r1.1), (6, .pointer r2), (7, .pointer r3), (34, .pointer r2), (35, Sl.v r1.2), (36, c_weirlaw18_Op.val (⟨z_weirlaw18_Op.Kind, z_weirlaw18_Op.Two, z_weirlaw18_Op.Class, 1, (-4)⟩ : weirlaw18_Op)), (37, .pointer r1.1)]) (by kernel_rfl) (by kernel_rfl) ?_
    refine OJ.call (d := 38) (g := 18) (ats := #[29, 3, 3, 3]) (args := [.tmp 37, .const (.int .i64 0), .const (.int .i64 1), .const (.int .i64 (-4))]) (vals := [.pointer r1.1, .int .i64 0, .int .i64 1, .int .i64 (-4)]) (owed := [⟨2, 48, (pt b4 0), c_weirlaw18_Op.val (⟨z_weirlaw18_Op.Kind, z_weirlaw18_Op.Two, z_weirlaw18_Op.Class, 1, (-4)⟩ : weirlaw18_Op)⟩]) (by kernel_rfl) F18 (by kernel_rfl) (queue_Queue_Push_ok r1.1 0 1 (-4)) (by kernel_rfl) (by kernel_rfl) (by kernel_rfl) (fun r5 => ?_)
    refine OW.known (j := 0) (q := (⟨z_weirlaw18_Op.Kind, z_weirlaw18_Op.Two, z_weirlaw18_Op.Class, 1, (-4)⟩ : weirlaw18_Op)) Ty48 rfl (At.whole _) ?_
    refine OW.nil ?_
    refine OJ.call (d := 39) (g := 17) (ats := #[35]) (args := [.tmp 38]) (vals := [.int .i64 r5]) (owed := [⟨2, 48, (pt b4 0), c_weirlaw18_Op.val (⟨z_weirlaw18_Op.Kind, z_weirlaw18_Op.Two, z_weirlaw18_Op.Class, 1, (-4)⟩ : weirlaw18_Op)⟩]) (by kernel_rfl) F17 (by kernel_rfl) (weirlaw18_num_ok r5) (by kernel_rfl) (by kernel_rfl) (by kernel_rfl) (fun r6 => ?_)
    refine OW.known (j := 0) (q := (⟨z_weirlaw18_Op.Kind, z_weirlaw18_Op.Two, z_weirlaw18_Op.Class, 1, (-4)⟩ : weirlaw18_Op)) Ty48 rfl (At.whole _) ?_
    refine OW.nil ?_
    refine OJ.call (d := 40) (g := 21) (ats := #[32, 27, 48, 3]) (args := [.tmp 34, .tmp 35, .tmp 36, .tmp 39]) (vals := [.pointer r2, Sl.v r1.2, c_weirlaw18_Op.val (⟨z_weirlaw18_Op.Kind, z_weirlaw18_Op.Two, z_weirlaw18_Op.Class, 1, (-4)⟩ : weirlaw18_Op), .int .i64 r6]) (owed := []) (by kernel_rfl) F21 (by kernel_rfl) (weirlaw18_Book_pushed_ok r2 r1.2 (⟨z_weirlaw18_Op.Kind, z_weirlaw18_Op.Two, z_weirlaw18_Op.Class, 1, (-4)⟩ : weirlaw18_Op) r6) (by kernel_rfl) (by kernel_rfl) (by kernel_rfl) (fun r7 => ?_)
    refine OW.nil ?_
    refine OJ.run [7] [] [0, 1, 5, 6, 7, 41] (m2 := [(0, Sl.v r1.2), (1, Sl.v a1), (5, .pointer r1.1), (6, .pointer r2), (7, .pointer r3), (41, .bool (!r7))]) (by kernel_rfl) (by kernel_rfl) ?_
    refine OJ.nil ?_
    refine SJ.cond (t := (.tmp 41)) (b := (!r7)) (by kernel_rfl) (by kernel_rfl) (bnot_iff Iff.rfl) (fun hc1198 => ?_) (fun hc1198 => ?_)
    · refine SJ.seq (by kernel_rfl) ?_
      refine SJ.region (id := 8) (by kernel_rfl) [0] (by kernel_rfl) ?_
      refine OJ.run [0] [] [4] (m2 := [(4, .bool false)]) (by kernel_rfl) (by kernel_rfl) ?_
      refine OJ.nil ?_
      exact SJ.ret (by kernel_rfl) rfl (Res.run (ys := [.bool false]) (.tmp (by kernel_rfl) .nil) rfl)
    · refine SJ.skip (by kernel_rfl) ?_
      refine SJ.seq (by kernel_rfl) ?_
      refine SJ.region (id := 9) (by kernel_rfl) [0] (by kernel_rfl) ?_
      refine OJ.run [0] [] [0, 1, 5, 6, 7, 9] (m2 := [(0, Sl.v r1.2), (1, Sl.v a1), (5, .pointer r1.1), (6, .pointer r2), (7, .pointer r3), (9, .int .i64 0)]) (by kernel_rfl) (by kernel_rfl) ?_
      refine OJ.nil ?_
      refine SJ.seq (by kernel_rfl) ?_
      refine SJ.seq (by kernel_rfl) ?_
      refine SJ.region (id := 10) (by kernel_rfl) [0] (by kernel_rfl) ?_
      refine OJ.run [0] [] [0, 1, 5, 6, 7, 9, 10] (m2 := [(0, Sl.v r1.2), (1, Sl.v a1), (5, .pointer r1.1), (6, .pointer r2), (7, .pointer r3), (9, .int .i64 0), (10, .int .i64 0)]) (by kernel_rfl) (by kernel_rfl) ?_
      refine OJ.nil ?_
      refine SJ.block (id := 0) (by kernel_rfl) ?_
      refine SJ.forget (List.Sublist.cons _ List.Sublist.slnil) ?_
      exact SJ.loop (fun s_ : (Int × Int) => [(0, Sl.v r1.2), (1, Sl.v a1), (5, .pointer r1.1), (6, .pointer r2), (7, .pointer r3), (9, .int .i64 s_.1), (10, .int .i64 s_.2)]) (fun s_ : (Int × Int) => []) [0, 1, 5, 6, 7, 9, 10] (by kernel_rfl) (by kernel_rfl) rfl (fun _ _ => rfl) (fun s_ => weirlaw18_QueueNeverIdle.L1_ok a1 r1 r2 r3 s_.1 s_.2)
end Go.Proofs.Ytgddbpmfendaeaa.Lx
