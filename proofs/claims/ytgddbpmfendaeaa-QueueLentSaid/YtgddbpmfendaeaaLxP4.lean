/- Programs of the M-world for Go functions, each with the proof that the Go text does what it says. Printed by lxgen.py. -/
import Derived.Test.YtgddbpmfendaeaaLxT
import Derived.Test.YtgddbpmfendaeaaLxP0
import Derived.Test.YtgddbpmfendaeaaLxP1
import Derived.Test.YtgddbpmfendaeaaLxP2
import Derived.Test.YtgddbpmfendaeaaLxP3
set_option linter.unusedVariables false
set_option linter.unusedSimpArgs false
namespace Go.Proofs.Ytgddbpmfendaeaa.Lx
open Go Go.Proofs
/-! ### weir/weirlaw18.QueueLent: function 13 -/
noncomputable def weirlaw18_QueueLent.B : Code := (Try.f13.body).getD .skip
noncomputable def weirlaw18_QueueLent.cx : Fx := ⟨Try.prog, 13, Try.f13⟩
noncomputable def weirlaw18_QueueLent.out (r_ : Bool) : Value := .bool r_
noncomputable def weirlaw18_QueueLent.F0 (r_ : Bool) : Reach := .ret (weirlaw18_QueueLent.out r_)
noncomputable def weirlaw18_QueueLent.F1 (a3 : Sl) (s9 : Sl) : (LS Int Bool) → Reach := loopF [.inLoop (c1 (c1 (c2 (c1 (c2 (c2 (c2 (c2 (c2 (c2 (c2 (c2 (c2 (c2 weirlaw18_QueueLent.B)))))))))))))), .inBlock 2, .code (c2 (c2 (c2 (c2 (c2 (c2 (c2 (c2 (c2 (c2 (c2 weirlaw18_QueueLent.B)))))))))))] (fun s_ : Int => [(3, Sl.v a3), (13, Sl.v s9), (19, .int .i64 s_)]) (fun s_ : Int => []) weirlaw18_QueueLent.F0
noncomputable def weirlaw18_QueueLent.F2 (a3 : Sl) (s9 : Sl) (s33 : Int) : (LS Int (LS Int Bool)) → Reach := loopF [.inLoop (c1 (c1 (c2 (c1 (c1 (c2 (c1 (c1 (c2 (c1 (c2 (c2 (c2 (c2 (c2 (c2 (c2 (c2 (c2 (c2 weirlaw18_QueueLent.B)))))))))))))))))))), .inBlock 4, .inBlock 3, .code (c2 (c2 (c1 (c1 (c2 (c1 (c2 (c2 (c2 (c2 (c2 (c2 (c2 (c2 (c2 (c2 weirlaw18_QueueLent.B)))))))))))))))), .inLoop (c1 (c1 (c2 (c1 (c2 (c2 (c2 (c2 (c2 (c2 (c2 (c2 (c2 (c2 weirlaw18_QueueLent.B)))))))))))))), .inBlock 2, .code (c2 (c2 (c2 (c2 (c2 (c2 (c2 (c2 (c2 (c2 (c2 weirlaw18_QueueLent.B)))))))))))] (fun s_ : Int => [(3, Sl.v a3), (13, Sl.v s9), (19, .int .i64 s33), (20, .int .i64 s_)]) (fun s_ : Int => []) (weirlaw18_QueueLent.F1 a3 s9)
noncomputable def weirlaw18_QueueLent.K1 (s9 : Sl) (s104 : Int) (b152 : Nat) (j153 : Bool) (j154 : weirlaw18_Side) : M (LS Int (LS Int Bool)) :=
  if ¬ (j153 = true) then
    pure (LS.done (LS.done false))
  else
    idx s9.a s9.len s104 4 >>= fun p155 =>
    st c_weirlaw18_Side p155 j154 >>= fun _ =>
    pure (LS.next (IntKind.wrap .i64 (s104 + 1)))
theorem weirlaw18_QueueLent.K1_ok (a3 : Sl) (s9 : Sl) (s33 : Int) (s104 : Int) (b152 : Nat) (j153 : Bool) (j154 : weirlaw18_Side) :
    SJ weirlaw18_QueueLent.cx [.code (c2 (c1 (c1 (c2 (c1 (c1 (c2 (c1 (c1 (c2 (c1 (c1 (c2 (c1 (c2 (c2 (c2 (c2 (c2 (c2 (c2 (c2 (c2 (c2 weirlaw18_QueueLent.B)))))))))))))))))))))))), .inBlock 5, .code (c2 (c2 (c1 (c1 (c2 (c1 (c1 (c2 (c1 (c1 (c2 (c1 (c2 (c2 (c2 (c2 (c2 (c2 (c2 (c2 (c2 (c2 weirlaw18_QueueLent.B)))))))))))))))))))))), .inLoop (c1 (c1 (c2 (c1 (c1 (c2 (c1 (c1 (c2 (c1 (c2 (c2 (c2 (c2 (c2 (c2 (c2 (c2 (c2 (c2 weirlaw18_QueueLent.B)))))))))))))))))))), .inBlock 4, .inBlock 3, .code (c2 (c2 (c1 (c1 (c2 (c1 (c2 (c2 (c2 (c2 (c2 (c2 (c2 (c2 (c2 (c2 weirlaw18_QueueLent.B)))))))))))))))), .inLoop (c1 (c1 (c2 (c1 (c2 (c2 (c2 (c2 (c2 (c2 (c2 (c2 (c2 (c2 weirlaw18_QueueLent.B)))))))))))))), .inBlock 2, .code (c2 (c2 (c2 (c2 (c2 (c2 (c2 (c2 (c2 (c2 (c2 weirlaw18_QueueLent.B)))))))))))] [(3, Sl.v a3), (13, Sl.v s9), (19, .int .i64 s33), (20, .int .i64 s104), (21, .pointer (some (pt b152 0))), (22, .bool j153)] [(b152, c_weirlaw18_Side.enc j154)] (weirlaw18_QueueLent.K1 s9 s104 b152 j153 j154) (weirlaw18_QueueLent.F2 a3 s9 s33) := by
  unfold weirlaw18_QueueLent.K1
  refine SJ.seq (by kernel_rfl) ?_
  refine SJ.seq (by kernel_rfl) ?_
  refine SJ.region (id := 32) (by kernel_rfl) [0, 1] (by kernel_rfl) ?_
  refine OJ.run [0, 1] [] [3, 13, 19, 20, 21, 128] (m2 := [(3, Sl.v a3), (13, Sl.v s9), (19, .int .i64 s33), (20, .int .i64 s104), (21, .pointer (some (pt b152 0))), (128, .bool (!j153))]) (by kernel_rfl) (by kernel_rfl) ?_
  refine OJ.nil ?_
  refine SJ.cond (t := (.tmp 128)) (b := (!j153)) (by kernel_rfl) (by kernel_rfl) (bnot_iff Iff.rfl) (fun hc156 => ?_) (fun hc156 => ?_)
  · refine SJ.seq (by kernel_rfl) ?_
    refine SJ.region (id := 33) (by kernel_rfl) [0] (by kernel_rfl) ?_
    refine OJ.run [0] [] [8] (m2 := [(8, .bool false)]) (by kernel_rfl) (by kernel_rfl) ?_
    refine OJ.nil ?_
    exact SJ.ret (by kernel_rfl) rfl (Res.run (ys := [.bool false]) (.tmp (by kernel_rfl) .nil) rfl)
  · refine SJ.skip (by kernel_rfl) ?_
    refine SJ.region (id := 34) (by kernel_rfl) [0, 1, 2, 3, 4] (by kernel_rfl) ?_
    refine OJ.run [0, 1] [2, 3, 4] [3, 13, 19, 20, 21, 129, 130] (m2 := [(3, Sl.v a3), (13, Sl.v s9), (19, .int .i64 s33), (20, .int .i64 s104), (21, .pointer (some (pt b152 0))), (129, Sl.v s9), (130, .int .i64 s104)]) (by kernel_rfl) (by kernel_rfl) ?_
    refine OJ.kld (d := 131) (T := 73) (y := .tmp 21) (cd := c_weirlaw18_Side) (j := 0) (b := b152) (o := 0) j154 (pend2 := []) (by kernel_rfl) (by kernel_rfl) Ty73 (by kernel_rfl) rfl (At.whole _) (by kernel_rfl) rfl ?_
    refine OJ.idxS (d := 132) (T := 83) (y := .tmp 129) (j := .tmp 130) (E := 73) (cap := s9.cap) (k := .i64) (by kernel_rfl) (by kernel_rfl) (by kernel_rfl) (by kernel_rfl) (by kernel_rfl) (by kernel_rfl) (by kernel_rfl) (by kernel_rfl) (fun p155 => ?_)
    refine OJ.st (T := 73) (y := .tmp 132) (z := .tmp 131) (owed := []) (by kernel_rfl) (by kernel_rfl) (by kernel_rfl) Ty73 (by kernel_rfl) (by kernel_rfl) ?_
    refine OW.nil ?_
    refine OJ.nil ?_
    refine SJ.inBlock ?_
    refine SJ.region (id := 30) (by kernel_rfl) [0, 1, 2] (by kernel_rfl) ?_
    refine OJ.run [0, 1, 2] [] [3, 13, 19, 20] (m2 := [(3, Sl.v a3), (13, Sl.v s9), (19, .int .i64 s33), (20, .int .i64 (IntKind.wrap .i64 (s104 + 1)))]) (by kernel_rfl) (by kernel_rfl) ?_
    refine OJ.nil ?_
    refine SJ.forget (List.Sublist.cons _ List.Sublist.slnil) ?_
    exact SJ.at_ [3, 13, 19, 20] rfl (by kernel_rfl)
noncomputable def weirlaw18_QueueLent.L2 (a3 : Sl) (s9 : Sl) (s33 : Int) (s104 : Int) : M (LS Int (LS Int Bool)) :=
  if s104 < (s9.len : Int) then
    draws 13 31 (opsOf (c1 (c1 (c1 (c2 (c1 (c1 (c2 (c1 (c1 (c2 (c1 (c1 (c2 (c1 (c2 (c2 (c2 (c2 (c2 (c2 (c2 (c2 (c2 (c2 weirlaw18_QueueLent.B))))))))))))))))))))))))) >>= fun o138 =>
    if bfr o138 8 12 = true then
      idx s9.a s9.len s104 4 >>= fun p158 =>
      ld c_weirlaw18_Side p158 >>= fun x159 =>
      idx a3.a a3.len s33 5 >>= fun p160 =>
      ld c_weirlaw18_Op p160 >>= fun x161 =>
      weirlaw18_step x159 x161 >>= fun r162 =>
      slot 73 >>= fun b163 =>
      same c_weirlaw18_Op p160 x161 >>= fun _ =>
      same c_weirlaw18_Side p158 x159 >>= fun _ =>
      weirlaw18_QueueLent.K1 s9 s104 b163 r162.2 r162.1
    else
      idx s9.a s9.len s104 4 >>= fun p164 =>
      ld c_weirlaw18_Side p164 >>= fun x165 =>
      idx a3.a a3.len s33 5 >>= fun p166 =>
      ld c_weirlaw18_Op p166 >>= fun x167 =>
      slot 73 >>= fun b168 =>
      same c_weirlaw18_Op p166 x167 >>= fun _ =>
      same c_weirlaw18_Side p164 x165 >>= fun _ =>
      weirlaw18_step x165 x167 >>= fun r169 =>
      weirlaw18_QueueLent.K1 s9 s104 b168 r169.2 r169.1
  else
    pure (LS.done (LS.next (IntKind.wrap .i64 (s33 + 1))))
theorem weirlaw18_QueueLent.L2_ok (a3 : Sl) (s9 : Sl) (s33 : Int) (s104 : Int) :
    SJ weirlaw18_QueueLent.cx [.code (c1 (c1 (c2 (c1 (c1 (c2 (c1 (c1 (c2 (c1 (c2 (c2 (c2 (c2 (c2 (c2 (c2 (c2 (c2 (c2 weirlaw18_QueueLent.B)))))))))))))))))))), .inLoop (c1 (c1 (c2 (c1 (c1 (c2 (c1 (c1 (c2 (c1 (c2 (c2 (c2 (c2 (c2 (c2 (c2 (c2 (c2 (c2 weirlaw18_QueueLent.B)))))))))))))))))))), .inBlock 4, .inBlock 3, .code (c2 (c2 (c1 (c1 (c2 (c1 (c2 (c2 (c2 (c2 (c2 (c2 (c2 (c2 (c2 (c2 weirlaw18_QueueLent.B)))))))))))))))), .inLoop (c1 (c1 (c2 (c1 (c2 (c2 (c2 (c2 (c2 (c2 (c2 (c2 (c2 (c2 weirlaw18_QueueLent.B)))))))))))))), .inBlock 2, .code (c2 (c2 (c2 (c2 (c2 (c2 (c2 (c2 (c2 (c2 (c2 weirlaw18_QueueLent.B)))))))))))] [(3, Sl.v a3), (13, Sl.v s9), (19, .int .i64 s33), (20, .int .i64 s104)] [] (weirlaw18_QueueLent.L2 a3 s9 s33 s104) (weirlaw18_QueueLent.F2 a3 s9 s33) := by
  unfold weirlaw18_QueueLent.L2
  refine SJ.seq (by kernel_rfl) ?_
  refine SJ.seq (by kernel_rfl) ?_
  refine SJ.region (id := 29) (by kernel_rfl) [0, 1, 2, 3] (by kernel_rfl) ?_
  refine OJ.run [0, 1, 2, 3] [] [3, 13, 19, 20, 112] (m2 := [(3, Sl.v a3), (13, Sl.v s9), (19, .int .i64 s33), (20, .int .i64 s104), (112, .bool (decide (s104 < (s9.len : Int))))]) (by kernel_rfl) (by kernel_rfl) ?_
  refine OJ.nil ?_
  refine SJ.cond (t := (.tmp 112)) (b := decide (s104 < (s9.len : Int))) (by kernel_rfl) (by kernel_rfl) decide_eq_true_iff (fun hc170 => ?_) (fun hc170 => ?_)
  · refine SJ.skip (by kernel_rfl) ?_
    refine SJ.seq (by kernel_rfl) ?_
    refine SJ.block (id := 5) (by kernel_rfl) ?_
    refine SJ.seq (by kernel_rfl) ?_
    refine SJ.draws (id := 31) (kd := [0, 0, 0, 1, 0, 0, 0, 1, 2, 0, 0, 0, 2, 2, 0]) (bef := [0, 0, 3, 7, 0, 0, 48, 112, 255, 511, 1023, 1023, 0, 6143, 16383]) (ord := [0, 1, 2, 3, 4, 5, 6, 7, 8, 9, 10, 11, 12, 13, 14]) (E := [(8, 12)]) (by kernel_rfl) mixed (by kernel_rfl) (fun o138 hg_ => ?_)
    refine SJ.bfr hg_ (by kernel_rfl) (by decide) (fun ho157 => ?_) (fun ho157 => ?_)
    · refine SJ.leaf hg_ (kd := [0, 0, 0, 1, 0, 0, 0, 1, 2, 0, 0, 0, 2, 2, 0]) (bef := [0, 0, 3, 7, 0, 0, 48, 112, 255, 511, 1023, 1023, 0, 6143, 16383]) (ord := [0, 1, 2, 3, 4, 5, 6, 7, 8, 9, 10, 11, 12, 13, 14]) (E := [(8, 12)]) (by kernel_rfl) (allB.cons ho157 allB.nil) ?_
      refine OJ.run [0, 1] [2, 3, 4, 5, 6, 7, 8, 9, 10, 11, 12, 13, 14] [3, 13, 19, 20, 116, 117] (m2 := [(3, Sl.v a3), (13, Sl.v s9), (19, .int .i64 s33), (20, .int .i64 s104), (116, Sl.v s9), (117, .int .i64 s104)]) (by kernel_rfl) (by kernel_rfl) ?_
      refine OJ.idxS (d := 118) (T := 83) (y := .tmp 116) (j := .tmp 117) (E := 73) (cap := s9.cap) (k := .i64) (by kernel_rfl) (by kernel_rfl) (by kernel_rfl) (by kernel_rfl) (by kernel_rfl) (by kernel_rfl) (by kernel_rfl) (by kernel_rfl) (fun p158 => ?_)
      refine OJ.ld (d := 119) (T := 73) (y := .tmp 118) (pend2 := fun x159 => [⟨3, 73, p158, c_weirlaw18_Side.val x159⟩]) (by kernel_rfl) (by kernel_rfl) Ty73 (by kernel_rfl) (by kernel_rfl) (fun _ => rfl) (fun x159 => ?_)
      refine OJ.run [4, 5] [6, 7, 8, 9, 10, 11, 12, 13, 14] [3, 13, 19, 20, 119, 120, 121] (m2 := [(3, Sl.v a3), (13, Sl.v s9), (19, .int .i64 s33), (20, .int .i64 s104), (119, c_weirlaw18_Side.val x159), (120, Sl.v a3), (121, .int .i64 s33)]) (by kernel_rfl) (by kernel_rfl) ?_
      refine OJ.idxS (d := 122) (T := 53) (y := .tmp 120) (j := .tmp 121) (E := 48) (cap := a3.cap) (k := .i64) (by kernel_rfl) (by kernel_rfl) (by kernel_rfl) (by kernel_rfl) (by kernel_rfl) (by kernel_rfl) (by kernel_rfl) (by kernel_rfl) (fun p160 => ?_)
      refine OJ.ld (d := 123) (T := 48) (y := .tmp 122) (pend2 := fun x161 => [⟨7, 48, p160, c_weirlaw18_Op.val x161⟩, ⟨3, 73, p158, c_weirlaw18_Side.val x159⟩]) (by kernel_rfl) (by kernel_rfl) Ty48 (by kernel_rfl) (by kernel_rfl) (fun _ => rfl) (fun x161 => ?_)
      refine OJ.call (d := 124) (g := 42) (ats := #[73, 48]) (args := [.tmp 119, .tmp 123]) (vals := [c_weirlaw18_Side.val x159, c_weirlaw18_Op.val x161]) (owed := []) (by kernel_rfl) F42 (by kernel_rfl) (weirlaw18_step_ok x159 x161) (by kernel_rfl) (by kernel_rfl) (by kernel_rfl) (fun r162 => ?_)
      refine OW.nil ?_
      refine OJ.run [9, 10, 11] [12, 13, 14] [3, 13, 19, 20, 125, 126] (m2 := [(3, Sl.v a3), (13, Sl.v s9), (19, .int .i64 s33), (20, .int .i64 s104), (125, c_weirlaw18_Side.val r162.1), (126, .bool r162.2)]) (by kernel_rfl) (by kernel_rfl) ?_
      refine OJ.slotOf (d := 21) (op := (.alloc 73)) (cd := c_weirlaw18_Side) (u := z_weirlaw18_Side) (owed := [⟨7, 48, p160, c_weirlaw18_Op.val x161⟩, ⟨3, 73, p158, c_weirlaw18_Side.val x159⟩]) (by kernel_rfl) (alloc_run Ty73) (by kernel_rfl) (by kernel_rfl) (by kernel_rfl) (fun b163 => ?_)
      refine OW.same Ty48 ?_
      refine OW.same Ty73 ?_
      refine OW.nil ?_
      refine OJ.kst (T := 73) (y := .tmp 21) (z := .tmp 125) (cd := c_weirlaw18_Side) (u := r162.1) (j := 0) (b := b163) (o := 0) (c_weirlaw18_Side.enc r162.1) (h2 := [(b163, c_weirlaw18_Side.enc r162.1)]) (owed := []) (by kernel_rfl) (by kernel_rfl) (by kernel_rfl) Ty73 rfl (Upd.whole ((Cod.len _ _).trans (Cod.len _ _).symm)) (by kernel_rfl) (by kernel_rfl) rfl ?_
      refine OW.nil ?_
      refine OJ.run [14] [] [3, 13, 19, 20, 21, 22] (m2 := [(3, Sl.v a3), (13, Sl.v s9), (19, .int .i64 s33), (20, .int .i64 s104), (21, .pointer (some (pt b163 0))), (22, .bool r162.2)]) (by kernel_rfl) (by kernel_rfl) ?_
      refine OJ.nil ?_
      refine SJ.less [3, 13, 19, 20, 21, 22] (m' := [(3, Sl.v a3), (13, Sl.v s9), (19, .int .i64 s33), (20, .int .i64 s104), (21, .pointer (some (pt b163 0))), (22, .bool r162.2)]) (by kernel_rfl) ?_
      exact weirlaw18_QueueLent.K1_ok a3 s9 s33 s104 b163 r162.2 r162.1
    · refine SJ.leaf hg_ (kd := [0, 0, 0, 1, 0, 0, 0, 1, 2, 0, 0, 0, 2, 2, 0]) (bef := [0, 0, 3, 7, 0, 0, 48, 112, 255, 511, 1023, 1023, 0, 6143, 16383]) (ord := [0, 1, 2, 3, 4, 5, 6, 7, 12, 8, 9, 10, 11, 13, 14]) (E := [(12, 8)]) (by kernel_rfl) (allB.cons ho157 allB.nil) ?_
      refine OJ.run [0, 1] [2, 3, 4, 5, 6, 7, 12, 8, 9, 10, 11, 13, 14] [3, 13, 19, 20, 116, 117] (m2 := [(3, Sl.v a3), (13, Sl.v s9), (19, .int .i64 s33), (20, .int .i64 s104), (116, Sl.v s9), (117, .int .i64 s104)]) (by kernel_rfl) (by kernel_rfl) ?_
      refine OJ.idxS (d := 118) (T := 83) (y := .tmp 116) (j := .tmp 117) (E := 73) (cap := s9.cap) (k := .i64) (by kernel_rfl) (by kernel_rfl) (by kernel_rfl) (by kernel_rfl) (by kernel_rfl) (by kernel_rfl) (by kernel_rfl) (by kernel_rfl) (fun p164 => ?_)
      refine OJ.ld (d := 119) (T := 73) (y := .tmp 118) (pend2 := fun x165 => [⟨3, 73, p164, c_weirlaw18_Side.val x165⟩]) (by kernel_rfl) (by kernel_rfl) Ty73 (by kernel_rfl) (by kernel_rfl) (fun _ => rfl) (fun x165 => ?_)
      refine OJ.run [4, 5] [6, 7, 12, 8, 9, 10, 11, 13, 14] [3, 13, 19, 20, 119, 120, 121] (m2 := [(3, Sl.v a3), (13, Sl.v s9), (19, .int .i64 s33), (20, .int .i64 s104), (119, c_weirlaw18_Side.val x165), (120, Sl.v a3), (121, .int .i64 s33)]) (by kernel_rfl) (by kernel_rfl) ?_
      refine OJ.idxS (d := 122) (T := 53) (y := .tmp 120) (j := .tmp 121) (E := 48) (cap := a3.cap) (k := .i64) (by kernel_rfl) (by kernel_rfl) (by kernel_rfl) (by kernel_rfl) (by kernel_rfl) (by kernel_rfl) (by kernel_rfl) (by kernel_rfl) (fun p166 => ?_)
      refine OJ.ld (d := 123) (T := 48) (y := .tmp 122) (pend2 := fun x167 => [⟨7, 48, p166, c_weirlaw18_Op.val x167⟩, ⟨3, 73, p164, c_weirlaw18_Side.val x165⟩]) (by kernel_rfl) (by kernel_rfl) Ty48 (by kernel_rfl) (by kernel_rfl) (fun _ => rfl) (fun x167 => ?_)
      refine OJ.slotOf (d := 21) (op := (.alloc 73)) (cd := c_weirlaw18_Side) (u := z_weirlaw18_Side) (owed := [⟨7, 48, p166, c_weirlaw18_Op.val x167⟩, ⟨3, 73, p164, c_weirlaw18_Side.val x165⟩]) (by kernel_rfl) (alloc_run Ty73) (by kernel_rfl) (by kernel_rfl) (by kernel_rfl) (fun b168 => ?_)
      refine OW.same Ty48 ?_
      refine OW.same Ty73 ?_
      refine OW.nil ?_
      refine OJ.call (d := 124) (g := 42) (ats := #[73, 48]) (args := [.tmp 119, .tmp 123]) (vals := [c_weirlaw18_Side.val x165, c_weirlaw18_Op.val x167]) (owed := []) (by kernel_rfl) F42 (by kernel_rfl) (weirlaw18_step_ok x165 x167) (by kernel_rfl) (by kernel_rfl) (by kernel_rfl) (fun r169 => ?_)
      refine OW.nil ?_
      refine OJ.run [9, 10, 11] [13, 14] [3, 13, 19, 20, 21, 125, 126] (m2 := [(3, Sl.v a3), (13, Sl.v s9), (19, .int .i64 s33), (20, .int .i64 s104), (21, .pointer (some (pt b168 0))), (125, c_weirlaw18_Side.val r169.1), (126, .bool r169.2)]) (by kernel_rfl) (by kernel_rfl) ?_
      refine OJ.kst (T := 73) (y := .tmp 21) (z := .tmp 125) (cd := c_weirlaw18_Side) (u := r169.1) (j := 0) (b := b168) (o := 0) (c_weirlaw18_Side.enc r169.1) (h2 := [(b168, c_weirlaw18_Side.enc r169.1)]) (owed := []) (by kernel_rfl) (by kernel_rfl) (by kernel_rfl) Ty73 rfl (Upd.whole ((Cod.len _ _).trans (Cod.len _ _).symm)) (by kernel_rfl) (by kernel_rfl) rfl ?_
      refine OW.nil ?_
      refine OJ.run [14] [] [3, 13, 19, 20, 21, 22] (m2 := [(3, Sl.v a3), (13, Sl.v s9), (19, .int .i64 s33), (20, .int .i64 s104), (21, .pointer (some (pt b168 0))), (22, .bool r169.2)]) (by kernel_rfl) (by kernel_rfl) ?_
      refine OJ.nil ?_
      refine SJ.less [3, 13, 19, 20, 21, 22] (m' := [(3, Sl.v a3), (13, Sl.v s9), (19, .int .i64 s33), (20, .int .i64 s104), (21, .pointer (some (pt b168 0))), (22, .bool r169.2)]) (by kernel_rfl) ?_
      exact weirlaw18_QueueLent.K1_ok a3 s9 s33 s104 b168 r169.2 r169.1
  · refine SJ.exit (id := 4) (by kernel_rfl) (by rfl) ?_
    refine SJ.inBlock ?_
    refine SJ.region (id := 27) (by kernel_rfl) [0, 1, 2] (by kernel_rfl) ?_
    refine OJ.run [0, 1, 2] [] [3, 13, 19] (m2 := [(3, Sl.v a3), (13, Sl.v s9), (19, .int .i64 (IntKind.wrap .i64 (s33 + 1)))]) (by kernel_rfl) (by kernel_rfl) ?_
    refine OJ.nil ?_
    exact SJ.at_ [3, 13, 19] rfl (by kernel_rfl)
noncomputable def weirlaw18_QueueLent.L1 (a3 : Sl) (s9 : Sl) (s33 : Int) : M (LS Int Bool) :=
  (if s33 < (a3.len : Int) then
      pure (decide (s33 < 200))
    else
      pure false) >>= fun y103 =>
  if y103 = true then
    loopM (fun s_ : Int => weirlaw18_QueueLent.L2 a3 s9 s33 s_) 0
  else
    pure (LS.done true)
theorem weirlaw18_QueueLent.L1_ok (a3 : Sl) (s9 : Sl) (s33 : Int) :
    SJ weirlaw18_QueueLent.cx [.code (c1 (c1 (c2 (c1 (c2 (c2 (c2 (c2 (c2 (c2 (c2 (c2 (c2 (c2 weirlaw18_QueueLent.B)))))))))))))), .inLoop (c1 (c1 (c2 (c1 (c2 (c2 (c2 (c2 (c2 (c2 (c2 (c2 (c2 (c2 weirlaw18_QueueLent.B)))))))))))))), .inBlock 2, .code (c2 (c2 (c2 (c2 (c2 (c2 (c2 (c2 (c2 (c2 (c2 weirlaw18_QueueLent.B)))))))))))] [(3, Sl.v a3), (13, Sl.v s9), (19, .int .i64 s33)] [] (weirlaw18_QueueLent.L1 a3 s9 s33) (weirlaw18_QueueLent.F1 a3 s9) := by
  unfold weirlaw18_QueueLent.L1
  refine SJ.seq (by kernel_rfl) ?_
  refine SJ.seq (by kernel_rfl) ?_
  refine SJ.region (id := 26) (by kernel_rfl) [0, 1, 2, 3, 4, 5, 6, 7] (by kernel_rfl) ?_
  refine OJ.run [0, 1, 2, 3, 4] [5, 6, 7] [3, 13, 19, 103] (m2 := [(3, Sl.v a3), (13, Sl.v s9), (19, .int .i64 s33), (103, .bool (decide (s33 < (a3.len : Int))))]) (by kernel_rfl) (by kernel_rfl) ?_
  refine OJ.join (b := decide (s33 < (a3.len : Int))) [5, 6, 7] [] [3, 13, 19, 106] (fun y103 => [(3, Sl.v a3), (13, Sl.v s9), (19, .int .i64 s33), (106, .bool y103)]) [] [] (by kernel_rfl) (t := 103) (by kernel_rfl) decide_eq_true_iff (fun hp_ => ?_) (fun hp_ => ?_) (by kernel_rfl) (fun _ _ _ _ _ _ h_ => h_) (fun y103 => ?_)
  · refine OJ.run [5, 6, 7] [] [3, 13, 19, 106] (m2 := [(3, Sl.v a3), (13, Sl.v s9), (19, .int .i64 s33), (106, .bool (decide (s33 < 200)))]) (by kernel_rfl) (by kernel_rfl) ?_
    exact OJ.nil ⟨(Cov.mem Cov.nil), rfl, _, rfl, by kernel_rfl⟩
  · refine OJ.run [5, 6, 7] [] [3, 13, 19, 106] (m2 := [(3, Sl.v a3), (13, Sl.v s9), (19, .int .i64 s33), (106, .bool false)]) (by kernel_rfl) (by kernel_rfl) ?_
    exact OJ.nil ⟨(Cov.mem Cov.nil), rfl, _, rfl, by kernel_rfl⟩
  · refine OJ.nil ?_
    refine SJ.cond (t := (.tmp 106)) (b := y103) (by kernel_rfl) (by kernel_rfl) Iff.rfl (fun hc171 => ?_) (fun hc171 => ?_)
    · refine SJ.skip (by kernel_rfl) ?_
      refine SJ.seq (by kernel_rfl) ?_
      refine SJ.block (id := 3) (by kernel_rfl) ?_
      refine SJ.seq (by kernel_rfl) ?_
      refine SJ.region (id := 28) (by kernel_rfl) [0] (by kernel_rfl) ?_
      refine OJ.run [0] [] [3, 13, 19, 20] (m2 := [(3, Sl.v a3), (13, Sl.v s9), (19, .int .i64 s33), (20, .int .i64 0)]) (by kernel_rfl) (by kernel_rfl) ?_
      refine OJ.nil ?_
      refine SJ.block (id := 4) (by kernel_rfl) ?_
      exact SJ.loop (fun s_ : Int => [(3, Sl.v a3), (13, Sl.v s9), (19, .int .i64 s33), (20, .int .i64 s_)]) (fun s_ : Int => []) [3, 13, 19, 20] (by kernel_rfl) (by kernel_rfl) rfl (fun _ _ => rfl) (fun s_ => weirlaw18_QueueLent.L2_ok a3 s9 s33 s_)
    · refine SJ.exit (id := 2) (by kernel_rfl) (by rfl) ?_
      refine SJ.seq (by kernel_rfl) ?_
      refine SJ.region (id := 35) (by kernel_rfl) [0] (by kernel_rfl) ?_
      refine OJ.run [0] [] [8] (m2 := [(8, .bool true)]) (by kernel_rfl) (by kernel_rfl) ?_
      refine OJ.nil ?_
      exact SJ.ret (by kernel_rfl) rfl (Res.run (ys := [.bool true]) (.tmp (by kernel_rfl) .nil) rfl)
noncomputable def weirlaw18_QueueLent.K2 (a3 : Sl) (b8 : Nat) (s9 : Sl) : M Bool :=
  weirlaw18_Room_lay (some (pt b8 0)) Sl.nil >>= fun r32 =>
  loopM (fun s_ : Int => weirlaw18_QueueLent.L1 a3 s9 s_) 0
theorem weirlaw18_QueueLent.K2_ok (a3 : Sl) (b8 : Nat) (s9 : Sl) :
    SJ weirlaw18_QueueLent.cx [.code (c2 (c2 (c2 (c2 (c2 (c2 (c2 (c2 (c2 weirlaw18_QueueLent.B)))))))))] [(3, Sl.v a3), (12, .pointer (some (pt b8 0))), (13, Sl.v s9)] [] (weirlaw18_QueueLent.K2 a3 b8 s9) weirlaw18_QueueLent.F0 := by
  unfold weirlaw18_QueueLent.K2
  refine SJ.seq (by kernel_rfl) ?_
  refine SJ.region (id := 24) (by kernel_rfl) [0, 1] (by kernel_rfl) ?_
  refine OJ.run [0] [1] [3, 13, 97] (m2 := [(3, Sl.v a3), (13, Sl.v s9), (97, .pointer (some (pt b8 0)))]) (by kernel_rfl) (by kernel_rfl) ?_
  refine OJ.call (d := 98) (g := 39) (ats := #[80, 27]) (args := [.tmp 97, .const (.slice none 0 0)]) (vals := [.pointer (some (pt b8 0)), Sl.v Sl.nil]) (owed := []) (by kernel_rfl) F39 (by kernel_rfl) (weirlaw18_Room_lay_ok (some (pt b8 0)) Sl.nil) (by kernel_rfl) (by kernel_rfl) (by kernel_rfl) (fun r32 => ?_)
  refine OW.nil ?_
  refine OJ.nil ?_
  refine SJ.seq (by kernel_rfl) ?_
  refine SJ.seq (by kernel_rfl) ?_
  refine SJ.region (id := 25) (by kernel_rfl) [0] (by kernel_rfl) ?_
  refine OJ.run [0] [] [3, 13, 19] (m2 := [(3, Sl.v a3), (13, Sl.v s9), (19, .int .i64 0)]) (by kernel_rfl) (by kernel_rfl) ?_
  refine OJ.nil ?_
  refine SJ.block (id := 2) (by kernel_rfl) ?_
  exact SJ.loop (fun s_ : Int => [(3, Sl.v a3), (13, Sl.v s9), (19, .int .i64 s_)]) (fun s_ : Int => []) [3, 13, 19] (by kernel_rfl) (by kernel_rfl) rfl (fun _ _ => rfl) (fun s_ => weirlaw18_QueueLent.L1_ok a3 s9 s_)
noncomputable def weirlaw18_QueueLent.F3 (a0 : Sl) (a1 : Sl) (a3 : Sl) (r2 : Sl) (b7 : Nat) (b8 : Nat) : (LS (Sl × Int) Bool) → Reach := loopF [.inLoop (c1 (c1 (c2 (c1 (c2 (c2 (c2 (c2 (c2 (c2 (c2 (c2 weirlaw18_QueueLent.B)))))))))))), .inBlock 0, .code (c2 (c2 (c2 (c2 (c2 (c2 (c2 (c2 (c2 weirlaw18_QueueLent.B)))))))))] (fun s_ : (Sl × Int) => [(3, Sl.v a3), (11, .pointer (some (pt b7 0))), (12, .pointer (some (pt b8 0))), (13, Sl.v s_.1), (14, .int .i64 s_.2)]) (fun s_ : (Sl × Int) => [(b7, (cL.arr 4).enc (⟨[a0, a1, r2, a0], rfl⟩ : (Vec Sl 4)))]) weirlaw18_QueueLent.F0
noncomputable def weirlaw18_QueueLent.L3 (a0 : Sl) (a1 : Sl) (a3 : Sl) (r2 : Sl) (b8 : Nat) (s9 : Sl) (s10 : Int) : M (LS (Sl × Int) Bool) :=
  if s10 < 4 then
    chk (0 ≤ s10 ∧ s10 < (4 : Nat)) >>= fun _ =>
    weirlaw18_Room_lay (some (pt b8 0)) (Vec.g (⟨[a0, a1, r2, a0], rfl⟩ : (Vec Sl 4)) s10 Sl.nil) >>= fun r174 =>
    queue_New r174 >>= fun r175 =>
    chk (0 ≤ s10 ∧ s10 < (4 : Nat)) >>= fun _ =>
    weirlaw18_Room_stand (some (pt b8 0)) (Vec.g (⟨[a0, a1, r2, a0], rfl⟩ : (Vec Sl 4)) s10 Sl.nil) >>= fun r178 =>
    if ¬ (r178 = true) then
      pure (LS.done false)
    else
      chk (0 ≤ s10 ∧ s10 < (4 : Nat)) >>= fun _ =>
      weirref18_New (Vec.g (⟨[a0, a1, r2, a0], rfl⟩ : (Vec Sl 4)) s10 Sl.nil) >>= fun r181 =>
      slot 71 >>= fun b182 =>
      weirlaw18_num r175.2 >>= fun r183 =>
      (if r183 ≠ r181.2 then
          pure true
        else
          pure (!((Option.isNone r175.1) == (r181.2 != 0)))) >>= fun y184 =>
      if y184 = true then
        pure (LS.done false)
      else
        if ¬ (r175.1 = none) then
          slot 73 >>= fun b187 =>
          appl c_weirlaw18_Side 73 48 z_weirlaw18_Side s9 [(⟨r175.1, r181.1⟩ : weirlaw18_Side)] >>= fun r188 =>
          pure (LS.next (r188, IntKind.wrap .i64 (s10 + 1)))
        else
          pure (LS.next (s9, IntKind.wrap .i64 (s10 + 1)))
  else
    (weirlaw18_QueueLent.K2 a3 b8 s9) >>= fun b => pure (LS.done b)
theorem weirlaw18_QueueLent.L3_ok (a0 : Sl) (a1 : Sl) (a3 : Sl) (r2 : Sl) (b7 : Nat) (b8 : Nat) (s9 : Sl) (s10 : Int) :
    SJ weirlaw18_QueueLent.cx [.code (c1 (c1 (c2 (c1 (c2 (c2 (c2 (c2 (c2 (c2 (c2 (c2 weirlaw18_QueueLent.B)))))))))))), .inLoop (c1 (c1 (c2 (c1 (c2 (c2 (c2 (c2 (c2 (c2 (c2 (c2 weirlaw18_QueueLent.B)))))))))))), .inBlock 0, .code (c2 (c2 (c2 (c2 (c2 (c2 (c2 (c2 (c2 weirlaw18_QueueLent.B)))))))))] [(3, Sl.v a3), (11, .pointer (some (pt b7 0))), (12, .pointer (some (pt b8 0))), (13, Sl.v s9), (14, .int .i64 s10)] [(b7, (cL.arr 4).enc (⟨[a0, a1, r2, a0], rfl⟩ : (Vec Sl 4)))] (weirlaw18_QueueLent.L3 a0 a1 a3 r2 b8 s9 s10) (weirlaw18_QueueLent.F3 a0 a1 a3 r2 b7 b8) := by
  unfold weirlaw18_QueueLent.L3
  refine SJ.seq (by kernel_rfl) ?_
  refine SJ.seq (by kernel_rfl) ?_
  refine SJ.region (id := 14) (by kernel_rfl) [0, 1] (by kernel_rfl) ?_
  refine OJ.run [0, 1] [] [3, 11, 12, 13, 14, 53] (m2 := [(3, Sl.v a3), (11, .pointer (some (pt b7 0))), (12, .pointer (some (pt b8 0))), (13, Sl.v s9), (14, .int .i64 s10), (53, .bool (decide (s10 < 4)))]) (by kernel_rfl) (by kernel_rfl) ?_
  refine OJ.nil ?_
  refine SJ.cond (t := (.tmp 53)) (b := decide (s10 < 4)) (by kernel_rfl) (by kernel_rfl) decide_eq_true_iff (fun hc192 => ?_) (fun hc192 => ?_)
  · refine SJ.skip (by kernel_rfl) ?_
    refine SJ.seq (by kernel_rfl) ?_
    refine SJ.block (id := 1) (by kernel_rfl) ?_
    refine SJ.seq (by kernel_rfl) ?_
    refine SJ.region (id := 16) (by kernel_rfl) [0, 1, 2, 3, 4, 5, 6, 7, 8, 9, 10] (by kernel_rfl) ?_
    refine OJ.run [0, 1] [2, 3, 4, 5, 6, 7, 8, 9, 10] [3, 11, 12, 13, 14, 57, 58] (m2 := [(3, Sl.v a3), (11, .pointer (some (pt b7 0))), (12, .pointer (some (pt b8 0))), (13, Sl.v s9), (14, .int .i64 s10), (57, .pointer (some (pt b8 0))), (58, .int .i64 s10)]) (by kernel_rfl) (by kernel_rfl) ?_
    refine OJ.idxK (d := 59) (T := 79) (y := .tmp 11) (j := .tmp 58) (E := 27) (sz := 1) (b := b7) (o := 0) (k := .i64) (by kernel_rfl) (by kernel_rfl) (by kernel_rfl) (by kernel_rfl) (by kernel_rfl) (by kernel_rfl) (by kernel_rfl) (by kernel_rfl) (fun hb172 hb173 => ?_)
    refine OJ.kld (d := 60) (T := 27) (y := .tmp 59) (cd := cL) (j := 0) (b := b7) (o := (0 + s10.toNat * 1)) (Vec.g (⟨[a0, a1, r2, a0], rfl⟩ : (Vec Sl 4)) s10 Sl.nil) (pend2 := []) (by kernel_rfl) (by kernel_rfl) Ty27 (by kernel_rfl) rfl (At.zero (At.arr (z := Sl.nil) hb172 hb173)) (by kernel_rfl) rfl ?_
    refine OJ.call (d := 61) (g := 39) (ats := #[80, 27]) (args := [.tmp 57, .tmp 60]) (vals := [.pointer (some (pt b8 0)), Sl.v (Vec.g (⟨[a0, a1, r2, a0], rfl⟩ : (Vec Sl 4)) s10 Sl.nil)]) (owed := []) (by kernel_rfl) F39 (by kernel_rfl) (weirlaw18_Room_lay_ok (some (pt b8 0)) (Vec.g (⟨[a0, a1, r2, a0], rfl⟩ : (Vec Sl 4)) s10 Sl.nil)) (by kernel_rfl) (by kernel_rfl) (by kernel_rfl) (fun r174 => ?_)
    refine OW.nil ?_
    refine OJ.call (d := 62) (g := 38) (ats := #[27]) (args := [.tmp 61]) (vals := [Sl.v r174]) (owed := []) (by kernel_rfl) F38 (by kernel_rfl) (queue_New_ok r174) (by kernel_rfl) (by kernel_rfl) (by kernel_rfl) (fun r175 => ?_)
    refine OW.nil ?_
    refine OJ.run [6, 7, 8, 9, 10] [] [3, 11, 12, 13, 14, 15, 16] (m2 := [(3, Sl.v a3), (11, .pointer (some (pt b7 0))), (12, .pointer (some (pt b8 0))), (13, Sl.v s9), (14, .int .i64 s10), (15, .pointer r175.1), (16, .int .i64 r175.2)]) (by kernel_rfl) (by kernel_rfl) ?_
    refine OJ.nil ?_
    refine SJ.seq (by kernel_rfl) ?_
    refine SJ.seq (by kernel_rfl) ?_
    refine SJ.region (id := 17) (by kernel_rfl) [0, 1, 2, 3, 4, 5] (by kernel_rfl) ?_
    refine OJ.run [0, 1] [2, 3, 4, 5] [3, 11, 12, 13, 14, 15, 16, 65, 66] (m2 := [(3, Sl.v a3), (11, .pointer (some (pt b7 0))), (12, .pointer (some (pt b8 0))), (13, Sl.v s9), (14, .int .i64 s10), (15, .pointer r175.1), (16, .int .i64 r175.2), (65, .pointer (some (pt b8 0))), (66, .int .i64 s10)]) (by kernel_rfl) (by kernel_rfl) ?_
    refine OJ.idxK (d := 67) (T := 79) (y := .tmp 11) (j := .tmp 66) (E := 27) (sz := 1) (b := b7) (o := 0) (k := .i64) (by kernel_rfl) (by kernel_rfl) (by kernel_rfl) (by kernel_rfl) (by kernel_rfl) (by kernel_rfl) (by kernel_rfl) (by kernel_rfl) (fun hb176 hb177 => ?_)
    refine OJ.kld (d := 68) (T := 27) (y := .tmp 67) (cd := cL) (j := 0) (b := b7) (o := (0 + s10.toNat * 1)) (Vec.g (⟨[a0, a1, r2, a0], rfl⟩ : (Vec Sl 4)) s10 Sl.nil) (pend2 := []) (by kernel_rfl) (by kernel_rfl) Ty27 (by kernel_rfl) rfl (At.zero (At.arr (z := Sl.nil) hb176 hb177)) (by kernel_rfl) rfl ?_
    refine OJ.call (d := 69) (g := 40) (ats := #[80, 27]) (args := [.tmp 65, .tmp 68]) (vals := [.pointer (some (pt b8 0)), Sl.v (Vec.g (⟨[a0, a1, r2, a0], rfl⟩ : (Vec Sl 4)) s10 Sl.nil)]) (owed := []) (by kernel_rfl) F40 (by kernel_rfl) (weirlaw18_Room_stand_ok (some (pt b8 0)) (Vec.g (⟨[a0, a1, r2, a0], rfl⟩ : (Vec Sl 4)) s10 Sl.nil)) (by kernel_rfl) (by kernel_rfl) (by kernel_rfl) (fun r178 => ?_)
    refine OW.nil ?_
    refine OJ.run [5] [] [3, 11, 12, 13, 14, 15, 16, 70] (m2 := [(3, Sl.v a3), (11, .pointer (some (pt b7 0))), (12, .pointer (some (pt b8 0))), (13, Sl.v s9), (14, .int .i64 s10), (15, .pointer r175.1), (16, .int .i64 r175.2), (70, .bool (!r178))]) (by kernel_rfl) (by kernel_rfl) ?_
    refine OJ.nil ?_
    refine SJ.cond (t := (.tmp 70)) (b := (!r178)) (by kernel_rfl) (by kernel_rfl) (bnot_iff Iff.rfl) (fun hc191 => ?_) (fun hc191 => ?_)
    · refine SJ.seq (by kernel_rfl) ?_
      refine SJ.region (id := 18) (by kernel_rfl) [0] (by kernel_rfl) ?_
      refine OJ.run [0] [] [8] (m2 := [(8, .bool false)]) (by kernel_rfl) (by kernel_rfl) ?_
      refine OJ.nil ?_
      exact SJ.ret (by kernel_rfl) rfl (Res.run (ys := [.bool false]) (.tmp (by kernel_rfl) .nil) rfl)
    · refine SJ.skip (by kernel_rfl) ?_
      refine SJ.seq (by kernel_rfl) ?_
      refine SJ.region (id := 19) (by kernel_rfl) [0, 1, 2, 3, 4, 5, 6, 7, 8, 9] (by kernel_rfl) ?_
      refine OJ.run [0] [1, 2, 3, 4, 5, 6, 7, 8, 9] [3, 11, 12, 13, 14, 15, 16, 72] (m2 := [(3, Sl.v a3), (11, .pointer (some (pt b7 0))), (12, .pointer (some (pt b8 0))), (13, Sl.v s9), (14, .int .i64 s10), (15, .pointer r175.1), (16, .int .i64 r175.2), (72, .int .i64 s10)]) (by kernel_rfl) (by kernel_rfl) ?_
      refine OJ.idxK (d := 73) (T := 79) (y := .tmp 11) (j := .tmp 72) (E := 27) (sz := 1) (b := b7) (o := 0) (k := .i64) (by kernel_rfl) (by kernel_rfl) (by kernel_rfl) (by kernel_rfl) (by kernel_rfl) (by kernel_rfl) (by kernel_rfl) (by kernel_rfl) (fun hb179 hb180 => ?_)
      refine OJ.kld (d := 74) (T := 27) (y := .tmp 73) (cd := cL) (j := 0) (b := b7) (o := (0 + s10.toNat * 1)) (Vec.g (⟨[a0, a1, r2, a0], rfl⟩ : (Vec Sl 4)) s10 Sl.nil) (pend2 := []) (by kernel_rfl) (by kernel_rfl) Ty27 (by kernel_rfl) rfl (At.zero (At.arr (z := Sl.nil) hb179 hb180)) (by kernel_rfl) rfl ?_
      refine OJ.call (d := 75) (g := 41) (ats := #[27]) (args := [.tmp 74]) (vals := [Sl.v (Vec.g (⟨[a0, a1, r2, a0], rfl⟩ : (Vec Sl 4)) s10 Sl.nil)]) (owed := []) (by kernel_rfl) F41 (by kernel_rfl) (weirref18_New_ok (Vec.g (⟨[a0, a1, r2, a0], rfl⟩ : (Vec Sl 4)) s10 Sl.nil)) (by kernel_rfl) (by kernel_rfl) (by kernel_rfl) (fun r181 => ?_)
      refine OW.nil ?_
      refine OJ.run [4, 5, 6] [7, 8, 9] [3, 11, 12, 13, 14, 15, 16, 76, 77] (m2 := [(3, Sl.v a3), (11, .pointer (some (pt b7 0))), (12, .pointer (some (pt b8 0))), (13, Sl.v s9), (14, .int .i64 s10), (15, .pointer r175.1), (16, .int .i64 r175.2), (76, c_weirref18_Queue.val r181.1), (77, .int .i64 r181.2)]) (by kernel_rfl) (by kernel_rfl) ?_
      refine OJ.slotOf (d := 17) (op := (.alloc 71)) (cd := c_weirref18_Queue) (u := z_weirref18_Queue) (owed := []) (by kernel_rfl) (alloc_run Ty71) (by kernel_rfl) (by kernel_rfl) (by kernel_rfl) (fun b182 => ?_)
      refine OW.nil ?_
      refine OJ.kst (T := 71) (y := .tmp 17) (z := .tmp 76) (cd := c_weirref18_Queue) (u := r181.1) (j := 0) (b := b182) (o := 0) (c_weirref18_Queue.enc r181.1) (h2 := [(b182, c_weirref18_Queue.enc r181.1), (b7, (cL.arr 4).enc (⟨[a0, a1, r2, a0], rfl⟩ : (Vec Sl 4)))]) (owed := []) (by kernel_rfl) (by kernel_rfl) (by kernel_rfl) Ty71 rfl (Upd.whole ((Cod.len _ _).trans (Cod.len _ _).symm)) (by kernel_rfl) (by kernel_rfl) rfl ?_
      refine OW.nil ?_
      refine OJ.run [9] [] [3, 11, 12, 13, 14, 15, 16, 17, 18] (m2 := [(3, Sl.v a3), (11, .pointer (some (pt b7 0))), (12, .pointer (some (pt b8 0))), (13, Sl.v s9), (14, .int .i64 s10), (15, .pointer r175.1), (16, .int .i64 r175.2), (17, .pointer (some (pt b182 0))), (18, .int .i64 r181.2)]) (by kernel_rfl) (by kernel_rfl) ?_
      refine OJ.nil ?_
      refine SJ.seq (by kernel_rfl) ?_
      refine SJ.seq (by kernel_rfl) ?_
      refine SJ.region (id := 20) (by kernel_rfl) [0, 1, 2, 3, 4, 5, 6, 7, 8, 9, 10] (by kernel_rfl) ?_
      refine OJ.run [0] [1, 2, 3, 4, 5, 6, 7, 8, 9, 10] [3, 11, 12, 13, 14, 15, 17, 18, 78] (m2 := [(3, Sl.v a3), (11, .pointer (some (pt b7 0))), (12, .pointer (some (pt b8 0))), (13, Sl.v s9), (14, .int .i64 s10), (15, .pointer r175.1), (17, .pointer (some (pt b182 0))), (18, .int .i64 r181.2), (78, .int .i64 r175.2)]) (by kernel_rfl) (by kernel_rfl) ?_
      refine OJ.call (d := 79) (g := 17) (ats := #[35]) (args := [.tmp 78]) (vals := [.int .i64 r175.2]) (owed := []) (by kernel_rfl) F17 (by kernel_rfl) (weirlaw18_num_ok r175.2) (by kernel_rfl) (by kernel_rfl) (by kernel_rfl) (fun r183 => ?_)
      refine OW.nil ?_
      refine OJ.run [2, 3, 4] [5, 6, 7, 8, 9, 10] [3, 11, 12, 13, 14, 15, 17, 18, 82] (m2 := [(3, Sl.v a3), (11, .pointer (some (pt b7 0))), (12, .pointer (some (pt b8 0))), (13, Sl.v s9), (14, .int .i64 s10), (15, .pointer r175.1), (17, .pointer (some (pt b182 0))), (18, .int .i64 r181.2), (82, .bool (r183 != r181.2))]) (by kernel_rfl) (by kernel_rfl) ?_
      refine OJ.join (b := (r183 != r181.2)) [5, 6, 7, 8, 9, 10] [] [3, 11, 12, 13, 14, 15, 17, 88] (fun y184 => [(3, Sl.v a3), (11, .pointer (some (pt b7 0))), (12, .pointer (some (pt b8 0))), (13, Sl.v s9), (14, .int .i64 s10), (15, .pointer r175.1), (17, .pointer (some (pt b182 0))), (88, .bool y184)]) [] [] (by kernel_rfl) (t := 82) (by kernel_rfl) bne_iff_ne (fun hp_ => ?_) (fun hp_ => ?_) (by kernel_rfl) (fun _ _ _ _ _ _ h_ => h_) (fun y184 => ?_)
      · refine OJ.run [5, 6, 7, 8, 9, 10] [] [3, 11, 12, 13, 14, 15, 17, 88] (m2 := [(3, Sl.v a3), (11, .pointer (some (pt b7 0))), (12, .pointer (some (pt b8 0))), (13, Sl.v s9), (14, .int .i64 s10), (15, .pointer r175.1), (17, .pointer (some (pt b182 0))), (88, .bool true)]) (by kernel_rfl) (by kernel_rfl) ?_
        exact OJ.nil ⟨(Cov.mem Cov.nil), rfl, _, rfl, by kernel_rfl⟩
      · refine OJ.run [5, 6, 7, 8, 9, 10] [] [3, 11, 12, 13, 14, 15, 17, 88] (m2 := [(3, Sl.v a3), (11, .pointer (some (pt b7 0))), (12, .pointer (some (pt b8 0))), (13, Sl.v s9), (14, .int .i64 s10), (15, .pointer r175.1), (17, .pointer (some (pt b182 0))), (88, .bool (!((Option.isNone r175.1) == (r181.2 != 0))))]) (by kernel_rfl) (by kernel_rfl) ?_
        exact OJ.nil ⟨(Cov.mem Cov.nil), rfl, _, rfl, by kernel_rfl⟩
      · refine OJ.nil ?_
        refine SJ.cond (t := (.tmp 88)) (b := y184) (by kernel_rfl) (by kernel_rfl) Iff.rfl (fun hc190 => ?_) (fun hc190 => ?_)
        · refine SJ.seq (by kernel_rfl) ?_
          refine SJ.region (id := 21) (by kernel_rfl) [0] (by kernel_rfl) ?_
          refine OJ.run [0] [] [8] (m2 := [(8, .bool false)]) (by kernel_rfl) (by kernel_rfl) ?_
          refine OJ.nil ?_
          exact SJ.ret (by kernel_rfl) rfl (Res.run (ys := [.bool false]) (.tmp (by kernel_rfl) .nil) rfl)
        · refine SJ.skip (by kernel_rfl) ?_
          refine SJ.seq (by kernel_rfl) ?_
          refine SJ.region (id := 22) (by kernel_rfl) [0, 1] (by kernel_rfl) ?_
          refine OJ.run [0, 1] [] [3, 11, 12, 13, 14, 15, 17, 90] (m2 := [(3, Sl.v a3), (11, .pointer (some (pt b7 0))), (12, .pointer (some (pt b8 0))), (13, Sl.v s9), (14, .int .i64 s10), (15, .pointer r175.1), (17, .pointer (some (pt b182 0))), (90, .bool (!(Option.isNone r175.1)))]) (by kernel_rfl) (by kernel_rfl) ?_
          refine OJ.nil ?_
          refine SJ.cond (t := (.tmp 90)) (b := (!(Option.isNone r175.1))) (by kernel_rfl) (by kernel_rfl) (bnot_iff Option.isNone_iff_eq_none) (fun hc189 => ?_) (fun hc189 => ?_)
          · refine SJ.region (id := 23) (by kernel_rfl) [0, 1, 2, 3, 4, 5, 6] (by kernel_rfl) ?_
            refine OJ.run [0, 1] [2, 3, 4, 5, 6] [3, 11, 12, 13, 14, 17, 91, 92] (m2 := [(3, Sl.v a3), (11, .pointer (some (pt b7 0))), (12, .pointer (some (pt b8 0))), (13, Sl.v s9), (14, .int .i64 s10), (17, .pointer (some (pt b182 0))), (91, Sl.v s9), (92, .pointer r175.1)]) (by kernel_rfl) (by kernel_rfl) ?_
            refine OJ.kld (d := 93) (T := 71) (y := .tmp 17) (cd := c_weirref18_Queue) (j := 0) (b := b182) (o := 0) r181.1 (pend2 := []) (by kernel_rfl) (by kernel_rfl) Ty71 (by kernel_rfl) rfl (At.whole _) (by kernel_rfl) rfl ?_
            refine OJ.build (d := 94) (T := 73) (parts := [(0, .tmp 92), (1, .tmp 93)]) (ps := [(0, cP.val r175.1), (1, c_weirref18_Queue.val r181.1)]) (cd := c_weirlaw18_Side) (z0 := z_weirlaw18_Side) (⟨r175.1, r181.1⟩ : weirlaw18_Side) (by kernel_rfl) (by kernel_rfl) Ty73 rfl (by kernel_rfl) (Filled.cons (cd := cP) (q := r175.1) (o := 0) (by kernel_rfl) (Up_weirlaw18_Side_Q z_weirlaw18_Side r175.1) (Filled.cons (cd := c_weirref18_Queue) (q := r181.1) (o := 1) (by kernel_rfl) (Up_weirlaw18_Side_R (⟨r175.1, z_weirlaw18_Side.R⟩ : weirlaw18_Side) r181.1) Filled.nil)) (by kernel_rfl) (by kernel_rfl) (by kernel_rfl) ?_
            refine OJ.rowSlot (d := 95) (t := 83) (parts := [(0, .tmp 94)]) (ps := [(0, c_weirlaw18_Side.val (⟨r175.1, r181.1⟩ : weirlaw18_Side))]) (cd := c_weirlaw18_Side) (⟨[(⟨r175.1, r181.1⟩ : weirlaw18_Side)], rfl⟩ : Vec weirlaw18_Side 1) (owed := []) (by kernel_rfl) (by kernel_rfl) (by kernel_rfl) Ty73 (by kernel_rfl) (Filled.cons (cd := c_weirlaw18_Side) (q := (⟨r175.1, r181.1⟩ : weirlaw18_Side)) (o := 0) rfl (Upd.arr (i := 0) (by decide) (by decide)) Filled.nil) (by kernel_rfl) (by kernel_rfl) (by kernel_rfl) (fun b187 => ?_)
            refine OW.nil ?_
            refine OJ.appl (d := 96) (t := 83) (u := 83) (so := .tmp 91) (xo := .tmp 95) (j := 0) (b := b187) (l := (c_weirlaw18_Side.arr 1).enc (⟨[(⟨r175.1, r181.1⟩ : weirlaw18_Side)], rfl⟩ : Vec weirlaw18_Side 1)) (n := 1) (k := 1) [(⟨r175.1, r181.1⟩ : weirlaw18_Side)] (owed := []) (by kernel_rfl) (by kernel_rfl) (by kernel_rfl) Ty73 (by kernel_rfl) (by kernel_rfl) (by kernel_rfl) (by rfl) (Cod.arr_enc _ _ _) (by rfl) (by kernel_rfl) (by kernel_rfl) (by kernel_rfl) (fun r188 => ?_)
            refine OW.nil ?_
            refine OJ.run [6] [] [3, 11, 12, 13, 14] (m2 := [(3, Sl.v a3), (11, .pointer (some (pt b7 0))), (12, .pointer (some (pt b8 0))), (13, Sl.v r188), (14, .int .i64 s10)]) (by kernel_rfl) (by kernel_rfl) ?_
            refine OJ.nil ?_
            refine SJ.inBlock ?_
            refine SJ.region (id := 15) (by kernel_rfl) [0, 1, 2] (by kernel_rfl) ?_
            refine OJ.run [0, 1, 2] [] [3, 11, 12, 13, 14] (m2 := [(3, Sl.v a3), (11, .pointer (some (pt b7 0))), (12, .pointer (some (pt b8 0))), (13, Sl.v r188), (14, .int .i64 (IntKind.wrap .i64 (s10 + 1)))]) (by kernel_rfl) (by kernel_rfl) ?_
            refine OJ.nil ?_
            refine SJ.forget (List.Sublist.cons _ (List.Sublist.cons _ (List.Sublist.cons_cons _ List.Sublist.slnil))) ?_
            exact SJ.at_ [3, 11, 12, 13, 14] rfl (by kernel_rfl)
          · refine SJ.skip (by kernel_rfl) ?_
            refine SJ.inBlock ?_
            refine SJ.region (id := 15) (by kernel_rfl) [0, 1, 2] (by kernel_rfl) ?_
            refine OJ.run [0, 1, 2] [] [3, 11, 12, 13, 14] (m2 := [(3, Sl.v a3), (11, .pointer (some (pt b7 0))), (12, .pointer (some (pt b8 0))), (13, Sl.v s9), (14, .int .i64 (IntKind.wrap .i64 (s10 + 1)))]) (by kernel_rfl) (by kernel_rfl) ?_
            refine OJ.nil ?_
            refine SJ.forget (List.Sublist.cons _ (List.Sublist.cons_cons _ List.Sublist.slnil)) ?_
            exact SJ.at_ [3, 11, 12, 13, 14] rfl (by kernel_rfl)
  · refine SJ.exit (id := 0) (by kernel_rfl) (by rfl) ?_
    refine SJ.forget (List.Sublist.cons _ List.Sublist.slnil) ?_
    refine SJ.less [3, 12, 13] (m' := [(3, Sl.v a3), (12, .pointer (some (pt b8 0))), (13, Sl.v s9)]) (by kernel_rfl) ?_
    refine SJ.done ?_
    exact weirlaw18_QueueLent.K2_ok a3 b8 s9
noncomputable def weirlaw18_QueueLent.K3 (a0 : Sl) (a1 : Sl) (a3 : Sl) (r2 : Sl) : M Bool :=
  slot 79 >>= fun b7 =>
  newv 82 c_weirlaw18_Room z_weirlaw18_Room >>= fun b8 =>
  loopM (fun s_ : (Sl × Int) => weirlaw18_QueueLent.L3 a0 a1 a3 r2 b8 s_.1 s_.2) (Sl.nil, 0)
theorem weirlaw18_QueueLent.K3_ok (a0 : Sl) (a1 : Sl) (a3 : Sl) (r2 : Sl) :
    SJ weirlaw18_QueueLent.cx [.code (c2 (c2 (c2 (c2 (c2 weirlaw18_QueueLent.B)))))] [(0, Sl.v a0), (1, Sl.v a1), (3, Sl.v a3), (9, Sl.v r2)] [] (weirlaw18_QueueLent.K3 a0 a1 a3 r2) weirlaw18_QueueLent.F0 := by
  unfold weirlaw18_QueueLent.K3
  refine SJ.seq (by kernel_rfl) ?_
  refine SJ.region (id := 10) (by kernel_rfl) [0, 1, 2, 3, 4, 5, 6] (by kernel_rfl) ?_
  refine OJ.run [0, 1, 2, 3] [4, 5, 6] [3, 45, 46, 47, 48] (m2 := [(3, Sl.v a3), (45, Sl.v a0), (46, Sl.v a1), (47, Sl.v r2), (48, Sl.v a0)]) (by kernel_rfl) (by kernel_rfl) ?_
  refine OJ.build (d := 49) (T := 79) (parts := [(0, .tmp 45), (1, .tmp 46), (2, .tmp 47), (3, .tmp 48)]) (ps := [(0, cL.val a0), (1, cL.val a1), (2, cL.val r2), (3, cL.val a0)]) (cd := (cL.arr 4)) (z0 := (Vec.rep 4 Sl.nil)) (⟨[a0, a1, r2, a0], rfl⟩ : (Vec Sl 4)) (by kernel_rfl) (by kernel_rfl) Ty79 rfl (by kernel_rfl) (Filled.cons (cd := cL) (q := a0) (o := 0) (by kernel_rfl) (Upd.arr (i := 0) (by decide) (by decide)) (Filled.cons (cd := cL) (q := a1) (o := 1) (by kernel_rfl) (Upd.arr (i := 1) (by decide) (by decide)) (Filled.cons (cd := cL) (q := r2) (o := 2) (by kernel_rfl) (Upd.arr (i := 2) (by decide) (by decide)) (Filled.cons (cd := cL) (q := a0) (o := 3) (by kernel_rfl) (Upd.arr (i := 3) (by decide) (by decide)) Filled.nil)))) (by kernel_rfl) (by kernel_rfl) (by kernel_rfl) ?_
  refine OJ.slotOf (d := 11) (op := (.alloc 79)) (cd := (cL.arr 4)) (u := (Vec.rep 4 Sl.nil)) (owed := []) (by kernel_rfl) (alloc_run Ty79) (by kernel_rfl) (by kernel_rfl) (by kernel_rfl) (fun b7 => ?_)
  refine OW.nil ?_
  refine OJ.kst (T := 79) (y := .tmp 11) (z := .tmp 49) (cd := (cL.arr 4)) (u := (⟨[a0, a1, r2, a0], rfl⟩ : (Vec Sl 4))) (j := 0) (b := b7) (o := 0) ((cL.arr 4).enc (⟨[a0, a1, r2, a0], rfl⟩ : (Vec Sl 4))) (h2 := [(b7, (cL.arr 4).enc (⟨[a0, a1, r2, a0], rfl⟩ : (Vec Sl 4)))]) (owed := []) (by kernel_rfl) (by kernel_rfl) (by kernel_rfl) Ty79 rfl (Upd.whole ((Cod.len _ _).trans (Cod.len _ _).symm)) (by kernel_rfl) (by kernel_rfl) rfl ?_
  refine OW.nil ?_
  refine OJ.nil ?_
  refine SJ.seq (by kernel_rfl) ?_
  refine SJ.region (id := 11) (by kernel_rfl) [0, 1, 2] (by kernel_rfl) ?_
  refine OJ.build (d := 50) (T := 82) (parts := []) (ps := []) (cd := c_weirlaw18_Room) (z0 := z_weirlaw18_Room) z_weirlaw18_Room (by kernel_rfl) (by kernel_rfl) Ty82 rfl (by kernel_rfl) Filled.nil (by kernel_rfl) (by kernel_rfl) (by kernel_rfl) ?_
  refine OJ.newOf (d := 51) (op := (.box 82 (.tmp 50))) (cd := c_weirlaw18_Room) (u := z_weirlaw18_Room) (owed := []) (by kernel_rfl) (box_run (by kernel_rfl)) (by kernel_rfl) (by kernel_rfl) (by kernel_rfl) (fun b8 => ?_)
  refine OW.nil ?_
  refine OJ.run [2] [] [3, 11, 12] (m2 := [(3, Sl.v a3), (11, .pointer (some (pt b7 0))), (12, .pointer (some (pt b8 0)))]) (by kernel_rfl) (by kernel_rfl) ?_
  refine OJ.nil ?_
  refine SJ.seq (by kernel_rfl) ?_
  refine SJ.region (id := 12) (by kernel_rfl) [0] (by kernel_rfl) ?_
  refine OJ.run [0] [] [3, 11, 12, 13] (m2 := [(3, Sl.v a3), (11, .pointer (some (pt b7 0))), (12, .pointer (some (pt b8 0))), (13, Sl.v Sl.nil)]) (by kernel_rfl) (by kernel_rfl) ?_
  refine OJ.nil ?_
  refine SJ.seq (by kernel_rfl) ?_
  refine SJ.seq (by kernel_rfl) ?_
  refine SJ.region (id := 13) (by kernel_rfl) [0] (by kernel_rfl) ?_
  refine OJ.run [0] [] [3, 11, 12, 13, 14] (m2 := [(3, Sl.v a3), (11, .pointer (some (pt b7 0))), (12, .pointer (some (pt b8 0))), (13, Sl.v Sl.nil), (14, .int .i64 0)]) (by kernel_rfl) (by kernel_rfl) ?_
  refine OJ.nil ?_
  refine SJ.block (id := 0) (by kernel_rfl) ?_
  exact SJ.loop (fun s_ : (Sl × Int) => [(3, Sl.v a3), (11, .pointer (some (pt b7 0))), (12, .pointer (some (pt b8 0))), (13, Sl.v s_.1), (14, .int .i64 s_.2)]) (fun s_ : (Sl × Int) => [(b7, (cL.arr 4).enc (⟨[a0, a1, r2, a0], rfl⟩ : (Vec Sl 4)))]) [3, 11, 12, 13, 14] (by kernel_rfl) (by kernel_rfl) rfl (fun _ _ => rfl) (fun s_ => weirlaw18_QueueLent.L3_ok a0 a1 a3 r2 b7 b8 s_.1 s_.2)
noncomputable def weirlaw18_QueueLent.K4 (a0 : Sl) (a1 : Sl) (a3 : Sl) (r2 : Sl) (j193 : Int) : M Bool :=
  idx r2.a r2.len j193 5 >>= fun p194 =>
  st c_api_Class p194 (⟨64, 1, 70000, z_api_Class.Rate, z_api_Class.Burst⟩ : api_Class) >>= fun _ =>
  weirlaw18_QueueLent.K3 a0 a1 a3 r2
theorem weirlaw18_QueueLent.K4_ok (a0 : Sl) (a1 : Sl) (a3 : Sl) (r2 : Sl) (j193 : Int) :
    SJ weirlaw18_QueueLent.cx [.code (c2 (c2 (c1 (c2 (c1 (c2 (c2 (c2 (c2 weirlaw18_QueueLent.B))))))))), .code (c2 (c2 (c2 (c2 (c2 weirlaw18_QueueLent.B)))))] [(0, Sl.v a0), (1, Sl.v a1), (3, Sl.v a3), (9, Sl.v r2), (10, .int .i64 j193)] [] (weirlaw18_QueueLent.K4 a0 a1 a3 r2 j193) weirlaw18_QueueLent.F0 := by
  unfold weirlaw18_QueueLent.K4
  refine SJ.region (id := 9) (by kernel_rfl) [0, 1, 2, 3, 4] (by kernel_rfl) ?_
  refine OJ.run [0, 1] [2, 3, 4] [0, 1, 3, 9, 41, 42] (m2 := [(0, Sl.v a0), (1, Sl.v a1), (3, Sl.v a3), (9, Sl.v r2), (41, Sl.v r2), (42, .int .i64 j193)]) (by kernel_rfl) (by kernel_rfl) ?_
  refine OJ.build (d := 43) (T := 41) (parts := [(0, .const (.int .i64 64)), (1, .const (.int .i64 1)), (2, .const (.int .i64 70000))]) (ps := [(0, (cI .i64).val 64), (1, (cI .i64).val 1), (2, (cI .i64).val 70000)]) (cd := c_api_Class) (z0 := z_api_Class) (⟨64, 1, 70000, z_api_Class.Rate, z_api_Class.Burst⟩ : api_Class) (by kernel_rfl) (by kernel_rfl) Ty41 rfl (by kernel_rfl) (Filled.cons (cd := (cI .i64)) (q := 64) (o := 0) (by kernel_rfl) (Up_api_Class_Quantum z_api_Class 64) (Filled.cons (cd := (cI .i64)) (q := 1) (o := 1) (by kernel_rfl) (Up_api_Class_Items (⟨64, z_api_Class.Items, z_api_Class.Bytes, z_api_Class.Rate, z_api_Class.Burst⟩ : api_Class) 1) (Filled.cons (cd := (cI .i64)) (q := 70000) (o := 2) (by kernel_rfl) (Up_api_Class_Bytes (⟨64, 1, z_api_Class.Bytes, z_api_Class.Rate, z_api_Class.Burst⟩ : api_Class) 70000) Filled.nil))) (by kernel_rfl) (by kernel_rfl) (by kernel_rfl) ?_
  refine OJ.idxS (d := 44) (T := 27) (y := .tmp 41) (j := .tmp 42) (E := 41) (cap := r2.cap) (k := .i64) (by kernel_rfl) (by kernel_rfl) (by kernel_rfl) (by kernel_rfl) (by kernel_rfl) (by kernel_rfl) (by kernel_rfl) (by kernel_rfl) (fun p194 => ?_)
  refine OJ.st (T := 41) (y := .tmp 44) (z := .tmp 43) (owed := []) (by kernel_rfl) (by kernel_rfl) (by kernel_rfl) Ty41 (by kernel_rfl) (by kernel_rfl) ?_
  refine OW.nil ?_
  refine OJ.nil ?_
  refine SJ.less [0, 1, 3, 9] (m' := [(0, Sl.v a0), (1, Sl.v a1), (3, Sl.v a3), (9, Sl.v r2)]) (by kernel_rfl) ?_
  exact weirlaw18_QueueLent.K3_ok a0 a1 a3 r2
noncomputable def weirlaw18_QueueLent (a0 : Sl) (a1 : Sl) (a2 : Int) (a3 : Sl) : M Bool :=
  weirlaw18_started >>= fun r1 =>
  if ¬ (r1 = true) then
    pure false
  else
    appS c_api_Class 41 40 z_api_Class Sl.nil a0 >>= fun r2 =>
    if (r2.len : Int) > 0 then
      chk ((r2.len : Int) ≠ 0) >>= fun _ =>
      if (Int.tmod a2 (r2.len : Int)) < 0 then
        weirlaw18_QueueLent.K4 a0 a1 a3 r2 (IntKind.wrap .i64 ((Int.tmod a2 (r2.len : Int)) + (r2.len : Int)))
      else
        weirlaw18_QueueLent.K4 a0 a1 a3 r2 (Int.tmod a2 (r2.len : Int))
    else
      weirlaw18_QueueLent.K3 a0 a1 a3 r2
theorem weirlaw18_QueueLent_ok (a0 : Sl) (a1 : Sl) (a2 : Int) (a3 : Sl) : Ref Try.prog 13 [Sl.v a0, Sl.v a1, .int .i64 a2, Sl.v a3] (weirlaw18_QueueLent a0 a1 a2 a3) weirlaw18_QueueLent.out := by
  refine Ref.of (cd := weirlaw18_QueueLent.B) Try.func13 (by kernel_rfl) (by kernel_rfl) ?_
  show SJ weirlaw18_QueueLent.cx [.code weirlaw18_QueueLent.B] [(0, Sl.v a0), (1, Sl.v a1), (2, .int .i64 a2), (3, Sl.v a3)] [] (weirlaw18_QueueLent a0 a1 a2 a3) weirlaw18_QueueLent.F0
  unfold weirlaw18_QueueLent
  refine SJ.seq (by kernel_rfl) ?_
  refine SJ.region (id := 0) (by kernel_rfl) [0] (by kernel_rfl) ?_
  refine OJ.run [0] [] [0, 1, 2, 3] (m2 := [(0, Sl.v a0), (1, Sl.v a1), (2, .int .i64 a2), (3, Sl.v a3)]) (by kernel_rfl) (by kernel_rfl) ?_
  refine OJ.nil ?_
  refine SJ.seq (by kernel_rfl) ?_
  refine SJ.seq (by kernel_rfl) ?_
  refine SJ.region (id := 1) (by kernel_rfl) [0, 1] (by kernel_rfl) ?_
  refine OJ.call (d := 23) (g := 33) (ats := #[]) (args := []) (vals := []) (owed := []) (by kernel_rfl) F33 (by kernel_rfl) (weirlaw18_started_ok ) (by kernel_rfl) (by kernel_rfl) (by kernel_rfl) (fun r1 => ?_)
  refine OW.nil ?_
  refine OJ.run [1] [] [0, 1, 2, 3, 24] (m2 := [(0, Sl.v a0), (1, Sl.v a1), (2, .int .i64 a2), (3, Sl.v a3), (24, .bool (!r1))]) (by kernel_rfl) (by kernel_rfl) ?_
  refine OJ.nil ?_
  refine SJ.cond (t := (.tmp 24)) (b := (!r1)) (by kernel_rfl) (by kernel_rfl) (bnot_iff Iff.rfl) (fun hc198 => ?_) (fun hc198 => ?_)
  · refine SJ.seq (by kernel_rfl) ?_
    refine SJ.region (id := 2) (by kernel_rfl) [0] (by kernel_rfl) ?_
    refine OJ.run [0] [] [8] (m2 := [(8, .bool false)]) (by kernel_rfl) (by kernel_rfl) ?_
    refine OJ.nil ?_
    exact SJ.ret (by kernel_rfl) rfl (Res.run (ys := [.bool false]) (.tmp (by kernel_rfl) .nil) rfl)
  · refine SJ.skip (by kernel_rfl) ?_
    refine SJ.seq (by kernel_rfl) ?_
    refine SJ.region (id := 3) (by kernel_rfl) [0] (by kernel_rfl) ?_
    refine OJ.run [0] [] [0, 1, 2, 3, 9] (m2 := [(0, Sl.v a0), (1, Sl.v a1), (2, .int .i64 a2), (3, Sl.v a3), (9, Sl.v Sl.nil)]) (by kernel_rfl) (by kernel_rfl) ?_
    refine OJ.nil ?_
    refine SJ.seq (by kernel_rfl) ?_
    refine SJ.region (id := 4) (by kernel_rfl) [0, 1, 2, 3] (by kernel_rfl) ?_
    refine OJ.run [0, 1] [2, 3] [0, 1, 2, 3, 9, 25, 26] (m2 := [(0, Sl.v a0), (1, Sl.v a1), (2, .int .i64 a2), (3, Sl.v a3), (9, Sl.v Sl.nil), (25, Sl.v Sl.nil), (26, Sl.v a0)]) (by kernel_rfl) (by kernel_rfl) ?_
    refine OJ.appS (d := 27) (t := 27) (u := 27) (so := .tmp 25) (xo := .tmp 26) (owed := []) (by kernel_rfl) (by kernel_rfl) (by kernel_rfl) Ty41 (by kernel_rfl) (by kernel_rfl) (by kernel_rfl) (by kernel_rfl) (by kernel_rfl) (by kernel_rfl) (fun r2 => ?_)
    refine OW.nil ?_
    refine OJ.run [3] [] [0, 1, 2, 3, 9] (m2 := [(0, Sl.v a0), (1, Sl.v a1), (2, .int .i64 a2), (3, Sl.v a3), (9, Sl.v r2)]) (by kernel_rfl) (by kernel_rfl) ?_
    refine OJ.nil ?_
    refine SJ.seq (by kernel_rfl) ?_
    refine SJ.seq (by kernel_rfl) ?_
    refine SJ.region (id := 5) (by kernel_rfl) [0, 1, 2] (by kernel_rfl) ?_
    refine OJ.run [0, 1, 2] [] [0, 1, 2, 3, 9, 30] (m2 := [(0, Sl.v a0), (1, Sl.v a1), (2, .int .i64 a2), (3, Sl.v a3), (9, Sl.v r2), (30, .bool (decide ((r2.len : Int) > 0)))]) (by kernel_rfl) (by kernel_rfl) ?_
    refine OJ.nil ?_
    refine SJ.cond (t := (.tmp 30)) (b := decide ((r2.len : Int) > 0)) (by kernel_rfl) (by kernel_rfl) decide_eq_true_iff (fun hc197 => ?_) (fun hc197 => ?_)
    · refine SJ.seq (by kernel_rfl) ?_
      refine SJ.region (id := 6) (by kernel_rfl) [0, 1, 2, 3, 4] (by kernel_rfl) ?_
      refine OJ.run [0, 1, 2] [3, 4] [0, 1, 3, 9, 31, 33] (m2 := [(0, Sl.v a0), (1, Sl.v a1), (3, Sl.v a3), (9, Sl.v r2), (31, .int .i64 a2), (33, .int .i64 (r2.len : Int))]) (by kernel_rfl) (by kernel_rfl) ?_
      refine OJ.rem (d := 34) (T := 3) (yT := 3) (y := .tmp 31) (z := .tmp 33) (p := a2) (q := (r2.len : Int)) (k := .i64) (by kernel_rfl) (by kernel_rfl) (by kernel_rfl) (by kernel_rfl) (by kernel_rfl) (by kernel_rfl) (fun hq196 => ?_)
      refine OJ.run [4] [] [0, 1, 3, 9, 10] (m2 := [(0, Sl.v a0), (1, Sl.v a1), (3, Sl.v a3), (9, Sl.v r2), (10, .int .i64 (Int.tmod a2 (r2.len : Int)))]) (by kernel_rfl) (by kernel_rfl) ?_
      refine OJ.nil ?_
      refine SJ.seq (by kernel_rfl) ?_
      refine SJ.seq (by kernel_rfl) ?_
      refine SJ.region (id := 7) (by kernel_rfl) [0, 1] (by kernel_rfl) ?_
      refine OJ.run [0, 1] [] [0, 1, 3, 9, 10, 36] (m2 := [(0, Sl.v a0), (1, Sl.v a1), (3, Sl.v a3), (9, Sl.v r2), (10, .int .i64 (Int.tmod a2 (r2.len : Int))), (36, .bool (decide ((Int.tmod a2 (r2.len : Int)) < 0)))]) (by kernel_rfl) (by kernel_rfl) ?_
      refine OJ.nil ?_
      refine SJ.cond (t := (.tmp 36)) (b := decide ((Int.tmod a2 (r2.len : Int)) < 0)) (by kernel_rfl) (by kernel_rfl) decide_eq_true_iff (fun hc195 => ?_) (fun hc195 => ?_)
      · refine SJ.region (id := 8) (by kernel_rfl) [0, 1, 2, 3, 4] (by kernel_rfl) ?_
        refine OJ.run [0, 1, 2, 3, 4] [] [0, 1, 3, 9, 10] (m2 := [(0, Sl.v a0), (1, Sl.v a1), (3, Sl.v a3), (9, Sl.v r2), (10, .int .i64 (IntKind.wrap .i64 ((Int.tmod a2 (r2.len : Int)) + (r2.len : Int))))]) (by kernel_rfl) (by kernel_rfl) ?_
        refine OJ.nil ?_
        refine SJ.less [0, 1, 3, 9, 10] (m' := [(0, Sl.v a0), (1, Sl.v a1), (3, Sl.v a3), (9, Sl.v r2), (10, .int .i64 (IntKind.wrap .i64 ((Int.tmod a2 (r2.len : Int)) + (r2.len : Int))))]) (by kernel_rfl) ?_
        exact weirlaw18_QueueLent.K4_ok a0 a1 a3 r2 (IntKind.wrap .i64 ((Int.tmod a2 (r2.len : Int)) + (r2.len : Int)))
      · refine SJ.skip (by kernel_rfl) ?_
        refine SJ.less [0, 1, 3, 9, 10] (m' := [(0, Sl.v a0), (1, Sl.v a1), (3, Sl.v a3), (9, Sl.v r2), (10, .int .i64 (Int.tmod a2 (r2.len : Int)))]) (by kernel_rfl) ?_
        exact weirlaw18_QueueLent.K4_ok a0 a1 a3 r2 (Int.tmod a2 (r2.len : Int))
    · refine SJ.skip (by kernel_rfl) ?_
      refine SJ.less [0, 1, 3, 9] (m' := [(0, Sl.v a0), (1, Sl.v a1), (3, Sl.v a3), (9, Sl.v r2)]) (by kernel_rfl) ?_
      exact weirlaw18_QueueLent.K3_ok a0 a1 a3 r2
end Go.Proofs.Ytgddbpmfendaeaa.Lx
