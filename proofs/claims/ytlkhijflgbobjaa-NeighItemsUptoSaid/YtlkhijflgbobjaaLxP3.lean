/- Programs of the M-world for Go functions, each with the proof that the Go text does what it says. Printed by lxgen.py. -/
import Derived.Test.YtlkhijflgbobjaaLxT
import Derived.Test.YtlkhijflgbobjaaLxP0
import Derived.Test.YtlkhijflgbobjaaLxP1
import Derived.Test.YtlkhijflgbobjaaLxP2
set_option linter.unusedVariables false
set_option linter.unusedSimpArgs false
namespace Go.Proofs.Ytlkhijflgbobjaa.Lx
open Go Go.Proofs
/-! ### (*weir/neigh.Cache).Get: function 43 -/
noncomputable def neigh_Cache_Get.B : Code := (Try.f43.body).getD .skip
noncomputable def neigh_Cache_Get.cx : Fx := ⟨Try.prog, 43, Try.f43⟩
noncomputable def neigh_Cache_Get.out (r_ : (api_Neighbour × Bool)) : Value := .tuple #[c_api_Neighbour.val r_.1, .bool r_.2]
noncomputable def neigh_Cache_Get.F0 (r_ : (api_Neighbour × Bool)) : Reach := .ret (neigh_Cache_Get.out r_)
noncomputable def neigh_Cache_Get (a0 : (Option Addr)) (a1 : Int) (a2 : api_IP) : M (api_Neighbour × Bool) :=
  slot 32 >>= fun b1 =>
  slot 77 >>= fun b2 =>
  draw >>= fun _ =>
  nilck a0 >>= fun p3 =>
  ld cM (Addr.add p3 5) >>= fun x4 =>
  mget c_neigh_key cP none x4 (⟨a1, a2⟩ : neigh_key) >>= fun r5 =>
  if r5.1 = none then
    pure (z_api_Neighbour, false)
  else
    neigh_entry_told r5.1 >>= fun r6 =>
    pure (r6, true)
theorem neigh_Cache_Get_ok (a0 : (Option Addr)) (a1 : Int) (a2 : api_IP) : Ref Try.prog 43 [.pointer a0, .int .i64 a1, c_api_IP.val a2] (neigh_Cache_Get a0 a1 a2) neigh_Cache_Get.out := by
  refine Ref.of (cd := neigh_Cache_Get.B) Try.func43 ?_
  show SJ neigh_Cache_Get.cx [.code neigh_Cache_Get.B] [(0, .pointer a0), (1, .int .i64 a1), (2, c_api_IP.val a2)] [] (neigh_Cache_Get a0 a1 a2) neigh_Cache_Get.F0
  unfold neigh_Cache_Get
  refine SJ.sr 3 ?_
  refine OJ.slotOf (d := 5) (op := (.box 32 (.tmp 2))) (cd := c_api_IP) (u := a2) (owed := []) (box_run (by kernel_rfl)) (fun b1 => ?_)
  refine OW.nil ?_
  refine OJ.slotOf (d := 6) (op := (.alloc 77)) (cd := c_api_Neighbour) (u := z_api_Neighbour) (owed := []) (alloc_run Ty77) (fun b2 => ?_)
  refine OW.nil ?_
  refine OJ.go 1 [(7, .bool false)] ?_
  refine OJ.nil ?_
  refine SJ.seq ?_
  refine SJ.draw (id := 1) (kd := [0, 0, 0, 1, 0, 1, 0, 2, 0]) (bef := [0, 1, 3, 7, 0, 0, 48, 127, 255]) (ord := [0, 1, 2, 3, 4, 5, 6, 7, 8]) mixed ?_
  refine OJ.go 1 [(9, .pointer a0)] ?_
  refine OJ.nilck (d := 10) (y := .tmp 9) (fun p3 => ?_)
  refine OJ.go 1 [(11, .pointer (some (Addr.add p3 5)))] ?_
  refine OJ.ld (d := 12) (y := .tmp 11) (pend2 := fun x4 => [⟨3, 101, (Addr.add p3 5), cM.val x4⟩]) Ty101 (fun _ => rfl) (fun x4 => ?_)
  refine OJ.go 1 [(13, .int .i64 a1)] ?_
  refine OJ.kld (d := 14) (y := .tmp 5) (cd := c_api_IP) (j := 1) (b := b1) (o := 0) a2 (pend2 := [⟨5, 32, (pt b1 0), c_api_IP.val a2⟩, ⟨3, 101, (Addr.add p3 5), cM.val x4⟩]) Ty32 rfl (At.whole _) rfl ?_
  refine OJ.build (d := 15) (T := 99) (parts := [(0, .tmp 13), (1, .tmp 14)]) (ps := [(0, (cI .i64).val a1), (1, c_api_IP.val a2)]) (cd := c_neigh_key) (z0 := z_neigh_key) (⟨a1, a2⟩ : neigh_key) Ty99 rfl (Filled.cons (cd := (cI .i64)) (q := a1) (o := 0) (by kernel_rfl) (Up_neigh_key_port z_neigh_key a1) (Filled.cons (cd := c_api_IP) (q := a2) (o := 1) (by kernel_rfl) (Up_neigh_key_ip (⟨a1, z_neigh_key.ip⟩ : neigh_key) a2) Filled.nil)) ?_
  refine OJ.get0 (d := 16) (x := .tmp 12) (y := .tmp 15) (owed := []) Kt101 (fun r5 => ?_)
  refine OW.nil ?_
  refine OJ.go 1 [(8, .pointer r5.1)] ?_
  refine OJ.nil ?_
  refine SJ.seq ?_
  refine SJ.sr 2 ?_
  refine OJ.go 2 [(18, .bool (Option.isNone r5.1)), (17, .pointer r5.1)] ?_
  refine OJ.nil ?_
  refine SJ.cond (t := (.tmp 18)) (b := (Option.isNone r5.1)) Option.isNone_iff_eq_none (fun hc7 => ?_) (fun hc7 => ?_)
  · refine SJ.sr 3 ?_
    refine OJ.build (d := 19) (T := 77) (parts := []) (ps := []) (cd := c_api_Neighbour) (z0 := z_api_Neighbour) z_api_Neighbour Ty77 rfl Filled.nil ?_
    refine OJ.kst (y := .tmp 6) (z := .tmp 19) (cd := c_api_Neighbour) (u := z_api_Neighbour) (j := 0) (b := b2) (o := 0) (c_api_Neighbour.enc z_api_Neighbour) (owed := []) Ty77 rfl (Upd.whole ((Cod.len _ _).trans (Cod.len _ _).symm)) rfl ?_
    refine OW.nil ?_
    refine OJ.go 1 [(7, .bool false)] ?_
    refine OJ.nil ?_
    exact SJ.ret rfl (Res.run (ys := [c_api_Neighbour.val z_api_Neighbour, .bool false]) (.cell (j := 0) (b := b2) (cd := c_api_Neighbour) (q := z_api_Neighbour) (by kernel_rfl) rfl Ty77 (At.whole _) (.tmp (by kernel_rfl) .nil)) rfl)
  · refine SJ.skip ?_
    refine SJ.sr 4 ?_
    refine OJ.go 1 [(20, .pointer r5.1)] ?_
    refine OJ.call (d := 21) (g := 51) (ats := #[100]) (args := [.tmp 20]) (owed := []) F51 (neigh_entry_told_ok r5.1) (fun r6 => ?_)
    refine OW.nil ?_
    refine OJ.kst (y := .tmp 6) (z := .tmp 21) (cd := c_api_Neighbour) (u := r6) (j := 0) (b := b2) (o := 0) (c_api_Neighbour.enc r6) (owed := []) Ty77 rfl (Upd.whole ((Cod.len _ _).trans (Cod.len _ _).symm)) rfl ?_
    refine OW.nil ?_
    refine OJ.go 1 [(7, .bool true)] ?_
    refine OJ.nil ?_
    exact SJ.ret rfl (Res.run (ys := [c_api_Neighbour.val r6, .bool true]) (.cell (j := 0) (b := b2) (cd := c_api_Neighbour) (q := r6) (by kernel_rfl) rfl Ty77 (At.whole _) (.tmp (by kernel_rfl) .nil)) rfl)

/-! ### weir/weirlaw15.lost: function 34 -/
noncomputable def weirlaw15_lost.B : Code := (Try.f34.body).getD .skip
noncomputable def weirlaw15_lost.cx : Fx := ⟨Try.prog, 34, Try.f34⟩
noncomputable def weirlaw15_lost.out (r_ : Bool) : Value := .bool r_
noncomputable def weirlaw15_lost.F0 (r_ : Bool) : Reach := .ret (weirlaw15_lost.out r_)
noncomputable def weirlaw15_lost.F1 (a0 : (Option Addr)) (a1 : Sl) (a2 : Sl) : (LS (Int × Int) Bool) → Reach := loopF [.inLoop (c1 (c1 (c2 (c1 (c2 (c2 weirlaw15_lost.B)))))), .inBlock 0, .code (c2 (c2 (c2 weirlaw15_lost.B)))] (fun s_ : (Int × Int) => [(0, .pointer a0), (1, Sl.v a1), (2, Sl.v a2), (7, .int .i64 s_.1), (8, .int .i64 s_.2)]) (fun s_ : (Int × Int) => []) weirlaw15_lost.F0
noncomputable def weirlaw15_lost.F2 (a0 : (Option Addr)) (a1 : Sl) (a2 : Sl) (s2 : Int) : (LS (Int × Int) (LS (Int × Int) Bool)) → Reach := loopF [.inLoop (c1 (c1 (c2 (c1 (c2 (c2 (c1 (c1 (c2 (c1 (c1 (c2 (c1 (c2 (c2 weirlaw15_lost.B))))))))))))))), .inBlock 2, .code (c2 (c2 (c2 (c1 (c1 (c2 (c1 (c1 (c2 (c1 (c2 (c2 weirlaw15_lost.B)))))))))))), .inBlock 1, .code (c2 (c2 (c1 (c1 (c2 (c1 (c2 (c2 weirlaw15_lost.B)))))))), .inLoop (c1 (c1 (c2 (c1 (c2 (c2 weirlaw15_lost.B)))))), .inBlock 0, .code (c2 (c2 (c2 weirlaw15_lost.B)))] (fun s_ : (Int × Int) => [(0, .pointer a0), (1, Sl.v a1), (2, Sl.v a2), (7, .int .i64 s_.1), (8, .int .i64 s2), (11, .int .i64 s_.2)]) (fun s_ : (Int × Int) => []) (weirlaw15_lost.F1 a0 a1 a2)
noncomputable def weirlaw15_lost.L2 (a1 : Sl) (a2 : Sl) (s2 : Int) (s80 : Int) (s81 : Int) : M (LS (Int × Int) (LS (Int × Int) Bool)) :=
  idx a1.a a1.len s2 21 >>= fun p93 =>
  ld cL (Addr.add p93 18) >>= fun x94 =>
  if s81 < (x94.len : Int) then
    draw >>= fun _ =>
    (if s80 ≥ (a2.len : Int) then
        pure true
      else
        idx a2.a a2.len s80 1 >>= fun p96 =>
        ld (cI .i64) p96 >>= fun x97 =>
        idx a1.a a1.len s2 21 >>= fun p98 =>
        ld cL (Addr.add p98 18) >>= fun x99 =>
        idx x99.a x99.len s81 1 >>= fun p100 =>
        ld (cI .i64) p100 >>= fun x101 =>
        pure (x97 != x101)) >>= fun y102 =>
    if y102 = true then
      pure (LS.done (LS.done false))
    else
      pure (LS.next (IntKind.wrap .i64 (s80 + 1), IntKind.wrap .i64 (s81 + 1)))
  else
    idx a1.a a1.len s2 21 >>= fun p104 =>
    st cL (Addr.add p104 18) Sl.nil >>= fun _ =>
    pure (LS.done (LS.next (s80, IntKind.wrap .i64 (s2 + 1))))
theorem weirlaw15_lost.L2_ok (a0 : (Option Addr)) (a1 : Sl) (a2 : Sl) (s2 : Int) (s80 : Int) (s81 : Int) :
    SJ weirlaw15_lost.cx [.code (c1 (c1 (c2 (c1 (c2 (c2 (c1 (c1 (c2 (c1 (c1 (c2 (c1 (c2 (c2 weirlaw15_lost.B))))))))))))))), .inLoop (c1 (c1 (c2 (c1 (c2 (c2 (c1 (c1 (c2 (c1 (c1 (c2 (c1 (c2 (c2 weirlaw15_lost.B))))))))))))))), .inBlock 2, .code (c2 (c2 (c2 (c1 (c1 (c2 (c1 (c1 (c2 (c1 (c2 (c2 weirlaw15_lost.B)))))))))))), .inBlock 1, .code (c2 (c2 (c1 (c1 (c2 (c1 (c2 (c2 weirlaw15_lost.B)))))))), .inLoop (c1 (c1 (c2 (c1 (c2 (c2 weirlaw15_lost.B)))))), .inBlock 0, .code (c2 (c2 (c2 weirlaw15_lost.B)))] [(0, .pointer a0), (1, Sl.v a1), (2, Sl.v a2), (7, .int .i64 s80), (8, .int .i64 s2), (11, .int .i64 s81)] [] (weirlaw15_lost.L2 a1 a2 s2 s80 s81) (weirlaw15_lost.F2 a0 a1 a2 s2) := by
  unfold weirlaw15_lost.L2
  refine SJ.seq ?_
  refine SJ.sr 8 ?_
  refine OJ.go 3 [(45, .int .i64 s2), (44, Sl.v a1), (43, .int .i64 s81)] ?_
  refine OJ.idxS (d := 46) (T := 29) (y := .tmp 44) (j := .tmp 45) (E := 45) (cap := a1.cap) (k := .i64) (fun p93 => ?_)
  refine OJ.go 1 [(47, .pointer (some (Addr.add p93 18)))] ?_
  refine OJ.ld (d := 48) (y := .tmp 47) (pend2 := fun x94 => []) Ty43 (fun _ => rfl) (fun x94 => ?_)
  refine OJ.go 2 [(50, .bool (decide (s81 < (x94.len : Int)))), (49, .int .i64 (x94.len : Int))] ?_
  refine OJ.nil ?_
  refine SJ.cond (t := (.tmp 50)) (b := decide (s81 < (x94.len : Int))) decide_eq_true_iff (fun hc105 => ?_) (fun hc105 => ?_)
  · refine SJ.skip ?_
    refine SJ.seq ?_
    refine SJ.block (id := 3) ?_
    refine SJ.seq ?_
    refine SJ.seq ?_
    refine SJ.draw (id := 10) (kd := [0, 0, 0, 0, 0, 0, 0, 0, 1, 0, 0, 0, 0, 1, 0, 0, 1, 0, 0]) (bef := [0, 0, 2, 7, 15, 31, 31, 127, 255, 31, 31, 1567, 3615, 7711, 31, 32287, 65055, 131071, 262143]) (ord := [0, 1, 2, 3, 4, 5, 6, 7, 8, 9, 10, 11, 12, 13, 14, 15, 16, 17, 18]) mixed ?_
    refine OJ.go 5 [(57, .bool (decide (s80 ≥ (a2.len : Int)))), (56, .bool (decide (s80 ≥ (a2.len : Int)))), (55, .int .i64 (a2.len : Int)), (54, Sl.v a2), (53, .int .i64 s80)] ?_
    refine OJ.join (b := decide (s80 ≥ (a2.len : Int))) [5, 6, 7, 8, 9, 10, 11, 12, 13, 14, 15, 16, 17, 18] [] [0, 1, 2, 7, 8, 11, 71] (fun y102 => [(0, .pointer a0), (1, Sl.v a1), (2, Sl.v a2), (7, .int .i64 s80), (8, .int .i64 s2), (11, .int .i64 s81), (71, .bool y102)]) [] [8, 13, 16] (t := 57) decide_eq_true_iff (fun hp_ => ?_) (fun hp_ => ?_) (fun _ _ _ _ _ _ h_ => h_) (fun y102 => ?_)
    · refine OJ.go 14 [(71, .bool true), (70, undef), (69, undef), (68, undef), (67, undef), (66, undef), (65, undef), (64, undef), (63, undef), (62, undef), (61, undef), (60, undef), (59, undef), (58, undef)] ?_
      exact OJ.nil ⟨(Cov.mem Cov.nil), rfl, _, rfl, by kernel_rfl⟩
    · refine OJ.go 2 [(59, .int .i64 s80), (58, Sl.v a2)] ?_
      refine OJ.idxS (d := 60) (T := 43) (y := .tmp 58) (j := .tmp 59) (E := 3) (cap := a2.cap) (k := .i64) (fun p96 => ?_)
      refine OJ.ld (d := 61) (y := .tmp 60) (pend2 := fun x97 => [⟨8, 3, p96, (cI .i64).val x97⟩]) Ty3 (fun _ => rfl) (fun x97 => ?_)
      refine OJ.go 2 [(63, .int .i64 s2), (62, Sl.v a1)] ?_
      refine OJ.idxS (d := 64) (T := 29) (y := .tmp 62) (j := .tmp 63) (E := 45) (cap := a1.cap) (k := .i64) (fun p98 => ?_)
      refine OJ.go 1 [(65, .pointer (some (Addr.add p98 18)))] ?_
      refine OJ.ld (d := 66) (y := .tmp 65) (pend2 := fun x99 => [⟨13, 43, (Addr.add p98 18), cL.val x99⟩, ⟨8, 3, p96, (cI .i64).val x97⟩]) Ty43 (fun _ => rfl) (fun x99 => ?_)
      refine OJ.go 1 [(67, .int .i64 s81)] ?_
      refine OJ.idxS (d := 68) (T := 43) (y := .tmp 66) (j := .tmp 67) (E := 3) (cap := x99.cap) (k := .i64) (fun p100 => ?_)
      refine OJ.ld (d := 69) (y := .tmp 68) (pend2 := fun x101 => [⟨16, 3, p100, (cI .i64).val x101⟩, ⟨13, 43, (Addr.add p98 18), cL.val x99⟩, ⟨8, 3, p96, (cI .i64).val x97⟩]) Ty3 (fun _ => rfl) (fun x101 => ?_)
      refine OJ.go 2 [(71, .bool (x97 != x101)), (70, .bool (x97 != x101))] ?_
      exact OJ.nil ⟨(Cov.mem (Cov.drop (List.mem_of_getElem? (i := 2) rfl) (Cov.drop (List.mem_of_getElem? (i := 1) rfl) (Cov.drop (List.mem_of_getElem? (i := 0) rfl) Cov.nil)))), rfl, _, rfl, by kernel_rfl⟩
    · refine OJ.nil ?_
      refine SJ.cond (t := (.tmp 71)) (b := y102) Iff.rfl (fun hc103 => ?_) (fun hc103 => ?_)
      · refine SJ.sr 1 ?_
        refine OJ.go 1 [(6, .bool false)] ?_
        refine OJ.nil ?_
        exact SJ.ret rfl (Res.run (ys := [.bool false]) (.tmp (by kernel_rfl) .nil) rfl)
      · refine SJ.skip ?_
        refine SJ.rg 3 ?_
        refine OJ.go 3 [(7, .int .i64 (IntKind.wrap .i64 (s80 + 1))), (73, .int .i64 (IntKind.wrap .i64 (s80 + 1))), (72, .int .i64 s80)] ?_
        refine OJ.nil ?_
        refine SJ.inBlock ?_
        refine SJ.rg 3 ?_
        refine OJ.go 3 [(11, .int .i64 (IntKind.wrap .i64 (s81 + 1))), (52, .int .i64 (IntKind.wrap .i64 (s81 + 1))), (51, .int .i64 s81)] ?_
        refine OJ.nil ?_
        exact SJ.at_ [0, 1, 2, 7, 8, 11] rfl
  · refine SJ.exit (id := 2) (by rfl) ?_
    refine SJ.rg 5 ?_
    refine OJ.go 2 [(75, .int .i64 s2), (74, Sl.v a1)] ?_
    refine OJ.idxS (d := 76) (T := 29) (y := .tmp 74) (j := .tmp 75) (E := 45) (cap := a1.cap) (k := .i64) (fun p104 => ?_)
    refine OJ.go 1 [(77, .pointer (some (Addr.add p104 18)))] ?_
    refine OJ.st (y := .tmp 77) (z := .const (.slice none 0 0)) (owed := []) Ty43 ?_
    refine OW.nil ?_
    refine OJ.nil ?_
    refine SJ.inBlock ?_
    refine SJ.rg 3 ?_
    refine OJ.go 3 [(8, .int .i64 (IntKind.wrap .i64 (s2 + 1))), (17, .int .i64 (IntKind.wrap .i64 (s2 + 1))), (16, .int .i64 s2)] ?_
    refine OJ.nil ?_
    exact SJ.at_ [0, 1, 2, 7, 8] rfl
noncomputable def weirlaw15_lost.K1 (a1 : Sl) (a2 : Sl) (s1 : Int) (s2 : Int) (j76 : Bool) : M (LS (Int × Int) Bool) :=
  (if j76 = true then
      pure true
    else
      idx a1.a a1.len s2 21 >>= fun p77 =>
      ld cL (Addr.add p77 18) >>= fun x78 =>
      pure ((x78.len : Int) == 0)) >>= fun y79 =>
  if y79 = true then
    pure (LS.next (s1, IntKind.wrap .i64 (s2 + 1)))
  else
    loopM (fun s_ : (Int × Int) => weirlaw15_lost.L2 a1 a2 s2 s_.1 s_.2) (s1, 0)
theorem weirlaw15_lost.K1_ok (a0 : (Option Addr)) (a1 : Sl) (a2 : Sl) (s1 : Int) (s2 : Int) (j76 : Bool) :
    SJ weirlaw15_lost.cx [.code (c2 (c1 (c1 (c2 (c1 (c1 (c2 (c1 (c2 (c2 weirlaw15_lost.B)))))))))), .inBlock 1, .code (c2 (c2 (c1 (c1 (c2 (c1 (c2 (c2 weirlaw15_lost.B)))))))), .inLoop (c1 (c1 (c2 (c1 (c2 (c2 weirlaw15_lost.B)))))), .inBlock 0, .code (c2 (c2 (c2 weirlaw15_lost.B)))] [(0, .pointer a0), (1, Sl.v a1), (2, Sl.v a2), (7, .int .i64 s1), (8, .int .i64 s2), (10, .bool j76)] [] (weirlaw15_lost.K1 a1 a2 s1 s2 j76) (weirlaw15_lost.F1 a0 a1 a2) := by
  unfold weirlaw15_lost.K1
  refine SJ.seq ?_
  refine SJ.sr 10 ?_
  refine OJ.go 2 [(34, .bool j76), (33, .bool j76)] ?_
  refine OJ.join (b := j76) [2, 3, 4, 5, 6, 7, 8, 9] [] [0, 1, 2, 7, 8, 42] (fun y79 => [(0, .pointer a0), (1, Sl.v a1), (2, Sl.v a2), (7, .int .i64 s1), (8, .int .i64 s2), (42, .bool y79)]) [] [] (t := 34) Iff.rfl (fun hp_ => ?_) (fun hp_ => ?_) (fun _ _ _ _ _ _ h_ => h_) (fun y79 => ?_)
  · refine OJ.go 8 [(42, .bool true), (41, undef), (40, undef), (39, undef), (38, undef), (37, undef), (36, undef), (35, undef)] ?_
    exact OJ.nil ⟨(Cov.mem Cov.nil), rfl, _, rfl, by kernel_rfl⟩
  · refine OJ.go 2 [(36, .int .i64 s2), (35, Sl.v a1)] ?_
    refine OJ.idxS (d := 37) (T := 29) (y := .tmp 35) (j := .tmp 36) (E := 45) (cap := a1.cap) (k := .i64) (fun p77 => ?_)
    refine OJ.go 1 [(38, .pointer (some (Addr.add p77 18)))] ?_
    refine OJ.ld (d := 39) (y := .tmp 38) (pend2 := fun x78 => []) Ty43 (fun _ => rfl) (fun x78 => ?_)
    refine OJ.go 3 [(42, .bool ((x78.len : Int) == 0)), (41, .bool ((x78.len : Int) == 0)), (40, .int .i64 (x78.len : Int))] ?_
    exact OJ.nil ⟨(Cov.mem Cov.nil), rfl, _, rfl, by kernel_rfl⟩
  · refine OJ.nil ?_
    refine SJ.cond (t := (.tmp 42)) (b := y79) Iff.rfl (fun hc106 => ?_) (fun hc106 => ?_)
    · refine SJ.exit (id := 1) (by rfl) ?_
      refine SJ.rg 3 ?_
      refine OJ.go 3 [(8, .int .i64 (IntKind.wrap .i64 (s2 + 1))), (17, .int .i64 (IntKind.wrap .i64 (s2 + 1))), (16, .int .i64 s2)] ?_
      refine OJ.nil ?_
      exact SJ.at_ [0, 1, 2, 7, 8] rfl
    · refine SJ.skip ?_
      refine SJ.seq ?_
      refine SJ.sr 1 ?_
      refine OJ.go 1 [(11, .int .i64 0)] ?_
      refine OJ.nil ?_
      refine SJ.block (id := 2) ?_
      exact SJ.loop (fun s_ : (Int × Int) => [(0, .pointer a0), (1, Sl.v a1), (2, Sl.v a2), (7, .int .i64 s_.1), (8, .int .i64 s2), (11, .int .i64 s_.2)]) (fun s_ : (Int × Int) => []) [0, 1, 2, 7, 8, 11] rfl (fun _ _ => rfl) (fun s_ => weirlaw15_lost.L2_ok a0 a1 a2 s2 s_.1 s_.2)
noncomputable def weirlaw15_lost.L1 (a0 : (Option Addr)) (a1 : Sl) (a2 : Sl) (s1 : Int) (s2 : Int) : M (LS (Int × Int) Bool) :=
  if s2 < (a1.len : Int) then
    draws 34 5 (opsOf (c1 (c1 (c1 (c2 (c1 (c1 (c2 (c1 (c2 (c2 weirlaw15_lost.B))))))))))) >>= fun o62 =>
    if bfr o62 11 15 = true then
      idx a1.a a1.len s2 21 >>= fun p108 =>
      ld (cI .i64) p108 >>= fun x109 =>
      idx a1.a a1.len s2 21 >>= fun p110 =>
      ld c_api_IP (Addr.add p110 1) >>= fun x111 =>
      neigh_Cache_Get a0 x109 x111 >>= fun r112 =>
      slot 77 >>= fun b113 =>
      same c_api_IP (Addr.add p110 1) x111 >>= fun _ =>
      same (cI .i64) p108 x109 >>= fun _ =>
      weirlaw15_lost.K1 a1 a2 s1 s2 r112.2
    else
      idx a1.a a1.len s2 21 >>= fun p114 =>
      ld (cI .i64) p114 >>= fun x115 =>
      idx a1.a a1.len s2 21 >>= fun p116 =>
      ld c_api_IP (Addr.add p116 1) >>= fun x117 =>
      slot 77 >>= fun b118 =>
      same c_api_IP (Addr.add p116 1) x117 >>= fun _ =>
      same (cI .i64) p114 x115 >>= fun _ =>
      neigh_Cache_Get a0 x115 x117 >>= fun r119 =>
      weirlaw15_lost.K1 a1 a2 s1 s2 r119.2
  else
    pure (LS.done (s1 == (a2.len : Int)))
theorem weirlaw15_lost.L1_ok (a0 : (Option Addr)) (a1 : Sl) (a2 : Sl) (s1 : Int) (s2 : Int) :
    SJ weirlaw15_lost.cx [.code (c1 (c1 (c2 (c1 (c2 (c2 weirlaw15_lost.B)))))), .inLoop (c1 (c1 (c2 (c1 (c2 (c2 weirlaw15_lost.B)))))), .inBlock 0, .code (c2 (c2 (c2 weirlaw15_lost.B)))] [(0, .pointer a0), (1, Sl.v a1), (2, Sl.v a2), (7, .int .i64 s1), (8, .int .i64 s2)] [] (weirlaw15_lost.L1 a0 a1 a2 s1 s2) (weirlaw15_lost.F1 a0 a1 a2) := by
  unfold weirlaw15_lost.L1
  refine SJ.seq ?_
  refine SJ.sr 4 ?_
  refine OJ.go 4 [(15, .bool (decide (s2 < (a1.len : Int)))), (14, .int .i64 (a1.len : Int)), (13, Sl.v a1), (12, .int .i64 s2)] ?_
  refine OJ.nil ?_
  refine SJ.cond (t := (.tmp 15)) (b := decide (s2 < (a1.len : Int))) decide_eq_true_iff (fun hc120 => ?_) (fun hc120 => ?_)
  · refine SJ.skip ?_
    refine SJ.seq ?_
    refine SJ.block (id := 1) ?_
    refine SJ.seq ?_
    refine SJ.draws (id := 5) (kd := [0, 0, 0, 0, 0, 1, 0, 0, 0, 0, 1, 2, 0, 0, 0, 2, 2, 0]) (bef := [0, 0, 0, 6, 14, 30, 0, 0, 192, 448, 960, 2047, 4095, 8191, 8191, 0, 49151, 131071]) (ord := [0, 1, 2, 3, 4, 5, 6, 7, 8, 9, 10, 11, 12, 13, 14, 15, 16, 17]) (E := [(11, 15)]) mixed (fun o62 hg_ => ?_)
    refine SJ.bfr hg_ (by decide) (fun ho107 => ?_) (fun ho107 => ?_)
    · refine SJ.leaf hg_ (kd := [0, 0, 0, 0, 0, 1, 0, 0, 0, 0, 1, 2, 0, 0, 0, 2, 2, 0]) (bef := [0, 0, 0, 6, 14, 30, 0, 0, 192, 448, 960, 2047, 4095, 8191, 8191, 0, 49151, 131071]) (ord := [0, 1, 2, 3, 4, 5, 6, 7, 8, 9, 10, 11, 12, 13, 14, 15, 16, 17]) (E := [(11, 15)]) (allB.cons ho107 allB.nil) ?_
      refine OJ.go 3 [(21, .int .i64 s2), (20, Sl.v a1), (19, .pointer a0)] ?_
      refine OJ.idxS (d := 22) (T := 29) (y := .tmp 20) (j := .tmp 21) (E := 45) (cap := a1.cap) (k := .i64) (fun p108 => ?_)
      refine OJ.go 1 [(23, .pointer (some p108))] ?_
      refine OJ.ld (d := 24) (y := .tmp 23) (pend2 := fun x109 => [⟨5, 3, p108, (cI .i64).val x109⟩]) Ty3 (fun _ => rfl) (fun x109 => ?_)
      refine OJ.go 2 [(26, .int .i64 s2), (25, Sl.v a1)] ?_
      refine OJ.idxS (d := 27) (T := 29) (y := .tmp 25) (j := .tmp 26) (E := 45) (cap := a1.cap) (k := .i64) (fun p110 => ?_)
      refine OJ.go 1 [(28, .pointer (some (Addr.add p110 1)))] ?_
      refine OJ.ld (d := 29) (y := .tmp 28) (pend2 := fun x111 => [⟨10, 32, (Addr.add p110 1), c_api_IP.val x111⟩, ⟨5, 3, p108, (cI .i64).val x109⟩]) Ty32 (fun _ => rfl) (fun x111 => ?_)
      refine OJ.call (d := 30) (g := 43) (ats := #[25, 3, 32]) (args := [.tmp 19, .tmp 24, .tmp 29]) (owed := []) F43 (neigh_Cache_Get_ok a0 x109 x111) (fun r112 => ?_)
      refine OW.nil ?_
      refine OJ.go 3 [(32, .bool r112.2), (31, c_api_Neighbour.val r112.1), (18, .tuple #[c_api_Neighbour.val r112.1, .bool r112.2])] ?_
      refine OJ.slotOf (d := 9) (op := (.alloc 77)) (cd := c_api_Neighbour) (u := z_api_Neighbour) (owed := [⟨10, 32, (Addr.add p110 1), c_api_IP.val x111⟩, ⟨5, 3, p108, (cI .i64).val x109⟩]) (alloc_run Ty77) (fun b113 => ?_)
      refine OW.same Ty32 ?_
      refine OW.same Ty3 ?_
      refine OW.nil ?_
      refine OJ.kst (y := .tmp 9) (z := .tmp 31) (cd := c_api_Neighbour) (u := r112.1) (j := 0) (b := b113) (o := 0) (c_api_Neighbour.enc r112.1) (owed := []) Ty77 rfl (Upd.whole ((Cod.len _ _).trans (Cod.len _ _).symm)) rfl ?_
      refine OW.nil ?_
      refine OJ.go 1 [(10, .bool r112.2)] ?_
      refine OJ.nil ?_
      refine SJ.forget (List.Sublist.cons _ List.Sublist.slnil) ?_
      refine SJ.less [0, 1, 2, 7, 8, 10] (m' := [(0, .pointer a0), (1, Sl.v a1), (2, Sl.v a2), (7, .int .i64 s1), (8, .int .i64 s2), (10, .bool r112.2)]) ?_
      exact weirlaw15_lost.K1_ok a0 a1 a2 s1 s2 r112.2
    · refine SJ.leaf hg_ (kd := [0, 0, 0, 0, 0, 1, 0, 0, 0, 0, 1, 2, 0, 0, 0, 2, 2, 0]) (bef := [0, 0, 0, 6, 14, 30, 0, 0, 192, 448, 960, 2047, 4095, 8191, 8191, 0, 49151, 131071]) (ord := [0, 1, 2, 3, 4, 5, 6, 7, 8, 9, 10, 15, 11, 12, 13, 14, 16, 17]) (E := [(15, 11)]) (allB.cons ho107 allB.nil) ?_
      refine OJ.go 3 [(21, .int .i64 s2), (20, Sl.v a1), (19, .pointer a0)] ?_
      refine OJ.idxS (d := 22) (T := 29) (y := .tmp 20) (j := .tmp 21) (E := 45) (cap := a1.cap) (k := .i64) (fun p114 => ?_)
      refine OJ.go 1 [(23, .pointer (some p114))] ?_
      refine OJ.ld (d := 24) (y := .tmp 23) (pend2 := fun x115 => [⟨5, 3, p114, (cI .i64).val x115⟩]) Ty3 (fun _ => rfl) (fun x115 => ?_)
      refine OJ.go 2 [(26, .int .i64 s2), (25, Sl.v a1)] ?_
      refine OJ.idxS (d := 27) (T := 29) (y := .tmp 25) (j := .tmp 26) (E := 45) (cap := a1.cap) (k := .i64) (fun p116 => ?_)
      refine OJ.go 1 [(28, .pointer (some (Addr.add p116 1)))] ?_
      refine OJ.ld (d := 29) (y := .tmp 28) (pend2 := fun x117 => [⟨10, 32, (Addr.add p116 1), c_api_IP.val x117⟩, ⟨5, 3, p114, (cI .i64).val x115⟩]) Ty32 (fun _ => rfl) (fun x117 => ?_)
      refine OJ.slotOf (d := 9) (op := (.alloc 77)) (cd := c_api_Neighbour) (u := z_api_Neighbour) (owed := [⟨10, 32, (Addr.add p116 1), c_api_IP.val x117⟩, ⟨5, 3, p114, (cI .i64).val x115⟩]) (alloc_run Ty77) (fun b118 => ?_)
      refine OW.same Ty32 ?_
      refine OW.same Ty3 ?_
      refine OW.nil ?_
      refine OJ.call (d := 30) (g := 43) (ats := #[25, 3, 32]) (args := [.tmp 19, .tmp 24, .tmp 29]) (owed := []) F43 (neigh_Cache_Get_ok a0 x115 x117) (fun r119 => ?_)
      refine OW.nil ?_
      refine OJ.go 3 [(32, .bool r119.2), (31, c_api_Neighbour.val r119.1), (18, .tuple #[c_api_Neighbour.val r119.1, .bool r119.2])] ?_
      refine OJ.kst (y := .tmp 9) (z := .tmp 31) (cd := c_api_Neighbour) (u := r119.1) (j := 0) (b := b118) (o := 0) (c_api_Neighbour.enc r119.1) (owed := []) Ty77 rfl (Upd.whole ((Cod.len _ _).trans (Cod.len _ _).symm)) rfl ?_
      refine OW.nil ?_
      refine OJ.go 1 [(10, .bool r119.2)] ?_
      refine OJ.nil ?_
      refine SJ.forget (List.Sublist.cons _ List.Sublist.slnil) ?_
      refine SJ.less [0, 1, 2, 7, 8, 10] (m' := [(0, .pointer a0), (1, Sl.v a1), (2, Sl.v a2), (7, .int .i64 s1), (8, .int .i64 s2), (10, .bool r119.2)]) ?_
      exact weirlaw15_lost.K1_ok a0 a1 a2 s1 s2 r119.2
  · refine SJ.exit (id := 0) (by rfl) ?_
    refine SJ.sr 5 ?_
    refine OJ.go 5 [(6, .bool (s1 == (a2.len : Int))), (81, .bool (s1 == (a2.len : Int))), (80, .int .i64 (a2.len : Int)), (79, Sl.v a2), (78, .int .i64 s1)] ?_
    refine OJ.nil ?_
    exact SJ.ret rfl (Res.run (ys := [.bool (s1 == (a2.len : Int))]) (.tmp (by kernel_rfl) .nil) rfl)
noncomputable def weirlaw15_lost (a0 : (Option Addr)) (a1 : Sl) (a2 : Sl) : M Bool :=
  loopM (fun s_ : (Int × Int) => weirlaw15_lost.L1 a0 a1 a2 s_.1 s_.2) (0, 0)
theorem weirlaw15_lost_ok (a0 : (Option Addr)) (a1 : Sl) (a2 : Sl) : Ref Try.prog 34 [.pointer a0, Sl.v a1, Sl.v a2] (weirlaw15_lost a0 a1 a2) weirlaw15_lost.out := by
  refine Ref.of (cd := weirlaw15_lost.B) Try.func34 ?_
  show SJ weirlaw15_lost.cx [.code weirlaw15_lost.B] [(0, .pointer a0), (1, Sl.v a1), (2, Sl.v a2)] [] (weirlaw15_lost a0 a1 a2) weirlaw15_lost.F0
  unfold weirlaw15_lost
  refine SJ.sr 1 ?_
  refine OJ.go 1 [(6, .bool false)] ?_
  refine OJ.nil ?_
  refine SJ.sr 1 ?_
  refine OJ.go 1 [(7, .int .i64 0)] ?_
  refine OJ.nil ?_
  refine SJ.seq ?_
  refine SJ.sr 1 ?_
  refine OJ.go 1 [(8, .int .i64 0)] ?_
  refine OJ.nil ?_
  refine SJ.block (id := 0) ?_
  exact SJ.loop (fun s_ : (Int × Int) => [(0, .pointer a0), (1, Sl.v a1), (2, Sl.v a2), (7, .int .i64 s_.1), (8, .int .i64 s_.2)]) (fun s_ : (Int × Int) => []) [0, 1, 2, 7, 8] rfl (fun _ _ => rfl) (fun s_ => weirlaw15_lost.L1_ok a0 a1 a2 s_.1 s_.2)

/-! ### (*weir/neigh.Cache).Waiting: function 35 -/
noncomputable def neigh_Cache_Waiting.B : Code := (Try.f35.body).getD .skip
noncomputable def neigh_Cache_Waiting.cx : Fx := ⟨Try.prog, 35, Try.f35⟩
noncomputable def neigh_Cache_Waiting.out (r_ : Int) : Value := .int .i64 r_
noncomputable def neigh_Cache_Waiting.F0 (r_ : Int) : Reach := .ret (neigh_Cache_Waiting.out r_)
noncomputable def neigh_Cache_Waiting.F1 (b3 : Nat) : (LS Int Int) → Reach := loopF [.inLoop (c1 (c1 (c2 (c1 (c2 (c2 neigh_Cache_Waiting.B)))))), .inBlock 0, .code (c2 (c2 (c2 neigh_Cache_Waiting.B)))] (fun s_ : Int => [(3, .int .i64 s_), (10, .pointer (some (pt b3 0)))]) (fun s_ : Int => []) neigh_Cache_Waiting.F0
noncomputable def neigh_Cache_Waiting.L1 (b3 : Nat) (s4 : Int) : M (LS Int Int) :=
  mnext b3 >>= fun r10 =>
  if r10.1 = true then
    mentry c_neigh_key cP b3 >>= fun r11 =>
    nilck r11.2 >>= fun p12 =>
    ld cL (Addr.add p12 27) >>= fun x13 =>
    pure (LS.next (IntKind.wrap .i64 (s4 + (x13.len : Int))))
  else
    pure (LS.done s4)
theorem neigh_Cache_Waiting.L1_ok (b3 : Nat) (s4 : Int) :
    SJ neigh_Cache_Waiting.cx [.code (c1 (c1 (c2 (c1 (c2 (c2 neigh_Cache_Waiting.B)))))), .inLoop (c1 (c1 (c2 (c1 (c2 (c2 neigh_Cache_Waiting.B)))))), .inBlock 0, .code (c2 (c2 (c2 neigh_Cache_Waiting.B)))] [(3, .int .i64 s4), (10, .pointer (some (pt b3 0)))] [] (neigh_Cache_Waiting.L1 b3 s4) (neigh_Cache_Waiting.F1 b3) := by
  unfold neigh_Cache_Waiting.L1
  refine SJ.sr 2 ?_
  refine OJ.mnext (d := 11) (x := .tmp 10) (owed := []) (fun r10 => ?_)
  refine OW.nil ?_
  refine OJ.go 1 [(12, .bool r10.1)] ?_
  refine OJ.nil ?_
  refine SJ.seq ?_
  refine SJ.cond (t := (.tmp 12)) (b := r10.1) Iff.rfl (fun hc14 => ?_) (fun hc14 => ?_)
  · refine SJ.skip ?_
    refine SJ.block (id := 1) ?_
    refine SJ.sr 3 ?_
    refine OJ.mentry (d := 13) (x := .tmp 10) (owed := []) (fun r11 => ?_)
    refine OW.nil ?_
    refine OJ.go 2 [(5, .pointer r11.2), (14, .pointer r11.2)] ?_
    refine OJ.nil ?_
    refine SJ.rg 8 ?_
    refine OJ.go 2 [(16, .pointer r11.2), (15, .int .i64 s4)] ?_
    refine OJ.nilck (d := 17) (y := .tmp 16) (fun p12 => ?_)
    refine OJ.go 1 [(18, .pointer (some (Addr.add p12 27)))] ?_
    refine OJ.ld (d := 19) (y := .tmp 18) (pend2 := fun x13 => []) Ty43 (fun _ => rfl) (fun x13 => ?_)
    refine OJ.go 3 [(3, .int .i64 (IntKind.wrap .i64 (s4 + (x13.len : Int)))), (21, .int .i64 (IntKind.wrap .i64 (s4 + (x13.len : Int)))), (20, .int .i64 (x13.len : Int))] ?_
    refine OJ.nil ?_
    refine SJ.inBlock ?_
    exact SJ.at_ [3, 10] rfl
  · refine SJ.exit (id := 0) (by rfl) ?_
    refine SJ.sr 2 ?_
    refine OJ.go 2 [(2, .int .i64 s4), (22, .int .i64 s4)] ?_
    refine OJ.nil ?_
    exact SJ.ret rfl (Res.run (ys := [.int .i64 s4]) (.tmp (by kernel_rfl) .nil) rfl)
noncomputable def neigh_Cache_Waiting (a0 : (Option Addr)) : M Int :=
  nilck a0 >>= fun p1 =>
  ld cM (Addr.add p1 5) >>= fun x2 =>
  mrange x2 >>= fun b3 =>
  loopM (fun s_ : Int => neigh_Cache_Waiting.L1 b3 s_) 0
theorem neigh_Cache_Waiting_ok (a0 : (Option Addr)) : Ref Try.prog 35 [.pointer a0] (neigh_Cache_Waiting a0) neigh_Cache_Waiting.out := by
  refine Ref.of (cd := neigh_Cache_Waiting.B) Try.func35 ?_
  show SJ neigh_Cache_Waiting.cx [.code neigh_Cache_Waiting.B] [(0, .pointer a0)] [] (neigh_Cache_Waiting a0) neigh_Cache_Waiting.F0
  unfold neigh_Cache_Waiting
  refine SJ.sr 1 ?_
  refine OJ.go 1 [(2, .int .i64 0)] ?_
  refine OJ.nil ?_
  refine SJ.sr 1 ?_
  refine OJ.go 1 [(3, .int .i64 0)] ?_
  refine OJ.nil ?_
  refine SJ.seq ?_
  refine SJ.sr 5 ?_
  refine OJ.go 1 [(6, .pointer a0)] ?_
  refine OJ.nilck (d := 7) (y := .tmp 6) (fun p1 => ?_)
  refine OJ.go 1 [(8, .pointer (some (Addr.add p1 5)))] ?_
  refine OJ.ld (d := 9) (y := .tmp 8) (pend2 := fun x2 => []) Ty101 (fun _ => rfl) (fun x2 => ?_)
  refine OJ.mrange (d := 10) (T := 101) (kT := 99) (vT := 100) (x := .tmp 9) (owed := []) (fun b3 => ?_)
  refine OW.nil ?_
  refine OJ.nil ?_
  refine SJ.block (id := 0) ?_
  exact SJ.loop (fun s_ : Int => [(3, .int .i64 s_), (10, .pointer (some (pt b3 0)))]) (fun s_ : Int => []) [3, 10] rfl (fun _ _ => rfl) (fun s_ => neigh_Cache_Waiting.L1_ok b3 s_)

/-! ### weir/weirlaw15.waiting: function 36 -/
noncomputable def weirlaw15_waiting.B : Code := (Try.f36.body).getD .skip
noncomputable def weirlaw15_waiting.cx : Fx := ⟨Try.prog, 36, Try.f36⟩
noncomputable def weirlaw15_waiting.out (r_ : Int) : Value := .int .i64 r_
noncomputable def weirlaw15_waiting.F0 (r_ : Int) : Reach := .ret (weirlaw15_waiting.out r_)
noncomputable def weirlaw15_waiting.F1 (a0 : Sl) : (LS (Int × Int) Int) → Reach := loopF [.inLoop (c1 (c1 (c2 (c1 (c2 (c2 weirlaw15_waiting.B)))))), .inBlock 0, .code (c2 (c2 (c2 weirlaw15_waiting.B)))] (fun s_ : (Int × Int) => [(0, Sl.v a0), (3, .int .i64 s_.1), (4, .int .i64 s_.2)]) (fun s_ : (Int × Int) => []) weirlaw15_waiting.F0
noncomputable def weirlaw15_waiting.L1 (a0 : Sl) (s1 : Int) (s2 : Int) : M (LS (Int × Int) Int) :=
  if s2 < (a0.len : Int) then
    idx a0.a a0.len s2 21 >>= fun p6 =>
    ld cL (Addr.add p6 18) >>= fun x7 =>
    pure (LS.next (IntKind.wrap .i64 (s1 + (x7.len : Int)), IntKind.wrap .i64 (s2 + 1)))
  else
    pure (LS.done s1)
theorem weirlaw15_waiting.L1_ok (a0 : Sl) (s1 : Int) (s2 : Int) :
    SJ weirlaw15_waiting.cx [.code (c1 (c1 (c2 (c1 (c2 (c2 weirlaw15_waiting.B)))))), .inLoop (c1 (c1 (c2 (c1 (c2 (c2 weirlaw15_waiting.B)))))), .inBlock 0, .code (c2 (c2 (c2 weirlaw15_waiting.B)))] [(0, Sl.v a0), (3, .int .i64 s1), (4, .int .i64 s2)] [] (weirlaw15_waiting.L1 a0 s1 s2) (weirlaw15_waiting.F1 a0) := by
  unfold weirlaw15_waiting.L1
  refine SJ.seq ?_
  refine SJ.sr 4 ?_
  refine OJ.go 4 [(8, .bool (decide (s2 < (a0.len : Int)))), (7, .int .i64 (a0.len : Int)), (6, Sl.v a0), (5, .int .i64 s2)] ?_
  refine OJ.nil ?_
  refine SJ.cond (t := (.tmp 8)) (b := decide (s2 < (a0.len : Int))) decide_eq_true_iff (fun hc8 => ?_) (fun hc8 => ?_)
  · refine SJ.skip ?_
    refine SJ.seq ?_
    refine SJ.block (id := 1) ?_
    refine SJ.rg 9 ?_
    refine OJ.go 3 [(13, .int .i64 s2), (12, Sl.v a0), (11, .int .i64 s1)] ?_
    refine OJ.idxS (d := 14) (T := 29) (y := .tmp 12) (j := .tmp 13) (E := 45) (cap := a0.cap) (k := .i64) (fun p6 => ?_)
    refine OJ.go 1 [(15, .pointer (some (Addr.add p6 18)))] ?_
    refine OJ.ld (d := 16) (y := .tmp 15) (pend2 := fun x7 => []) Ty43 (fun _ => rfl) (fun x7 => ?_)
    refine OJ.go 3 [(3, .int .i64 (IntKind.wrap .i64 (s1 + (x7.len : Int)))), (18, .int .i64 (IntKind.wrap .i64 (s1 + (x7.len : Int)))), (17, .int .i64 (x7.len : Int))] ?_
    refine OJ.nil ?_
    refine SJ.inBlock ?_
    refine SJ.rg 3 ?_
    refine OJ.go 3 [(4, .int .i64 (IntKind.wrap .i64 (s2 + 1))), (10, .int .i64 (IntKind.wrap .i64 (s2 + 1))), (9, .int .i64 s2)] ?_
    refine OJ.nil ?_
    exact SJ.at_ [0, 3, 4] rfl
  · refine SJ.exit (id := 0) (by rfl) ?_
    refine SJ.sr 2 ?_
    refine OJ.go 2 [(2, .int .i64 s1), (19, .int .i64 s1)] ?_
    refine OJ.nil ?_
    exact SJ.ret rfl (Res.run (ys := [.int .i64 s1]) (.tmp (by kernel_rfl) .nil) rfl)
noncomputable def weirlaw15_waiting (a0 : Sl) : M Int :=
  loopM (fun s_ : (Int × Int) => weirlaw15_waiting.L1 a0 s_.1 s_.2) (0, 0)
theorem weirlaw15_waiting_ok (a0 : Sl) : Ref Try.prog 36 [Sl.v a0] (weirlaw15_waiting a0) weirlaw15_waiting.out := by
  refine Ref.of (cd := weirlaw15_waiting.B) Try.func36 ?_
  show SJ weirlaw15_waiting.cx [.code weirlaw15_waiting.B] [(0, Sl.v a0)] [] (weirlaw15_waiting a0) weirlaw15_waiting.F0
  unfold weirlaw15_waiting
  refine SJ.sr 1 ?_
  refine OJ.go 1 [(2, .int .i64 0)] ?_
  refine OJ.nil ?_
  refine SJ.sr 1 ?_
  refine OJ.go 1 [(3, .int .i64 0)] ?_
  refine OJ.nil ?_
  refine SJ.seq ?_
  refine SJ.sr 1 ?_
  refine OJ.go 1 [(4, .int .i64 0)] ?_
  refine OJ.nil ?_
  refine SJ.block (id := 0) ?_
  exact SJ.loop (fun s_ : (Int × Int) => [(0, Sl.v a0), (3, .int .i64 s_.1), (4, .int .i64 s_.2)]) (fun s_ : (Int × Int) => []) [0, 3, 4] rfl (fun _ _ => rfl) (fun s_ => weirlaw15_waiting.L1_ok a0 s_.1 s_.2)

/-! ### weir/weirlaw15.NeighItems: function 5 -/
noncomputable def weirlaw15_NeighItems.B : Code := (Try.f5.body).getD .skip
noncomputable def weirlaw15_NeighItems.cx : Fx := ⟨Try.prog, 5, Try.f5⟩
noncomputable def weirlaw15_NeighItems.out (r_ : Bool) : Value := .bool r_
noncomputable def weirlaw15_NeighItems.F0 (r_ : Bool) : Reach := .ret (weirlaw15_NeighItems.out r_)
noncomputable def weirlaw15_NeighItems.F1 (a1 : Sl) (r2 : ((Option Addr) × api_NeighConfig)) : (LS (Sl × Int) Bool) → Reach := loopF [.inLoop (c1 (c1 (c2 (c1 (c2 (c2 (c2 (c2 weirlaw15_NeighItems.B)))))))), .inBlock 0, .code (c2 (c2 (c2 (c2 (c2 weirlaw15_NeighItems.B)))))] (fun s_ : (Sl × Int) => [(1, Sl.v a1), (5, .pointer r2.1), (7, Sl.v s_.1), (8, .int .i64 s_.2)]) (fun s_ : (Sl × Int) => []) weirlaw15_NeighItems.F0
noncomputable def weirlaw15_NeighItems.K1 (r2 : ((Option Addr) × api_NeighConfig)) (s7 : Int) (j203 : Sl) : M (LS (Sl × Int) Bool) :=
  neigh_Cache_Waiting r2.1 >>= fun r204 =>
  weirlaw15_waiting j203 >>= fun r205 =>
  if r204 ≠ r205 then
    pure (LS.done false)
  else
    pure (LS.next (j203, IntKind.wrap .i64 (s7 + 1)))
theorem weirlaw15_NeighItems.K1_ok (a1 : Sl) (r2 : ((Option Addr) × api_NeighConfig)) (s7 : Int) (j203 : Sl) :
    SJ weirlaw15_NeighItems.cx [.inBlock 2, .code (c2 (c2 (c1 (c1 (c2 (c1 (c1 (c2 (c1 (c2 (c2 (c2 (c2 weirlaw15_NeighItems.B))))))))))))), .inBlock 1, .code (c2 (c2 (c1 (c1 (c2 (c1 (c2 (c2 (c2 (c2 weirlaw15_NeighItems.B)))))))))), .inLoop (c1 (c1 (c2 (c1 (c2 (c2 (c2 (c2 weirlaw15_NeighItems.B)))))))), .inBlock 0, .code (c2 (c2 (c2 (c2 (c2 weirlaw15_NeighItems.B)))))] [(1, Sl.v a1), (5, .pointer r2.1), (7, Sl.v j203), (8, .int .i64 s7)] [] (weirlaw15_NeighItems.K1 r2 s7 j203) (weirlaw15_NeighItems.F1 a1 r2) := by
  unfold weirlaw15_NeighItems.K1
  refine SJ.inBlock ?_
  refine SJ.sr 5 ?_
  refine OJ.go 1 [(144, .pointer r2.1)] ?_
  refine OJ.call (d := 145) (g := 35) (ats := #[25]) (args := [.tmp 144]) (owed := []) F35 (neigh_Cache_Waiting_ok r2.1) (fun r204 => ?_)
  refine OW.nil ?_
  refine OJ.go 1 [(146, Sl.v j203)] ?_
  refine OJ.call (d := 147) (g := 36) (ats := #[29]) (args := [.tmp 146]) (owed := []) F36 (weirlaw15_waiting_ok j203) (fun r205 => ?_)
  refine OW.nil ?_
  refine OJ.go 1 [(148, .bool (r204 != r205))] ?_
  refine OJ.nil ?_
  refine SJ.cond (t := (.tmp 148)) (b := (r204 != r205)) bne_iff_ne (fun hc206 => ?_) (fun hc206 => ?_)
  · refine SJ.sr 1 ?_
    refine OJ.go 1 [(4, .bool false)] ?_
    refine OJ.nil ?_
    exact SJ.ret rfl (Res.run (ys := [.bool false]) (.tmp (by kernel_rfl) .nil) rfl)
  · refine SJ.skip ?_
    refine SJ.inBlock ?_
    refine SJ.rg 3 ?_
    refine OJ.go 3 [(8, .int .i64 (IntKind.wrap .i64 (s7 + 1))), (37, .int .i64 (IntKind.wrap .i64 (s7 + 1))), (36, .int .i64 s7)] ?_
    refine OJ.nil ?_
    exact SJ.at_ [1, 5, 7, 8] rfl
noncomputable def weirlaw15_NeighItems.K2 (r2 : ((Option Addr) × api_NeighConfig)) (s6 : Sl) (s7 : Int) (r246 : (Sl × Int)) (j253 : Sl) : M (LS (Sl × Int) Bool) :=
  weirlaw15_sameInts r246.1 j253 >>= fun r254 =>
  if ¬ (r254 = true) then
    pure (LS.done false)
  else
    weirlaw15_NeighItems.K1 r2 s7 s6
theorem weirlaw15_NeighItems.K2_ok (a1 : Sl) (r2 : ((Option Addr) × api_NeighConfig)) (s6 : Sl) (s7 : Int) (r246 : (Sl × Int)) (j253 : Sl) :
    SJ weirlaw15_NeighItems.cx [.code (c2 (c2 (c2 (c2 (c1 (c2 (c2 (c2 (c1 (c2 (c1 (c2 (c1 (c1 (c2 (c1 (c1 (c2 (c1 (c2 (c2 (c2 (c2 weirlaw15_NeighItems.B))))))))))))))))))))))), .inBlock 2, .code (c2 (c2 (c1 (c1 (c2 (c1 (c1 (c2 (c1 (c2 (c2 (c2 (c2 weirlaw15_NeighItems.B))))))))))))), .inBlock 1, .code (c2 (c2 (c1 (c1 (c2 (c1 (c2 (c2 (c2 (c2 weirlaw15_NeighItems.B)))))))))), .inLoop (c1 (c1 (c2 (c1 (c2 (c2 (c2 (c2 weirlaw15_NeighItems.B)))))))), .inBlock 0, .code (c2 (c2 (c2 (c2 (c2 weirlaw15_NeighItems.B)))))] [(1, Sl.v a1), (5, .pointer r2.1), (7, Sl.v s6), (8, .int .i64 s7), (14, Sl.v r246.1), (17, Sl.v j253)] [] (weirlaw15_NeighItems.K2 r2 s6 s7 r246 j253) (weirlaw15_NeighItems.F1 a1 r2) := by
  unfold weirlaw15_NeighItems.K2
  refine SJ.sr 4 ?_
  refine OJ.go 2 [(129, Sl.v j253), (128, Sl.v r246.1)] ?_
  refine OJ.call (d := 130) (g := 23) (ats := #[43, 43]) (args := [.tmp 128, .tmp 129]) (owed := []) F23 (weirlaw15_sameInts_ok r246.1 j253) (fun r254 => ?_)
  refine OW.nil ?_
  refine OJ.go 1 [(131, .bool (!r254))] ?_
  refine OJ.nil ?_
  refine SJ.cond (t := (.tmp 131)) (b := (!r254)) (bnot_iff Iff.rfl) (fun hc255 => ?_) (fun hc255 => ?_)
  · refine SJ.sr 1 ?_
    refine OJ.go 1 [(4, .bool false)] ?_
    refine OJ.nil ?_
    exact SJ.ret rfl (Res.run (ys := [.bool false]) (.tmp (by kernel_rfl) .nil) rfl)
  · refine SJ.skip ?_
    refine SJ.less [1, 5, 7, 8] (m' := [(1, Sl.v a1), (5, .pointer r2.1), (7, Sl.v s6), (8, .int .i64 s7)]) ?_
    exact weirlaw15_NeighItems.K1_ok a1 r2 s7 s6
noncomputable def weirlaw15_NeighItems.L1 (a1 : Sl) (r2 : ((Option Addr) × api_NeighConfig)) (s6 : Sl) (s7 : Int) : M (LS (Sl × Int) Bool) :=
  if s7 < (a1.len : Int) then
    idx a1.a a1.len s7 27 >>= fun p139 =>
    ld c_weirlaw15_Op p139 >>= fun x140 =>
    slot 36 >>= fun b141 =>
    if x140.Kind = 1 then
      neigh_Cache_Want r2.1 x140.Port x140.IP x140.N >>= fun r207 =>
      slot 34 >>= fun b208 =>
      weirlaw15_num r207.2.2 >>= fun r209 =>
      (if r209 = 0 then
          (if r207.2.1 = 3 then
              pure true
            else
              pure (r207.2.1 == 4)) >>= fun y210 =>
          pure y210
        else
          pure false) >>= fun y211 =>
      if y211 = true then
        weirlaw15_row s6 x140.Port x140.IP >>= fun r218 =>
        draw >>= fun _ =>
        idx r218.1.a r218.1.len r218.2 21 >>= fun p219 =>
        ld cL (Addr.add p219 18) >>= fun x220 =>
        slot 3 >>= fun b221 =>
        same cL (Addr.add p219 18) x220 >>= fun _ =>
        appl (cI .i64) 3 8 0 x220 [x140.N] >>= fun r222 =>
        idx r218.1.a r218.1.len r218.2 21 >>= fun p223 =>
        st cL (Addr.add p223 18) r222 >>= fun _ =>
        weirlaw15_NeighItems.K1 r2 s7 r218.1
      else
        weirlaw15_NeighItems.K1 r2 s7 s6
    else
      if x140.Kind = 2 then
        neigh_Cache_Learn r2.1 x140.Port x140.IP x140.Mac x140.N >>= fun r246 =>
        weirlaw15_place s6 x140.Port x140.IP >>= fun r247 =>
        (if r247 ≥ 0 then
            weirlaw15_num r246.2 >>= fun r248 =>
            pure (r248 == 0)
          else
            pure false) >>= fun y249 =>
        if y249 = true then
          idx s6.a s6.len r247 21 >>= fun p256 =>
          ld cL (Addr.add p256 18) >>= fun x257 =>
          idx s6.a s6.len r247 21 >>= fun p258 =>
          st cL (Addr.add p258 18) Sl.nil >>= fun _ =>
          weirlaw15_NeighItems.K2 r2 s6 s7 r246 x257
        else
          weirlaw15_NeighItems.K2 r2 s6 s7 r246 Sl.nil
      else
        if x140.Kind = 3 then
          neigh_Cache_Tick r2.1 >>= fun r263 =>
          weirlaw15_lost r2.1 s6 r263.2 >>= fun r264 =>
          if ¬ (r264 = true) then
            pure (LS.done false)
          else
            weirlaw15_NeighItems.K1 r2 s7 s6
        else
          weirlaw15_NeighItems.K1 r2 s7 s6
  else
    pure (LS.done true)
theorem weirlaw15_NeighItems.L1_ok (a1 : Sl) (r2 : ((Option Addr) × api_NeighConfig)) (s6 : Sl) (s7 : Int) :
    SJ weirlaw15_NeighItems.cx [.code (c1 (c1 (c2 (c1 (c2 (c2 (c2 (c2 weirlaw15_NeighItems.B)))))))), .inLoop (c1 (c1 (c2 (c1 (c2 (c2 (c2 (c2 weirlaw15_NeighItems.B)))))))), .inBlock 0, .code (c2 (c2 (c2 (c2 (c2 weirlaw15_NeighItems.B)))))] [(1, Sl.v a1), (5, .pointer r2.1), (7, Sl.v s6), (8, .int .i64 s7)] [] (weirlaw15_NeighItems.L1 a1 r2 s6 s7) (weirlaw15_NeighItems.F1 a1 r2) := by
  unfold weirlaw15_NeighItems.L1
  refine SJ.seq ?_
  refine SJ.sr 4 ?_
  refine OJ.go 4 [(35, .bool (decide (s7 < (a1.len : Int)))), (34, .int .i64 (a1.len : Int)), (33, Sl.v a1), (32, .int .i64 s7)] ?_
  refine OJ.nil ?_
  refine SJ.cond (t := (.tmp 35)) (b := decide (s7 < (a1.len : Int))) decide_eq_true_iff (fun hc269 => ?_) (fun hc269 => ?_)
  · refine SJ.skip ?_
    refine SJ.seq ?_
    refine SJ.block (id := 1) ?_
    refine SJ.sr 6 ?_
    refine OJ.go 2 [(39, .int .i64 s7), (38, Sl.v a1)] ?_
    refine OJ.idxS (d := 40) (T := 24) (y := .tmp 38) (j := .tmp 39) (E := 36) (cap := a1.cap) (k := .i64) (fun p139 => ?_)
    refine OJ.ld (d := 41) (y := .tmp 40) (pend2 := fun x140 => []) Ty36 (fun _ => rfl) (fun x140 => ?_)
    refine OJ.slotOf (d := 9) (op := (.alloc 36)) (cd := c_weirlaw15_Op) (u := z_weirlaw15_Op) (owed := []) (alloc_run Ty36) (fun b141 => ?_)
    refine OW.nil ?_
    refine OJ.kst (y := .tmp 9) (z := .tmp 41) (cd := c_weirlaw15_Op) (u := x140) (j := 0) (b := b141) (o := 0) (c_weirlaw15_Op.enc x140) (owed := []) Ty36 rfl (Upd.whole ((Cod.len _ _).trans (Cod.len _ _).symm)) rfl ?_
    refine OW.nil ?_
    refine OJ.nil ?_
    refine SJ.seq ?_
    refine SJ.sr 2 ?_
    refine OJ.go 1 [(42, .pointer (some (pt b141 0)))] ?_
    refine OJ.kld (d := 43) (y := .tmp 42) (cd := (cI .i64)) (j := 0) (b := b141) (o := 0) x140.Kind (pend2 := []) Ty3 rfl (At_weirlaw15_Op_Kind x140) rfl ?_
    refine OJ.nil ?_
    refine SJ.block (id := 2) ?_
    refine SJ.sr 2 ?_
    refine OJ.go 2 [(44, .bool (x140.Kind == 1)), (45, .bool (x140.Kind == 1))] ?_
    refine OJ.nil ?_
    refine SJ.cond (t := (.tmp 44)) (b := (x140.Kind == 1)) beq_iff_eq (fun hc268 => ?_) (fun hc268 => ?_)
    · refine SJ.sr 16 ?_
      refine OJ.go 2 [(48, .pointer (some (pt b141 2))), (47, .pointer r2.1)] ?_
      refine OJ.kld (d := 49) (y := .tmp 48) (cd := (cI .i64)) (j := 0) (b := b141) (o := 2) x140.Port (pend2 := []) Ty3 rfl (At_weirlaw15_Op_Port x140) rfl ?_
      refine OJ.go 1 [(50, .pointer (some (pt b141 3)))] ?_
      refine OJ.kld (d := 51) (y := .tmp 50) (cd := c_api_IP) (j := 0) (b := b141) (o := 3) x140.IP (pend2 := []) Ty32 rfl (At_weirlaw15_Op_IP x140) rfl ?_
      refine OJ.go 1 [(52, .pointer (some (pt b141 26)))] ?_
      refine OJ.kld (d := 53) (y := .tmp 52) (cd := (cI .i64)) (j := 0) (b := b141) (o := 26) x140.N (pend2 := []) Ty3 rfl (At_weirlaw15_Op_N x140) rfl ?_
      refine OJ.call (d := 54) (g := 15) (ats := #[25, 3, 32, 3]) (args := [.tmp 47, .tmp 49, .tmp 51, .tmp 53]) (owed := []) F15 (neigh_Cache_Want_ok r2.1 x140.Port x140.IP x140.N) (fun r207 => ?_)
      refine OW.nil ?_
      refine OJ.go 4 [(57, .int .i64 r207.2.2), (56, .int .i64 r207.2.1), (55, ((cI .u8).arr 6).val r207.1), (46, .tuple #[((cI .u8).arr 6).val r207.1, .int .i64 r207.2.1, .int .i64 r207.2.2])] ?_
      refine OJ.slotOf (d := 10) (op := (.alloc 34)) (cd := ((cI .u8).arr 6)) (u := (Vec.rep 6 0)) (owed := []) (alloc_run Ty34) (fun b208 => ?_)
      refine OW.nil ?_
      refine OJ.kst (y := .tmp 10) (z := .tmp 55) (cd := ((cI .u8).arr 6)) (u := r207.1) (j := 0) (b := b208) (o := 0) (((cI .u8).arr 6).enc r207.1) (owed := []) Ty34 rfl (Upd.whole ((Cod.len _ _).trans (Cod.len _ _).symm)) rfl ?_
      refine OW.nil ?_
      refine OJ.go 2 [(12, .int .i64 r207.2.2), (11, .int .i64 r207.2.1)] ?_
      refine OJ.nil ?_
      refine SJ.sr 11 ?_
      refine OJ.go 1 [(58, .int .i64 r207.2.2)] ?_
      refine OJ.call (d := 59) (g := 16) (ats := #[37]) (args := [.tmp 58]) (owed := []) F16 (weirlaw15_num_ok r207.2.2) (fun r209 => ?_)
      refine OW.nil ?_
      refine OJ.go 2 [(61, .bool (r209 == 0)), (60, .bool (r209 == 0))] ?_
      refine OJ.join (b := (r209 == 0)) [4, 5, 6, 7, 8, 9, 10] [] [1, 5, 7, 8, 9, 68] (fun y211 => [(1, Sl.v a1), (5, .pointer r2.1), (7, Sl.v s6), (8, .int .i64 s7), (9, .pointer (some (pt b141 0))), (68, .bool y211)]) [] [] (t := 61) beq_iff_eq (fun hp_ => ?_) (fun hp_ => ?_) (fun _ _ _ _ _ _ h_ => h_) (fun y211 => ?_)
      · refine OJ.go 3 [(64, .bool (r207.2.1 == 3)), (63, .bool (r207.2.1 == 3)), (62, .int .i64 r207.2.1)] ?_
        refine OJ.join (b := (r207.2.1 == 3)) [7, 8, 9] [10] [1, 5, 7, 8, 9, 61, 67] (fun y210 => [(1, Sl.v a1), (5, .pointer r2.1), (7, Sl.v s6), (8, .int .i64 s7), (9, .pointer (some (pt b141 0))), (61, .bool true), (67, .bool y210)]) [] [] (t := 64) beq_iff_eq (fun hp_ => ?_) (fun hp_ => ?_) (fun _ _ _ _ _ hq_ h_ => ⟨fun e_ he_ => (hq_ e_ he_).elim (fun h => h_.1 e_ h) (fun h => nomatch h), h_.2⟩) (fun y210 => ?_)
        · refine OJ.go 3 [(67, .bool true), (66, undef), (65, undef)] ?_
          exact OJ.nil ⟨(Cov.mem Cov.nil), rfl, _, rfl, by kernel_rfl⟩
        · refine OJ.go 3 [(67, .bool (r207.2.1 == 4)), (66, .bool (r207.2.1 == 4)), (65, .int .i64 r207.2.1)] ?_
          exact OJ.nil ⟨(Cov.mem Cov.nil), rfl, _, rfl, by kernel_rfl⟩
        · refine OJ.go 1 [(68, .bool y210)] ?_
          exact OJ.nil ⟨(Cov.mem Cov.nil), rfl, _, rfl, by kernel_rfl⟩
      · refine OJ.go 7 [(68, .bool false), (67, undef), (66, undef), (65, undef), (64, undef), (63, undef), (62, undef)] ?_
        exact OJ.nil ⟨(Cov.mem Cov.nil), rfl, _, rfl, by kernel_rfl⟩
      · refine OJ.nil ?_
        refine SJ.cond (t := (.tmp 68)) (b := y211) Iff.rfl (fun hc224 => ?_) (fun hc224 => ?_)
        · refine SJ.sr 1 ?_
          refine OJ.go 1 [(13, .int .i64 0)] ?_
          refine OJ.nil ?_
          refine SJ.sr 11 ?_
          refine OJ.go 2 [(71, .pointer (some (pt b141 2))), (70, Sl.v s6)] ?_
          refine OJ.kld (d := 72) (y := .tmp 71) (cd := (cI .i64)) (j := 1) (b := b141) (o := 2) x140.Port (pend2 := []) Ty3 rfl (At_weirlaw15_Op_Port x140) rfl ?_
          refine OJ.go 1 [(73, .pointer (some (pt b141 3)))] ?_
          refine OJ.kld (d := 74) (y := .tmp 73) (cd := c_api_IP) (j := 1) (b := b141) (o := 3) x140.IP (pend2 := []) Ty32 rfl (At_weirlaw15_Op_IP x140) rfl ?_
          refine OJ.call (d := 75) (g := 17) (ats := #[29, 3, 32]) (args := [.tmp 70, .tmp 72, .tmp 74]) (owed := []) F17 (weirlaw15_row_ok s6 x140.Port x140.IP) (fun r218 => ?_)
          refine OW.nil ?_
          refine OJ.go 5 [(13, .int .i64 r218.2), (7, Sl.v r218.1), (77, .int .i64 r218.2), (76, Sl.v r218.1), (69, .tuple #[Sl.v r218.1, .int .i64 r218.2])] ?_
          refine OJ.nil ?_
          refine SJ.draw (id := 15) (kd := [0, 0, 0, 0, 0, 0, 1, 0, 1, 2, 2, 0, 0, 2]) (bef := [0, 0, 0, 0, 12, 28, 60, 0, 128, 384, 1020, 2047, 4095, 8191]) (ord := [0, 1, 2, 3, 4, 5, 6, 7, 8, 9, 10, 11, 12, 13]) mixed ?_
          refine OJ.go 4 [(81, .int .i64 r218.2), (80, Sl.v r218.1), (79, .int .i64 r218.2), (78, Sl.v r218.1)] ?_
          refine OJ.idxS (d := 82) (T := 29) (y := .tmp 80) (j := .tmp 81) (E := 45) (cap := r218.1.cap) (k := .i64) (fun p219 => ?_)
          refine OJ.go 1 [(83, .pointer (some (Addr.add p219 18)))] ?_
          refine OJ.ld (d := 84) (y := .tmp 83) (pend2 := fun x220 => [⟨6, 43, (Addr.add p219 18), cL.val x220⟩]) Ty43 (fun _ => rfl) (fun x220 => ?_)
          refine OJ.go 1 [(85, .pointer (some (pt b141 26)))] ?_
          refine OJ.kld (d := 86) (y := .tmp 85) (cd := (cI .i64)) (j := 1) (b := b141) (o := 26) x140.N (pend2 := [⟨8, 3, (pt b141 26), (cI .i64).val x140.N⟩, ⟨6, 43, (Addr.add p219 18), cL.val x220⟩]) Ty3 rfl (At_weirlaw15_Op_N x140) rfl ?_
          refine OJ.rowSlot (d := 87) (t := 43) (parts := [(0, .tmp 86)]) (ps := [(0, (cI .i64).val x140.N)]) (cd := (cI .i64)) (⟨[x140.N], rfl⟩ : Vec Int 1) (owed := [⟨6, 43, (Addr.add p219 18), cL.val x220⟩]) Ty3 (Filled.cons (cd := (cI .i64)) (q := x140.N) (o := 0) rfl (Upd.arr (i := 0) (by decide) (by decide)) Filled.nil) (fun b221 => ?_)
          refine OW.same Ty43 ?_
          refine OW.nil ?_
          refine OJ.appl (d := 88) (t := 43) (u := 43) (so := .tmp 84) (xo := .tmp 87) (j := 0) (b := b221) (l := ((cI .i64).arr 1).enc (⟨[x140.N], rfl⟩ : Vec Int 1)) (n := 1) (k := 1) [x140.N] (owed := []) Ty3 (by rfl) (Cod.arr_enc _ _ _) (by rfl) (fun r222 => ?_)
          refine OW.nil ?_
          refine OJ.idxS (d := 89) (T := 29) (y := .tmp 78) (j := .tmp 79) (E := 45) (cap := r218.1.cap) (k := .i64) (fun p223 => ?_)
          refine OJ.go 1 [(90, .pointer (some (Addr.add p223 18)))] ?_
          refine OJ.st (y := .tmp 90) (z := .tmp 88) (owed := []) Ty43 ?_
          refine OW.nil ?_
          refine OJ.nil ?_
          refine SJ.forget (List.Sublist.cons _ (List.Sublist.cons _ (List.Sublist.cons _ List.Sublist.slnil))) ?_
          refine SJ.less [1, 5, 7, 8] (m' := [(1, Sl.v a1), (5, .pointer r2.1), (7, Sl.v r218.1), (8, .int .i64 s7)]) ?_
          exact weirlaw15_NeighItems.K1_ok a1 r2 s7 r218.1
        · refine SJ.skip ?_
          refine SJ.forget (List.Sublist.cons _ (List.Sublist.cons _ List.Sublist.slnil)) ?_
          refine SJ.less [1, 5, 7, 8] (m' := [(1, Sl.v a1), (5, .pointer r2.1), (7, Sl.v s6), (8, .int .i64 s7)]) ?_
          exact weirlaw15_NeighItems.K1_ok a1 r2 s7 s6
    · refine SJ.sr 2 ?_
      refine OJ.go 2 [(91, .bool (x140.Kind == 2)), (92, .bool (x140.Kind == 2))] ?_
      refine OJ.nil ?_
      refine SJ.cond (t := (.tmp 91)) (b := (x140.Kind == 2)) beq_iff_eq (fun hc267 => ?_) (fun hc267 => ?_)
      · refine SJ.sr 15 ?_
        refine OJ.go 2 [(95, .pointer (some (pt b141 2))), (94, .pointer r2.1)] ?_
        refine OJ.kld (d := 96) (y := .tmp 95) (cd := (cI .i64)) (j := 0) (b := b141) (o := 2) x140.Port (pend2 := []) Ty3 rfl (At_weirlaw15_Op_Port x140) rfl ?_
        refine OJ.go 1 [(97, .pointer (some (pt b141 3)))] ?_
        refine OJ.kld (d := 98) (y := .tmp 97) (cd := c_api_IP) (j := 0) (b := b141) (o := 3) x140.IP (pend2 := []) Ty32 rfl (At_weirlaw15_Op_IP x140) rfl ?_
        refine OJ.go 1 [(99, .pointer (some (pt b141 20)))] ?_
        refine OJ.kld (d := 100) (y := .tmp 99) (cd := ((cI .u8).arr 6)) (j := 0) (b := b141) (o := 20) x140.Mac (pend2 := []) Ty34 rfl (At_weirlaw15_Op_Mac x140) rfl ?_
        refine OJ.go 1 [(101, .pointer (some (pt b141 26)))] ?_
        refine OJ.kld (d := 102) (y := .tmp 101) (cd := (cI .i64)) (j := 0) (b := b141) (o := 26) x140.N (pend2 := []) Ty3 rfl (At_weirlaw15_Op_N x140) rfl ?_
        refine OJ.call (d := 103) (g := 18) (ats := #[25, 3, 32, 34, 3]) (args := [.tmp 94, .tmp 96, .tmp 98, .tmp 100, .tmp 102]) (owed := []) F18 (neigh_Cache_Learn_ok r2.1 x140.Port x140.IP x140.Mac x140.N) (fun r246 => ?_)
        refine OW.nil ?_
        refine OJ.go 5 [(15, .int .i64 r246.2), (14, Sl.v r246.1), (105, .int .i64 r246.2), (104, Sl.v r246.1), (93, .tuple #[Sl.v r246.1, .int .i64 r246.2])] ?_
        refine OJ.nil ?_
        refine SJ.sr 7 ?_
        refine OJ.go 2 [(107, .pointer (some (pt b141 2))), (106, Sl.v s6)] ?_
        refine OJ.kld (d := 108) (y := .tmp 107) (cd := (cI .i64)) (j := 0) (b := b141) (o := 2) x140.Port (pend2 := []) Ty3 rfl (At_weirlaw15_Op_Port x140) rfl ?_
        refine OJ.go 1 [(109, .pointer (some (pt b141 3)))] ?_
        refine OJ.kld (d := 110) (y := .tmp 109) (cd := c_api_IP) (j := 0) (b := b141) (o := 3) x140.IP (pend2 := []) Ty32 rfl (At_weirlaw15_Op_IP x140) rfl ?_
        refine OJ.call (d := 111) (g := 19) (ats := #[29, 3, 32]) (args := [.tmp 106, .tmp 108, .tmp 110]) (owed := []) F19 (weirlaw15_place_ok s6 x140.Port x140.IP) (fun r247 => ?_)
        refine OW.nil ?_
        refine OJ.go 1 [(16, .int .i64 r247)] ?_
        refine OJ.nil ?_
        refine SJ.sr 1 ?_
        refine OJ.go 1 [(17, Sl.v Sl.nil)] ?_
        refine OJ.nil ?_
        refine SJ.seq ?_
        refine SJ.sr 7 ?_
        refine OJ.go 3 [(114, .bool (decide (r247 ≥ 0))), (113, .bool (decide (r247 ≥ 0))), (112, .int .i64 r247)] ?_
        refine OJ.join (b := decide (r247 ≥ 0)) [3, 4, 5, 6] [] [1, 5, 7, 8, 14, 16, 17, 118] (fun y249 => [(1, Sl.v a1), (5, .pointer r2.1), (7, Sl.v s6), (8, .int .i64 s7), (14, Sl.v r246.1), (16, .int .i64 r247), (17, Sl.v Sl.nil), (118, .bool y249)]) [] [] (t := 114) decide_eq_true_iff (fun hp_ => ?_) (fun hp_ => ?_) (fun _ _ _ _ _ _ h_ => h_) (fun y249 => ?_)
        · refine OJ.go 1 [(115, .int .i64 r246.2)] ?_
          refine OJ.call (d := 116) (g := 16) (ats := #[37]) (args := [.tmp 115]) (owed := []) F16 (weirlaw15_num_ok r246.2) (fun r248 => ?_)
          refine OW.nil ?_
          refine OJ.go 2 [(118, .bool (r248 == 0)), (117, .bool (r248 == 0))] ?_
          exact OJ.nil ⟨(Cov.mem Cov.nil), rfl, _, rfl, by kernel_rfl⟩
        · refine OJ.go 4 [(118, .bool false), (117, undef), (116, undef), (115, undef)] ?_
          exact OJ.nil ⟨(Cov.mem Cov.nil), rfl, _, rfl, by kernel_rfl⟩
        · refine OJ.nil ?_
          refine SJ.cond (t := (.tmp 118)) (b := y249) Iff.rfl (fun hc259 => ?_) (fun hc259 => ?_)
          · refine SJ.sr 6 ?_
            refine OJ.go 2 [(120, .int .i64 r247), (119, Sl.v s6)] ?_
            refine OJ.idxS (d := 121) (T := 29) (y := .tmp 119) (j := .tmp 120) (E := 45) (cap := s6.cap) (k := .i64) (fun p256 => ?_)
            refine OJ.go 1 [(122, .pointer (some (Addr.add p256 18)))] ?_
            refine OJ.ld (d := 123) (y := .tmp 122) (pend2 := fun x257 => []) Ty43 (fun _ => rfl) (fun x257 => ?_)
            refine OJ.go 1 [(17, Sl.v x257)] ?_
            refine OJ.nil ?_
            refine SJ.rg 5 ?_
            refine OJ.go 2 [(125, .int .i64 r247), (124, Sl.v s6)] ?_
            refine OJ.idxS (d := 126) (T := 29) (y := .tmp 124) (j := .tmp 125) (E := 45) (cap := s6.cap) (k := .i64) (fun p258 => ?_)
            refine OJ.go 1 [(127, .pointer (some (Addr.add p258 18)))] ?_
            refine OJ.st (y := .tmp 127) (z := .const (.slice none 0 0)) (owed := []) Ty43 ?_
            refine OW.nil ?_
            refine OJ.nil ?_
            refine SJ.forget (List.Sublist.cons _ List.Sublist.slnil) ?_
            refine SJ.less [1, 5, 7, 8, 14, 17] (m' := [(1, Sl.v a1), (5, .pointer r2.1), (7, Sl.v s6), (8, .int .i64 s7), (14, Sl.v r246.1), (17, Sl.v x257)]) ?_
            exact weirlaw15_NeighItems.K2_ok a1 r2 s6 s7 r246 x257
          · refine SJ.skip ?_
            refine SJ.forget (List.Sublist.cons _ List.Sublist.slnil) ?_
            refine SJ.less [1, 5, 7, 8, 14, 17] (m' := [(1, Sl.v a1), (5, .pointer r2.1), (7, Sl.v s6), (8, .int .i64 s7), (14, Sl.v r246.1), (17, Sl.v Sl.nil)]) ?_
            exact weirlaw15_NeighItems.K2_ok a1 r2 s6 s7 r246 Sl.nil
      · refine SJ.sr 2 ?_
        refine OJ.go 2 [(132, .bool (x140.Kind == 3)), (133, .bool (x140.Kind == 3))] ?_
        refine OJ.nil ?_
        refine SJ.cond (t := (.tmp 132)) (b := (x140.Kind == 3)) beq_iff_eq (fun hc266 => ?_) (fun hc266 => ?_)
        · refine SJ.sr 7 ?_
          refine OJ.go 1 [(135, .pointer r2.1)] ?_
          refine OJ.call (d := 136) (g := 21) (ats := #[25]) (args := [.tmp 135]) (owed := []) F21 (neigh_Cache_Tick_ok r2.1) (fun r263 => ?_)
          refine OW.nil ?_
          refine OJ.go 5 [(19, Sl.v r263.2), (18, Sl.v r263.1), (138, Sl.v r263.2), (137, Sl.v r263.1), (134, .tuple #[Sl.v r263.1, Sl.v r263.2])] ?_
          refine OJ.nil ?_
          refine SJ.sr 5 ?_
          refine OJ.go 3 [(141, Sl.v r263.2), (140, Sl.v s6), (139, .pointer r2.1)] ?_
          refine OJ.call (d := 142) (g := 34) (ats := #[25, 29, 43]) (args := [.tmp 139, .tmp 140, .tmp 141]) (owed := []) F34 (weirlaw15_lost_ok r2.1 s6 r263.2) (fun r264 => ?_)
          refine OW.nil ?_
          refine OJ.go 1 [(143, .bool (!r264))] ?_
          refine OJ.nil ?_
          refine SJ.cond (t := (.tmp 143)) (b := (!r264)) (bnot_iff Iff.rfl) (fun hc265 => ?_) (fun hc265 => ?_)
          · refine SJ.sr 1 ?_
            refine OJ.go 1 [(4, .bool false)] ?_
            refine OJ.nil ?_
            exact SJ.ret rfl (Res.run (ys := [.bool false]) (.tmp (by kernel_rfl) .nil) rfl)
          · refine SJ.skip ?_
            refine SJ.forget (List.Sublist.cons _ List.Sublist.slnil) ?_
            refine SJ.less [1, 5, 7, 8] (m' := [(1, Sl.v a1), (5, .pointer r2.1), (7, Sl.v s6), (8, .int .i64 s7)]) ?_
            exact weirlaw15_NeighItems.K1_ok a1 r2 s7 s6
        · refine SJ.skip ?_
          refine SJ.forget (List.Sublist.cons _ List.Sublist.slnil) ?_
          refine SJ.less [1, 5, 7, 8] (m' := [(1, Sl.v a1), (5, .pointer r2.1), (7, Sl.v s6), (8, .int .i64 s7)]) ?_
          exact weirlaw15_NeighItems.K1_ok a1 r2 s7 s6
  · refine SJ.exit (id := 0) (by rfl) ?_
    refine SJ.sr 1 ?_
    refine OJ.go 1 [(4, .bool true)] ?_
    refine OJ.nil ?_
    exact SJ.ret rfl (Res.run (ys := [.bool true]) (.tmp (by kernel_rfl) .nil) rfl)
noncomputable def weirlaw15_NeighItems (a0 : api_NeighConfig) (a1 : Sl) : M Bool :=
  slot 23 >>= fun b1 =>
  weirlaw15_cache a0 >>= fun r2 =>
  slot 23 >>= fun b3 =>
  (if r2.1 = none then
      pure true
    else
      weirlaw15_first r2.1 >>= fun r4 =>
      pure (!r4)) >>= fun y5 =>
  if y5 = true then
    pure false
  else
    loopM (fun s_ : (Sl × Int) => weirlaw15_NeighItems.L1 a1 r2 s_.1 s_.2) (Sl.nil, 0)
theorem weirlaw15_NeighItems_ok (a0 : api_NeighConfig) (a1 : Sl) : Ref Try.prog 5 [c_api_NeighConfig.val a0, Sl.v a1] (weirlaw15_NeighItems a0 a1) weirlaw15_NeighItems.out := by
  refine Ref.of (cd := weirlaw15_NeighItems.B) Try.func5 ?_
  show SJ weirlaw15_NeighItems.cx [.code weirlaw15_NeighItems.B] [(0, c_api_NeighConfig.val a0), (1, Sl.v a1)] [] (weirlaw15_NeighItems a0 a1) weirlaw15_NeighItems.F0
  unfold weirlaw15_NeighItems
  refine SJ.sr 2 ?_
  refine OJ.slotOf (d := 2) (op := (.box 23 (.tmp 0))) (cd := c_api_NeighConfig) (u := a0) (owed := []) (box_run (by kernel_rfl)) (fun b1 => ?_)
  refine OW.nil ?_
  refine OJ.go 1 [(4, .bool false)] ?_
  refine OJ.nil ?_
  refine SJ.sr 8 ?_
  refine OJ.kld (d := 21) (y := .tmp 2) (cd := c_api_NeighConfig) (j := 0) (b := b1) (o := 0) a0 (pend2 := []) Ty23 rfl (At.whole _) rfl ?_
  refine OJ.call (d := 22) (g := 13) (ats := #[23]) (args := [.tmp 21]) (owed := []) F13 (weirlaw15_cache_ok a0) (fun r2 => ?_)
  refine OW.nil ?_
  refine OJ.go 3 [(24, c_api_NeighConfig.val r2.2), (23, .pointer r2.1), (20, .tuple #[.pointer r2.1, c_api_NeighConfig.val r2.2])] ?_
  refine OJ.slotOf (d := 6) (op := (.alloc 23)) (cd := c_api_NeighConfig) (u := z_api_NeighConfig) (owed := []) (alloc_run Ty23) (fun b3 => ?_)
  refine OW.nil ?_
  refine OJ.go 1 [(5, .pointer r2.1)] ?_
  refine OJ.kst (y := .tmp 6) (z := .tmp 24) (cd := c_api_NeighConfig) (u := r2.2) (j := 0) (b := b3) (o := 0) (c_api_NeighConfig.enc r2.2) (owed := []) Ty23 rfl (Upd.whole ((Cod.len _ _).trans (Cod.len _ _).symm)) rfl ?_
  refine OW.nil ?_
  refine OJ.nil ?_
  refine SJ.seq ?_
  refine SJ.sr 7 ?_
  refine OJ.go 3 [(27, .bool (Option.isNone r2.1)), (26, .bool (Option.isNone r2.1)), (25, .pointer r2.1)] ?_
  refine OJ.join (b := (Option.isNone r2.1)) [3, 4, 5, 6] [] [1, 5, 31] (fun y5 => [(1, Sl.v a1), (5, .pointer r2.1), (31, .bool y5)]) [] [] (t := 27) Option.isNone_iff_eq_none (fun hp_ => ?_) (fun hp_ => ?_) (fun _ _ _ _ _ _ h_ => h_) (fun y5 => ?_)
  · refine OJ.go 4 [(31, .bool true), (30, undef), (29, undef), (28, undef)] ?_
    exact OJ.nil ⟨(Cov.mem Cov.nil), rfl, _, rfl, by kernel_rfl⟩
  · refine OJ.go 1 [(28, .pointer r2.1)] ?_
    refine OJ.call (d := 29) (g := 14) (ats := #[25]) (args := [.tmp 28]) (owed := []) F14 (weirlaw15_first_ok r2.1) (fun r4 => ?_)
    refine OW.nil ?_
    refine OJ.go 2 [(31, .bool (!r4)), (30, .bool (!r4))] ?_
    exact OJ.nil ⟨(Cov.mem Cov.nil), rfl, _, rfl, by kernel_rfl⟩
  · refine OJ.nil ?_
    refine SJ.cond (t := (.tmp 31)) (b := y5) Iff.rfl (fun hc270 => ?_) (fun hc270 => ?_)
    · refine SJ.sr 1 ?_
      refine OJ.go 1 [(4, .bool false)] ?_
      refine OJ.nil ?_
      exact SJ.ret rfl (Res.run (ys := [.bool false]) (.tmp (by kernel_rfl) .nil) rfl)
    · refine SJ.skip ?_
      refine SJ.sr 1 ?_
      refine OJ.go 1 [(7, Sl.v Sl.nil)] ?_
      refine OJ.nil ?_
      refine SJ.seq ?_
      refine SJ.sr 1 ?_
      refine OJ.go 1 [(8, .int .i64 0)] ?_
      refine OJ.nil ?_
      refine SJ.block (id := 0) ?_
      refine SJ.forget (List.Sublist.cons _ (List.Sublist.cons _ List.Sublist.slnil)) ?_
      exact SJ.loop (fun s_ : (Sl × Int) => [(1, Sl.v a1), (5, .pointer r2.1), (7, Sl.v s_.1), (8, .int .i64 s_.2)]) (fun s_ : (Sl × Int) => []) [1, 5, 7, 8] rfl (fun _ _ => rfl) (fun s_ => weirlaw15_NeighItems.L1_ok a1 r2 s_.1 s_.2)

/-! ### (*weir/neigh.Cache).All: function 27 -/
noncomputable def neigh_Cache_All.B : Code := (Try.f27.body).getD .skip
noncomputable def neigh_Cache_All.cx : Fx := ⟨Try.prog, 27, Try.f27⟩
noncomputable def neigh_Cache_All.out (r_ : Sl) : Value := Sl.v r_
noncomputable def neigh_Cache_All.F0 (r_ : Sl) : Reach := .ret (neigh_Cache_All.out r_)
noncomputable def neigh_Cache_All.F1 (r1 : Sl) : (LS (Sl × Int) Sl) → Reach := loopF [.inLoop (c1 (c1 (c2 (c1 (c2 (c2 neigh_Cache_All.B)))))), .inBlock 0, .code (c2 (c2 (c2 neigh_Cache_All.B)))] (fun s_ : (Sl × Int) => [(3, Sl.v s_.1), (7, Sl.v r1), (8, .int .i64 (r1.len : Int)), (9, .int .i64 s_.2)]) (fun s_ : (Sl × Int) => []) neigh_Cache_All.F0
noncomputable def neigh_Cache_All.L1 (r1 : Sl) (s2 : Sl) (s3 : Int) : M (LS (Sl × Int) Sl) :=
  if s3 < (r1.len : Int) then
    idx r1.a r1.len s3 1 >>= fun p10 =>
    ld cP p10 >>= fun x11 =>
    neigh_entry_told x11 >>= fun r12 =>
    slot 77 >>= fun b13 =>
    appl c_api_Neighbour 77 72 z_api_Neighbour s2 [r12] >>= fun r14 =>
    pure (LS.next (r14, IntKind.wrap .i64 (s3 + 1)))
  else
    pure (LS.done s2)
theorem neigh_Cache_All.L1_ok (r1 : Sl) (s2 : Sl) (s3 : Int) :
    SJ neigh_Cache_All.cx [.code (c1 (c1 (c2 (c1 (c2 (c2 neigh_Cache_All.B)))))), .inLoop (c1 (c1 (c2 (c1 (c2 (c2 neigh_Cache_All.B)))))), .inBlock 0, .code (c2 (c2 (c2 neigh_Cache_All.B)))] [(3, Sl.v s2), (7, Sl.v r1), (8, .int .i64 (r1.len : Int)), (9, .int .i64 s3)] [] (neigh_Cache_All.L1 r1 s2 s3) (neigh_Cache_All.F1 r1) := by
  unfold neigh_Cache_All.L1
  refine SJ.sr 1 ?_
  refine OJ.go 1 [(10, .bool (decide (s3 < (r1.len : Int))))] ?_
  refine OJ.nil ?_
  refine SJ.seq ?_
  refine SJ.cond (t := (.tmp 10)) (b := decide (s3 < (r1.len : Int))) decide_eq_true_iff (fun hc15 => ?_) (fun hc15 => ?_)
  · refine SJ.skip ?_
    refine SJ.seq ?_
    refine SJ.block (id := 1) ?_
    refine SJ.sr 3 ?_
    refine OJ.idxS (d := 11) (T := 108) (y := .tmp 7) (j := .tmp 9) (E := 100) (cap := r1.cap) (k := .i64) (fun p10 => ?_)
    refine OJ.ld (d := 12) (y := .tmp 11) (pend2 := fun x11 => []) Ty100 (fun _ => rfl) (fun x11 => ?_)
    refine OJ.go 1 [(5, .pointer x11)] ?_
    refine OJ.nil ?_
    refine SJ.rg 6 ?_
    refine OJ.go 2 [(14, .pointer x11), (13, Sl.v s2)] ?_
    refine OJ.call (d := 15) (g := 51) (ats := #[100]) (args := [.tmp 14]) (owed := []) F51 (neigh_entry_told_ok x11) (fun r12 => ?_)
    refine OW.nil ?_
    refine OJ.rowSlot (d := 16) (t := 68) (parts := [(0, .tmp 15)]) (ps := [(0, c_api_Neighbour.val r12)]) (cd := c_api_Neighbour) (⟨[r12], rfl⟩ : Vec api_Neighbour 1) (owed := []) Ty77 (Filled.cons (cd := c_api_Neighbour) (q := r12) (o := 0) rfl (Upd.arr (i := 0) (by decide) (by decide)) Filled.nil) (fun b13 => ?_)
    refine OW.nil ?_
    refine OJ.appl (d := 17) (t := 68) (u := 68) (so := .tmp 13) (xo := .tmp 16) (j := 0) (b := b13) (l := (c_api_Neighbour.arr 1).enc (⟨[r12], rfl⟩ : Vec api_Neighbour 1)) (n := 1) (k := 1) [r12] (owed := []) Ty77 (by rfl) (Cod.arr_enc _ _ _) (by rfl) (fun r14 => ?_)
    refine OW.nil ?_
    refine OJ.go 1 [(3, Sl.v r14)] ?_
    refine OJ.nil ?_
    refine SJ.inBlock ?_
    refine SJ.rg 2 ?_
    refine OJ.go 2 [(9, .int .i64 (IntKind.wrap .i64 (s3 + 1))), (18, .int .i64 (IntKind.wrap .i64 (s3 + 1)))] ?_
    refine OJ.nil ?_
    refine SJ.forget (List.Sublist.cons _ List.Sublist.slnil) ?_
    exact SJ.at_ [3, 7, 8, 9] rfl
  · refine SJ.exit (id := 0) (by rfl) ?_
    refine SJ.sr 2 ?_
    refine OJ.go 2 [(2, Sl.v s2), (19, Sl.v s2)] ?_
    refine OJ.nil ?_
    exact SJ.ret rfl (Res.run (ys := [Sl.v s2]) (.tmp (by kernel_rfl) .nil) rfl)
noncomputable def neigh_Cache_All (a0 : (Option Addr)) : M Sl :=
  neigh_Cache_sorted a0 >>= fun r1 =>
  loopM (fun s_ : (Sl × Int) => neigh_Cache_All.L1 r1 s_.1 s_.2) (Sl.nil, 0)
theorem neigh_Cache_All_ok (a0 : (Option Addr)) : Ref Try.prog 27 [.pointer a0] (neigh_Cache_All a0) neigh_Cache_All.out := by
  refine Ref.of (cd := neigh_Cache_All.B) Try.func27 ?_
  show SJ neigh_Cache_All.cx [.code neigh_Cache_All.B] [(0, .pointer a0)] [] (neigh_Cache_All a0) neigh_Cache_All.F0
  unfold neigh_Cache_All
  refine SJ.sr 1 ?_
  refine OJ.go 1 [(2, Sl.v Sl.nil)] ?_
  refine OJ.nil ?_
  refine SJ.sr 1 ?_
  refine OJ.go 1 [(3, Sl.v Sl.nil)] ?_
  refine OJ.nil ?_
  refine SJ.seq ?_
  refine SJ.sr 4 ?_
  refine OJ.go 1 [(6, .pointer a0)] ?_
  refine OJ.call (d := 7) (g := 50) (ats := #[25]) (args := [.tmp 6]) (owed := []) F50 (neigh_Cache_sorted_ok a0) (fun r1 => ?_)
  refine OW.nil ?_
  refine OJ.go 2 [(9, .int .i64 0), (8, .int .i64 (r1.len : Int))] ?_
  refine OJ.nil ?_
  refine SJ.block (id := 0) ?_
  exact SJ.loop (fun s_ : (Sl × Int) => [(3, Sl.v s_.1), (7, Sl.v r1), (8, .int .i64 (r1.len : Int)), (9, .int .i64 s_.2)]) (fun s_ : (Sl × Int) => []) [3, 7, 8, 9] rfl (fun _ _ => rfl) (fun s_ => neigh_Cache_All.L1_ok r1 s_.1 s_.2)

/-! ### weir/weirlaw15.asking: function 20 -/
noncomputable def weirlaw15_asking.B : Code := (Try.f20.body).getD .skip
noncomputable def weirlaw15_asking.cx : Fx := ⟨Try.prog, 20, Try.f20⟩
noncomputable def weirlaw15_asking.out (r_ : Bool) : Value := .bool r_
noncomputable def weirlaw15_asking.F0 (r_ : Bool) : Reach := .ret (weirlaw15_asking.out r_)
noncomputable def weirlaw15_asking (a0 : (Option Addr)) (a1 : Int) (a2 : api_IP) : M Bool :=
  slot 32 >>= fun b1 =>
  neigh_Cache_Get a0 a1 a2 >>= fun r2 =>
  slot 77 >>= fun b3 =>
  (if r2.2 = true then
      (if r2.1.State = 1 then
          pure true
        else
          pure (r2.1.State == 4)) >>= fun y4 =>
      pure y4
    else
      pure false) >>= fun y5 =>
  pure y5
theorem weirlaw15_asking_ok (a0 : (Option Addr)) (a1 : Int) (a2 : api_IP) : Ref Try.prog 20 [.pointer a0, .int .i64 a1, c_api_IP.val a2] (weirlaw15_asking a0 a1 a2) weirlaw15_asking.out := by
  refine Ref.of (cd := weirlaw15_asking.B) Try.func20 ?_
  show SJ weirlaw15_asking.cx [.code weirlaw15_asking.B] [(0, .pointer a0), (1, .int .i64 a1), (2, c_api_IP.val a2)] [] (weirlaw15_asking a0 a1 a2) weirlaw15_asking.F0
  unfold weirlaw15_asking
  refine SJ.sr 2 ?_
  refine OJ.slotOf (d := 5) (op := (.box 32 (.tmp 2))) (cd := c_api_IP) (u := a2) (owed := []) (box_run (by kernel_rfl)) (fun b1 => ?_)
  refine OW.nil ?_
  refine OJ.go 1 [(6, .bool false)] ?_
  refine OJ.nil ?_
  refine SJ.sr 10 ?_
  refine OJ.go 2 [(11, .int .i64 a1), (10, .pointer a0)] ?_
  refine OJ.kld (d := 12) (y := .tmp 5) (cd := c_api_IP) (j := 0) (b := b1) (o := 0) a2 (pend2 := []) Ty32 rfl (At.whole _) rfl ?_
  refine OJ.call (d := 13) (g := 43) (ats := #[25, 3, 32]) (args := [.tmp 10, .tmp 11, .tmp 12]) (owed := []) F43 (neigh_Cache_Get_ok a0 a1 a2) (fun r2 => ?_)
  refine OW.nil ?_
  refine OJ.go 3 [(15, .bool r2.2), (14, c_api_Neighbour.val r2.1), (9, .tuple #[c_api_Neighbour.val r2.1, .bool r2.2])] ?_
  refine OJ.slotOf (d := 7) (op := (.alloc 77)) (cd := c_api_Neighbour) (u := z_api_Neighbour) (owed := []) (alloc_run Ty77) (fun b3 => ?_)
  refine OW.nil ?_
  refine OJ.kst (y := .tmp 7) (z := .tmp 14) (cd := c_api_Neighbour) (u := r2.1) (j := 0) (b := b3) (o := 0) (c_api_Neighbour.enc r2.1) (owed := []) Ty77 rfl (Upd.whole ((Cod.len _ _).trans (Cod.len _ _).symm)) rfl ?_
  refine OW.nil ?_
  refine OJ.go 1 [(8, .bool r2.2)] ?_
  refine OJ.nil ?_
  refine SJ.sr 12 ?_
  refine OJ.go 2 [(17, .bool r2.2), (16, .bool r2.2)] ?_
  refine OJ.join (b := r2.2) [2, 3, 4, 5, 6, 7, 8, 9, 10] [11] [26] (fun y5 => [(26, .bool y5)]) [] [] (t := 17) Iff.rfl (fun hp_ => ?_) (fun hp_ => ?_) (fun _ _ _ _ _ _ h_ => h_) (fun y5 => ?_)
  · refine OJ.go 1 [(18, .pointer (some (pt b3 24)))] ?_
    refine OJ.kld (d := 19) (y := .tmp 18) (cd := (cI .i64)) (j := 0) (b := b3) (o := 24) r2.1.State (pend2 := []) Ty3 rfl (At_api_Neighbour_State r2.1) rfl ?_
    refine OJ.go 2 [(21, .bool (r2.1.State == 1)), (20, .bool (r2.1.State == 1))] ?_
    refine OJ.join (b := (r2.1.State == 1)) [6, 7, 8, 9] [10] [17, 25] (fun y4 => [(17, .bool true), (25, .bool y4)]) [] [] (t := 21) beq_iff_eq (fun hp_ => ?_) (fun hp_ => ?_) (fun _ _ _ _ _ hq_ h_ => ⟨fun e_ he_ => (hq_ e_ he_).elim (fun h => h_.1 e_ h) (fun h => nomatch h), h_.2⟩) (fun y4 => ?_)
    · refine OJ.go 4 [(25, .bool true), (24, undef), (23, undef), (22, undef)] ?_
      exact OJ.nil ⟨(Cov.mem Cov.nil), rfl, _, rfl, by kernel_rfl⟩
    · refine OJ.go 1 [(22, .pointer (some (pt b3 24)))] ?_
      refine OJ.kld (d := 23) (y := .tmp 22) (cd := (cI .i64)) (j := 0) (b := b3) (o := 24) r2.1.State (pend2 := []) Ty3 rfl (At_api_Neighbour_State r2.1) rfl ?_
      refine OJ.go 2 [(25, .bool (r2.1.State == 4)), (24, .bool (r2.1.State == 4))] ?_
      exact OJ.nil ⟨(Cov.mem Cov.nil), rfl, _, rfl, by kernel_rfl⟩
    · refine OJ.go 1 [(26, .bool y4)] ?_
      exact OJ.nil ⟨(Cov.mem Cov.nil), rfl, _, rfl, by kernel_rfl⟩
  · refine OJ.go 9 [(26, .bool false), (25, undef), (24, undef), (23, undef), (22, undef), (21, undef), (20, undef), (19, undef), (18, undef)] ?_
    exact OJ.nil ⟨(Cov.mem Cov.nil), rfl, _, rfl, by kernel_rfl⟩
  · refine OJ.go 1 [(6, .bool y5)] ?_
    refine OJ.nil ?_
    exact SJ.ret rfl (Res.run (ys := [.bool y5]) (.tmp (by kernel_rfl) .nil) rfl)
end Go.Proofs.Ytlkhijflgbobjaa.Lx
