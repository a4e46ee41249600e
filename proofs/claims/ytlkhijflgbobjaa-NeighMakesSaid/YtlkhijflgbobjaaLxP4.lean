/- Programs of the M-world for Go functions, each with the proof that the Go text does what it says. Printed by lxgen.py. -/
import Derived.Test.YtlkhijflgbobjaaLxT
import Derived.Test.YtlkhijflgbobjaaLxP0
import Derived.Test.YtlkhijflgbobjaaLxP1
import Derived.Test.YtlkhijflgbobjaaLxP2
import Derived.Test.YtlkhijflgbobjaaLxP3
set_option linter.unusedVariables false
set_option linter.unusedSimpArgs false
namespace Go.Proofs.Ytlkhijflgbobjaa.Lx
open Go Go.Proofs
/-! ### weir/weirref15.Get: function 65 -/
noncomputable def weirref15_Get.B : Code := (Try.f65.body).getD .skip
noncomputable def weirref15_Get.cx : Fx := ⟨Try.prog, 65, Try.f65⟩
noncomputable def weirref15_Get.out (r_ : (api_Neighbour × Bool)) : Value := .tuple #[c_api_Neighbour.val r_.1, .bool r_.2]
noncomputable def weirref15_Get.F0 (r_ : (api_Neighbour × Bool)) : Reach := .ret (weirref15_Get.out r_)
noncomputable def weirref15_Get (a0 : weirref15_Cache) (a1 : Int) (a2 : api_IP) : M (api_Neighbour × Bool) :=
  slot 86 >>= fun b1 =>
  slot 32 >>= fun b2 =>
  slot 77 >>= fun b3 =>
  weirref15_find a0 a1 a2 >>= fun r4 =>
  if r4 < 0 then
    pure (z_api_Neighbour, false)
  else
    idx a0.L.a a0.L.len r4 29 >>= fun p5 =>
    ld c_api_Neighbour p5 >>= fun x6 =>
    pure (x6, true)
theorem weirref15_Get_ok (a0 : weirref15_Cache) (a1 : Int) (a2 : api_IP) : Ref Try.prog 65 [c_weirref15_Cache.val a0, .int .i64 a1, c_api_IP.val a2] (weirref15_Get a0 a1 a2) weirref15_Get.out := by
  refine Ref.of (cd := weirref15_Get.B) Try.func65 ?_
  show SJ weirref15_Get.cx [.code weirref15_Get.B] [(0, c_weirref15_Cache.val a0), (1, .int .i64 a1), (2, c_api_IP.val a2)] [] (weirref15_Get a0 a1 a2) weirref15_Get.F0
  unfold weirref15_Get
  refine SJ.sr 4 ?_
  refine OJ.slotOf (d := 3) (op := (.box 86 (.tmp 0))) (cd := c_weirref15_Cache) (u := a0) (owed := []) (box_run (by kernel_rfl)) (fun b1 => ?_)
  refine OW.nil ?_
  refine OJ.slotOf (d := 5) (op := (.box 32 (.tmp 2))) (cd := c_api_IP) (u := a2) (owed := []) (box_run (by kernel_rfl)) (fun b2 => ?_)
  refine OW.nil ?_
  refine OJ.slotOf (d := 6) (op := (.alloc 77)) (cd := c_api_Neighbour) (u := z_api_Neighbour) (owed := []) (alloc_run Ty77) (fun b3 => ?_)
  refine OW.nil ?_
  refine OJ.go 1 [(7, .bool false)] ?_
  refine OJ.nil ?_
  refine SJ.sr 5 ?_
  refine OJ.kld (d := 9) (y := .tmp 3) (cd := c_weirref15_Cache) (j := 2) (b := b1) (o := 0) a0 (pend2 := []) Ty86 rfl (At.whole _) rfl ?_
  refine OJ.go 1 [(10, .int .i64 a1)] ?_
  refine OJ.kld (d := 11) (y := .tmp 5) (cd := c_api_IP) (j := 1) (b := b2) (o := 0) a2 (pend2 := []) Ty32 rfl (At.whole _) rfl ?_
  refine OJ.call (d := 12) (g := 73) (ats := #[86, 3, 32]) (args := [.tmp 9, .tmp 10, .tmp 11]) (owed := []) F73 (weirref15_find_ok a0 a1 a2) (fun r4 => ?_)
  refine OW.nil ?_
  refine OJ.go 1 [(8, .int .i64 r4)] ?_
  refine OJ.nil ?_
  refine SJ.seq ?_
  refine SJ.sr 2 ?_
  refine OJ.go 2 [(14, .bool (decide (r4 < 0))), (13, .int .i64 r4)] ?_
  refine OJ.nil ?_
  refine SJ.cond (t := (.tmp 14)) (b := decide (r4 < 0)) decide_eq_true_iff (fun hc7 => ?_) (fun hc7 => ?_)
  · refine SJ.sr 3 ?_
    refine OJ.build (d := 15) (T := 77) (parts := []) (ps := []) (cd := c_api_Neighbour) (z0 := z_api_Neighbour) z_api_Neighbour Ty77 rfl Filled.nil ?_
    refine OJ.kst (y := .tmp 6) (z := .tmp 15) (cd := c_api_Neighbour) (u := z_api_Neighbour) (j := 0) (b := b3) (o := 0) (c_api_Neighbour.enc z_api_Neighbour) (owed := []) Ty77 rfl (Upd.whole ((Cod.len _ _).trans (Cod.len _ _).symm)) rfl ?_
    refine OW.nil ?_
    refine OJ.go 1 [(7, .bool false)] ?_
    refine OJ.nil ?_
    exact SJ.ret rfl (Res.run (ys := [c_api_Neighbour.val z_api_Neighbour, .bool false]) (.cell (j := 0) (b := b3) (cd := c_api_Neighbour) (q := z_api_Neighbour) (by kernel_rfl) rfl Ty77 (At.whole _) (.tmp (by kernel_rfl) .nil)) rfl)
  · refine SJ.skip ?_
    refine SJ.sr 8 ?_
    refine OJ.go 1 [(16, .pointer (some (pt b1 5)))] ?_
    refine OJ.kld (d := 17) (y := .tmp 16) (cd := cL) (j := 2) (b := b1) (o := 5) a0.L (pend2 := []) Ty84 rfl (At_weirref15_Cache_L a0) rfl ?_
    refine OJ.go 1 [(18, .int .i64 r4)] ?_
    refine OJ.idxS (d := 19) (T := 84) (y := .tmp 17) (j := .tmp 18) (E := 145) (cap := a0.L.cap) (k := .i64) (fun p5 => ?_)
    refine OJ.go 1 [(20, .pointer (some p5))] ?_
    refine OJ.ld (d := 21) (y := .tmp 20) (pend2 := fun x6 => []) Ty77 (fun _ => rfl) (fun x6 => ?_)
    refine OJ.kst (y := .tmp 6) (z := .tmp 21) (cd := c_api_Neighbour) (u := x6) (j := 0) (b := b3) (o := 0) (c_api_Neighbour.enc x6) (owed := []) Ty77 rfl (Upd.whole ((Cod.len _ _).trans (Cod.len _ _).symm)) rfl ?_
    refine OW.nil ?_
    refine OJ.go 1 [(7, .bool true)] ?_
    refine OJ.nil ?_
    exact SJ.ret rfl (Res.run (ys := [c_api_Neighbour.val x6, .bool true]) (.cell (j := 0) (b := b3) (cd := c_api_Neighbour) (q := x6) (by kernel_rfl) rfl Ty77 (At.whole _) (.tmp (by kernel_rfl) .nil)) rfl)

/-! ### (*weir/neigh.Cache).All: function 27 -/
noncomputable def neigh_Cache_All.B : Code := (Try.f27.body).getD .skip
noncomputable def neigh_Cache_All.cx : Fx := ⟨Try.prog, 27, Try.f27⟩
noncomputable def neigh_Cache_All.out (r_ : Sl) : Value := Sl.v r_
noncomputable def neigh_Cache_All.F0 (r_ : Sl) : Reach := .ret (neigh_Cache_All.out r_)
noncomputable def neigh_Cache_All.F1 (r1 : Sl) : (LS (Sl × Int) Sl) → Reach := loopF [.inLoop (c1 (c1 (c2 (c1 (c2 (c2 neigh_Cache_All.B)))))), .inBlock 0, .code (c2 (c2 (c2 neigh_Cache_All.B)))] (fun s_ : (Sl × Int) => [(3, Sl.v s_.1), (7, Sl.v r1), (8, .int .i64 (r1.len : Int)), (9, .int .i64 s_.2)]) (fun s_ : (Sl × Int) => []) neigh_Cache_All.F0
noncomputable def neigh_Cache_All.L1 (r1 : Sl) (s2 : Sl) (s3 : Int) : M (LS (Sl × Int) Sl) :=
  if s3 < (r1.len : Int) then
    idx r1.a r1.len s3 1 >>= fun p10 =>
    ld cP p10 >>= fun x11 =>
    neigh_entry_told x11 >>= fun r12 =>
    slot 77 >>= fun b13 =>
    appl c_api_Neighbour 77 72 z_api_Neighbour s2 [r12] >>= fun r14 =>
    pure (LS.next (r14, IntKind.wrap .i64 (s3 + 1)))
  else
    pure (LS.done s2)
theorem neigh_Cache_All.L1_ok (r1 : Sl) (s2 : Sl) (s3 : Int) :
    SJ neigh_Cache_All.cx [.code (c1 (c1 (c2 (c1 (c2 (c2 neigh_Cache_All.B)))))), .inLoop (c1 (c1 (c2 (c1 (c2 (c2 neigh_Cache_All.B)))))), .inBlock 0, .code (c2 (c2 (c2 neigh_Cache_All.B)))] [(3, Sl.v s2), (7, Sl.v r1), (8, .int .i64 (r1.len : Int)), (9, .int .i64 s3)] [] (neigh_Cache_All.L1 r1 s2 s3) (neigh_Cache_All.F1 r1) := by
  unfold neigh_Cache_All.L1
  refine SJ.sr 1 ?_
  refine OJ.go 1 [(10, .bool (decide (s3 < (r1.len : Int))))] ?_
  refine OJ.nil ?_
  refine SJ.seq ?_
  refine SJ.cond (t := (.tmp 10)) (b := decide (s3 < (r1.len : Int))) decide_eq_true_iff (fun hc15 => ?_) (fun hc15 => ?_)
  · refine SJ.skip ?_
    refine SJ.seq ?_
    refine SJ.block (id := 1) ?_
    refine SJ.sr 3 ?_
    refine OJ.idxS (d := 11) (T := 108) (y := .tmp 7) (j := .tmp 9) (E := 100) (cap := r1.cap) (k := .i64) (fun p10 => ?_)
    refine OJ.ld (d := 12) (y := .tmp 11) (pend2 := fun x11 => []) Ty100 (fun _ => rfl) (fun x11 => ?_)
    refine OJ.go 1 [(5, .pointer x11)] ?_
    refine OJ.nil ?_
    refine SJ.rg 6 ?_
    refine OJ.go 2 [(14, .pointer x11), (13, Sl.v s2)] ?_
    refine OJ.call (d := 15) (g := 51) (ats := #[100]) (args := [.tmp 14]) (owed := []) F51 (neigh_entry_told_ok x11) (fun r12 => ?_)
    refine OW.nil ?_
    refine OJ.rowSlot (d := 16) (t := 68) (parts := [(0, .tmp 15)]) (ps := [(0, c_api_Neighbour.val r12)]) (cd := c_api_Neighbour) (⟨[r12], rfl⟩ : Vec api_Neighbour 1) (owed := []) Ty77 (Filled.cons (cd := c_api_Neighbour) (q := r12) (o := 0) rfl (Upd.arr (i := 0) (by decide) (by decide)) Filled.nil) (fun b13 => ?_)
    refine OW.nil ?_
    refine OJ.appl (d := 17) (t := 68) (u := 68) (so := .tmp 13) (xo := .tmp 16) (j := 0) (b := b13) (l := (c_api_Neighbour.arr 1).enc (⟨[r12], rfl⟩ : Vec api_Neighbour 1)) (n := 1) (k := 1) [r12] (owed := []) Ty77 (by rfl) (Cod.arr_enc _ _ _) (by rfl) (fun r14 => ?_)
    refine OW.nil ?_
    refine OJ.go 1 [(3, Sl.v r14)] ?_
    refine OJ.nil ?_
    refine SJ.inBlock ?_
    refine SJ.rg 2 ?_
    refine OJ.go 2 [(9, .int .i64 (IntKind.wrap .i64 (s3 + 1))), (18, .int .i64 (IntKind.wrap .i64 (s3 + 1)))] ?_
    refine OJ.nil ?_
    refine SJ.forget (List.Sublist.cons _ List.Sublist.slnil) ?_
    exact SJ.at_ [3, 7, 8, 9] rfl
  · refine SJ.exit (id := 0) (by rfl) ?_
    refine SJ.sr 2 ?_
    refine OJ.go 2 [(2, Sl.v s2), (19, Sl.v s2)] ?_
    refine OJ.nil ?_
    exact SJ.ret rfl (Res.run (ys := [Sl.v s2]) (.tmp (by kernel_rfl) .nil) rfl)
noncomputable def neigh_Cache_All (a0 : (Option Addr)) : M Sl :=
  neigh_Cache_sorted a0 >>= fun r1 =>
  loopM (fun s_ : (Sl × Int) => neigh_Cache_All.L1 r1 s_.1 s_.2) (Sl.nil, 0)
theorem neigh_Cache_All_ok (a0 : (Option Addr)) : Ref Try.prog 27 [.pointer a0] (neigh_Cache_All a0) neigh_Cache_All.out := by
  refine Ref.of (cd := neigh_Cache_All.B) Try.func27 ?_
  show SJ neigh_Cache_All.cx [.code neigh_Cache_All.B] [(0, .pointer a0)] [] (neigh_Cache_All a0) neigh_Cache_All.F0
  unfold neigh_Cache_All
  refine SJ.sr 1 ?_
  refine OJ.go 1 [(2, Sl.v Sl.nil)] ?_
  refine OJ.nil ?_
  refine SJ.sr 1 ?_
  refine OJ.go 1 [(3, Sl.v Sl.nil)] ?_
  refine OJ.nil ?_
  refine SJ.seq ?_
  refine SJ.sr 4 ?_
  refine OJ.go 1 [(6, .pointer a0)] ?_
  refine OJ.call (d := 7) (g := 50) (ats := #[25]) (args := [.tmp 6]) (owed := []) F50 (neigh_Cache_sorted_ok a0) (fun r1 => ?_)
  refine OW.nil ?_
  refine OJ.go 2 [(9, .int .i64 0), (8, .int .i64 (r1.len : Int))] ?_
  refine OJ.nil ?_
  refine SJ.block (id := 0) ?_
  exact SJ.loop (fun s_ : (Sl × Int) => [(3, Sl.v s_.1), (7, Sl.v r1), (8, .int .i64 (r1.len : Int)), (9, .int .i64 s_.2)]) (fun s_ : (Sl × Int) => []) [3, 7, 8, 9] rfl (fun _ _ => rfl) (fun s_ => neigh_Cache_All.L1_ok r1 s_.1 s_.2)

/-! ### weir/weirref15.All: function 66 -/
noncomputable def weirref15_All.B : Code := (Try.f66.body).getD .skip
noncomputable def weirref15_All.cx : Fx := ⟨Try.prog, 66, Try.f66⟩
noncomputable def weirref15_All.out (r_ : Sl) : Value := Sl.v r_
noncomputable def weirref15_All.F0 (r_ : Sl) : Reach := .ret (weirref15_All.out r_)
noncomputable def weirref15_All.F1 (a0 : weirref15_Cache) (b1 : Nat) : (LS (Sl × Int) Sl) → Reach := loopF [.inLoop (c1 (c1 (c2 (c1 (c2 (c2 weirref15_All.B)))))), .inBlock 0, .code (c2 (c2 (c2 weirref15_All.B)))] (fun s_ : (Sl × Int) => [(1, .pointer (some (pt b1 0))), (3, Sl.v s_.1), (4, .int .i64 s_.2)]) (fun s_ : (Sl × Int) => [(b1, c_weirref15_Cache.enc a0)]) weirref15_All.F0
noncomputable def weirref15_All.L1 (a0 : weirref15_Cache) (s2 : Sl) (s3 : Int) : M (LS (Sl × Int) Sl) :=
  if s3 < (a0.L.len : Int) then
    idx a0.L.a a0.L.len s3 29 >>= fun p9 =>
    ld c_api_Neighbour p9 >>= fun x10 =>
    slot 77 >>= fun b11 =>
    appl c_api_Neighbour 77 72 z_api_Neighbour s2 [x10] >>= fun r12 =>
    pure (LS.next (r12, IntKind.wrap .i64 (s3 + 1)))
  else
    pure (LS.done s2)
theorem weirref15_All.L1_ok (a0 : weirref15_Cache) (b1 : Nat) (s2 : Sl) (s3 : Int) :
    SJ weirref15_All.cx [.code (c1 (c1 (c2 (c1 (c2 (c2 weirref15_All.B)))))), .inLoop (c1 (c1 (c2 (c1 (c2 (c2 weirref15_All.B)))))), .inBlock 0, .code (c2 (c2 (c2 weirref15_All.B)))] [(1, .pointer (some (pt b1 0))), (3, Sl.v s2), (4, .int .i64 s3)] [(b1, c_weirref15_Cache.enc a0)] (weirref15_All.L1 a0 s2 s3) (weirref15_All.F1 a0 b1) := by
  unfold weirref15_All.L1
  refine SJ.seq ?_
  refine SJ.sr 5 ?_
  refine OJ.go 2 [(6, .pointer (some (pt b1 5))), (5, .int .i64 s3)] ?_
  refine OJ.kld (d := 7) (y := .tmp 6) (cd := cL) (j := 0) (b := b1) (o := 5) a0.L (pend2 := []) Ty84 rfl (At_weirref15_Cache_L a0) rfl ?_
  refine OJ.go 2 [(9, .bool (decide (s3 < (a0.L.len : Int)))), (8, .int .i64 (a0.L.len : Int))] ?_
  refine OJ.nil ?_
  refine SJ.cond (t := (.tmp 9)) (b := decide (s3 < (a0.L.len : Int))) decide_eq_true_iff (fun hc13 => ?_) (fun hc13 => ?_)
  · refine SJ.skip ?_
    refine SJ.seq ?_
    refine SJ.block (id := 1) ?_
    refine SJ.rg 10 ?_
    refine OJ.go 2 [(13, .pointer (some (pt b1 5))), (12, Sl.v s2)] ?_
    refine OJ.kld (d := 14) (y := .tmp 13) (cd := cL) (j := 0) (b := b1) (o := 5) a0.L (pend2 := []) Ty84 rfl (At_weirref15_Cache_L a0) rfl ?_
    refine OJ.go 1 [(15, .int .i64 s3)] ?_
    refine OJ.idxS (d := 16) (T := 84) (y := .tmp 14) (j := .tmp 15) (E := 145) (cap := a0.L.cap) (k := .i64) (fun p9 => ?_)
    refine OJ.go 1 [(17, .pointer (some p9))] ?_
    refine OJ.ld (d := 18) (y := .tmp 17) (pend2 := fun x10 => []) Ty77 (fun _ => rfl) (fun x10 => ?_)
    refine OJ.rowSlot (d := 19) (t := 68) (parts := [(0, .tmp 18)]) (ps := [(0, c_api_Neighbour.val x10)]) (cd := c_api_Neighbour) (⟨[x10], rfl⟩ : Vec api_Neighbour 1) (owed := []) Ty77 (Filled.cons (cd := c_api_Neighbour) (q := x10) (o := 0) rfl (Upd.arr (i := 0) (by decide) (by decide)) Filled.nil) (fun b11 => ?_)
    refine OW.nil ?_
    refine OJ.appl (d := 20) (t := 68) (u := 68) (so := .tmp 12) (xo := .tmp 19) (j := 0) (b := b11) (l := (c_api_Neighbour.arr 1).enc (⟨[x10], rfl⟩ : Vec api_Neighbour 1)) (n := 1) (k := 1) [x10] (owed := []) Ty77 (by rfl) (Cod.arr_enc _ _ _) (by rfl) (fun r12 => ?_)
    refine OW.nil ?_
    refine OJ.go 1 [(3, Sl.v r12)] ?_
    refine OJ.nil ?_
    refine SJ.inBlock ?_
    refine SJ.rg 3 ?_
    refine OJ.go 3 [(4, .int .i64 (IntKind.wrap .i64 (s3 + 1))), (11, .int .i64 (IntKind.wrap .i64 (s3 + 1))), (10, .int .i64 s3)] ?_
    refine OJ.nil ?_
    refine SJ.forget (List.Sublist.cons _ (List.Sublist.cons_cons _ List.Sublist.slnil)) ?_
    exact SJ.at_ [1, 3, 4] rfl
  · refine SJ.exit (id := 0) (by rfl) ?_
    refine SJ.sr 2 ?_
    refine OJ.go 2 [(2, Sl.v s2), (21, Sl.v s2)] ?_
    refine OJ.nil ?_
    exact SJ.ret rfl (Res.run (ys := [Sl.v s2]) (.tmp (by kernel_rfl) .nil) rfl)
noncomputable def weirref15_All (a0 : weirref15_Cache) : M Sl :=
  slot 86 >>= fun b1 =>
  loopM (fun s_ : (Sl × Int) => weirref15_All.L1 a0 s_.1 s_.2) (Sl.nil, 0)
theorem weirref15_All_ok (a0 : weirref15_Cache) : Ref Try.prog 66 [c_weirref15_Cache.val a0] (weirref15_All a0) weirref15_All.out := by
  refine Ref.of (cd := weirref15_All.B) Try.func66 ?_
  show SJ weirref15_All.cx [.code weirref15_All.B] [(0, c_weirref15_Cache.val a0)] [] (weirref15_All a0) weirref15_All.F0
  unfold weirref15_All
  refine SJ.sr 2 ?_
  refine OJ.slotOf (d := 1) (op := (.box 86 (.tmp 0))) (cd := c_weirref15_Cache) (u := a0) (owed := []) (box_run (by kernel_rfl)) (fun b1 => ?_)
  refine OW.nil ?_
  refine OJ.go 1 [(2, Sl.v Sl.nil)] ?_
  refine OJ.nil ?_
  refine SJ.sr 1 ?_
  refine OJ.go 1 [(3, Sl.v Sl.nil)] ?_
  refine OJ.nil ?_
  refine SJ.seq ?_
  refine SJ.sr 1 ?_
  refine OJ.go 1 [(4, .int .i64 0)] ?_
  refine OJ.nil ?_
  refine SJ.block (id := 0) ?_
  exact SJ.loop (fun s_ : (Sl × Int) => [(1, .pointer (some (pt b1 0))), (3, Sl.v s_.1), (4, .int .i64 s_.2)]) (fun s_ : (Sl × Int) => [(b1, c_weirref15_Cache.enc a0)]) [1, 3, 4] rfl (fun _ _ => rfl) (fun s_ => weirref15_All.L1_ok a0 b1 s_.1 s_.2)

/-! ### weir/weirlaw15.sameAll: function 28 -/
noncomputable def weirlaw15_sameAll.B : Code := (Try.f28.body).getD .skip
noncomputable def weirlaw15_sameAll.cx : Fx := ⟨Try.prog, 28, Try.f28⟩
noncomputable def weirlaw15_sameAll.out (r_ : Bool) : Value := .bool r_
noncomputable def weirlaw15_sameAll.F0 (r_ : Bool) : Reach := .ret (weirlaw15_sameAll.out r_)
noncomputable def weirlaw15_sameAll.F1 (a0 : Sl) (a1 : Sl) : (LS Int Bool) → Reach := loopF [.inLoop (c1 (c1 (c2 (c1 (c2 (c2 weirlaw15_sameAll.B)))))), .inBlock 0, .code (c2 (c2 (c2 weirlaw15_sameAll.B)))] (fun s_ : Int => [(0, Sl.v a0), (1, Sl.v a1), (5, .int .i64 s_)]) (fun s_ : Int => []) weirlaw15_sameAll.F0
noncomputable def weirlaw15_sameAll.L1 (a0 : Sl) (a1 : Sl) (s1 : Int) : M (LS Int Bool) :=
  if s1 < (a0.len : Int) then
    draw >>= fun _ =>
    idx a0.a a0.len s1 28 >>= fun p8 =>
    ld c_api_Neighbour p8 >>= fun x9 =>
    idx a1.a a1.len s1 28 >>= fun p10 =>
    ld c_api_Neighbour p10 >>= fun x11 =>
    if ¬ (x9 = x11) then
      pure (LS.done false)
    else
      pure (LS.next (IntKind.wrap .i64 (s1 + 1)))
  else
    pure (LS.done true)
theorem weirlaw15_sameAll.L1_ok (a0 : Sl) (a1 : Sl) (s1 : Int) :
    SJ weirlaw15_sameAll.cx [.code (c1 (c1 (c2 (c1 (c2 (c2 weirlaw15_sameAll.B)))))), .inLoop (c1 (c1 (c2 (c1 (c2 (c2 weirlaw15_sameAll.B)))))), .inBlock 0, .code (c2 (c2 (c2 weirlaw15_sameAll.B)))] [(0, Sl.v a0), (1, Sl.v a1), (5, .int .i64 s1)] [] (weirlaw15_sameAll.L1 a0 a1 s1) (weirlaw15_sameAll.F1 a0 a1) := by
  unfold weirlaw15_sameAll.L1
  refine SJ.seq ?_
  refine SJ.sr 4 ?_
  refine OJ.go 4 [(14, .bool (decide (s1 < (a0.len : Int)))), (13, .int .i64 (a0.len : Int)), (12, Sl.v a0), (11, .int .i64 s1)] ?_
  refine OJ.nil ?_
  refine SJ.cond (t := (.tmp 14)) (b := decide (s1 < (a0.len : Int))) decide_eq_true_iff (fun hc13 => ?_) (fun hc13 => ?_)
  · refine SJ.skip ?_
    refine SJ.seq ?_
    refine SJ.block (id := 1) ?_
    refine SJ.seq ?_
    refine SJ.draw (id := 6) (kd := [0, 0, 0, 1, 0, 0, 0, 1, 0]) (bef := [0, 0, 3, 7, 0, 0, 48, 112, 255]) (ord := [0, 1, 2, 3, 4, 5, 6, 7, 8]) mixed ?_
    refine OJ.go 2 [(18, .int .i64 s1), (17, Sl.v a0)] ?_
    refine OJ.idxS (d := 19) (T := 68) (y := .tmp 17) (j := .tmp 18) (E := 77) (cap := a0.cap) (k := .i64) (fun p8 => ?_)
    refine OJ.ld (d := 20) (y := .tmp 19) (pend2 := fun x9 => [⟨3, 77, p8, c_api_Neighbour.val x9⟩]) Ty77 (fun _ => rfl) (fun x9 => ?_)
    refine OJ.go 2 [(22, .int .i64 s1), (21, Sl.v a1)] ?_
    refine OJ.idxS (d := 23) (T := 68) (y := .tmp 21) (j := .tmp 22) (E := 77) (cap := a1.cap) (k := .i64) (fun p10 => ?_)
    refine OJ.ld (d := 24) (y := .tmp 23) (pend2 := fun x11 => [⟨7, 77, p10, c_api_Neighbour.val x11⟩, ⟨3, 77, p8, c_api_Neighbour.val x9⟩]) Ty77 (fun _ => rfl) (fun x11 => ?_)
    refine OJ.neq (d := 25) (T := 77) (yT := 77) (y := .tmp 20) (z := .tmp 24) (cd := c_api_Neighbour) (p := x9) (q := x11) rfl Eq77 ?_
    refine OJ.nil ?_
    refine SJ.cond (t := (.tmp 25)) (b := (!eqv x9 x11)) (bnot_iff eqv_iff) (fun hc12 => ?_) (fun hc12 => ?_)
    · refine SJ.sr 1 ?_
      refine OJ.go 1 [(4, .bool false)] ?_
      refine OJ.nil ?_
      exact SJ.ret rfl (Res.run (ys := [.bool false]) (.tmp (by kernel_rfl) .nil) rfl)
    · refine SJ.skip ?_
      refine SJ.inBlock ?_
      refine SJ.rg 3 ?_
      refine OJ.go 3 [(5, .int .i64 (IntKind.wrap .i64 (s1 + 1))), (16, .int .i64 (IntKind.wrap .i64 (s1 + 1))), (15, .int .i64 s1)] ?_
      refine OJ.nil ?_
      exact SJ.at_ [0, 1, 5] rfl
  · refine SJ.exit (id := 0) (by rfl) ?_
    refine SJ.sr 1 ?_
    refine OJ.go 1 [(4, .bool true)] ?_
    refine OJ.nil ?_
    exact SJ.ret rfl (Res.run (ys := [.bool true]) (.tmp (by kernel_rfl) .nil) rfl)
noncomputable def weirlaw15_sameAll (a0 : Sl) (a1 : Sl) : M Bool :=
  if (a0.len : Int) ≠ (a1.len : Int) then
    pure false
  else
    loopM (fun s_ : Int => weirlaw15_sameAll.L1 a0 a1 s_) 0
theorem weirlaw15_sameAll_ok (a0 : Sl) (a1 : Sl) : Ref Try.prog 28 [Sl.v a0, Sl.v a1] (weirlaw15_sameAll a0 a1) weirlaw15_sameAll.out := by
  refine Ref.of (cd := weirlaw15_sameAll.B) Try.func28 ?_
  show SJ weirlaw15_sameAll.cx [.code weirlaw15_sameAll.B] [(0, Sl.v a0), (1, Sl.v a1)] [] (weirlaw15_sameAll a0 a1) weirlaw15_sameAll.F0
  unfold weirlaw15_sameAll
  refine SJ.sr 1 ?_
  refine OJ.go 1 [(4, .bool false)] ?_
  refine OJ.nil ?_
  refine SJ.seq ?_
  refine SJ.sr 5 ?_
  refine OJ.go 5 [(10, .bool ((a0.len : Int) != (a1.len : Int))), (9, .int .i64 (a1.len : Int)), (8, Sl.v a1), (7, .int .i64 (a0.len : Int)), (6, Sl.v a0)] ?_
  refine OJ.nil ?_
  refine SJ.cond (t := (.tmp 10)) (b := ((a0.len : Int) != (a1.len : Int))) bne_iff_ne (fun hc14 => ?_) (fun hc14 => ?_)
  · refine SJ.sr 1 ?_
    refine OJ.go 1 [(4, .bool false)] ?_
    refine OJ.nil ?_
    exact SJ.ret rfl (Res.run (ys := [.bool false]) (.tmp (by kernel_rfl) .nil) rfl)
  · refine SJ.skip ?_
    refine SJ.seq ?_
    refine SJ.sr 1 ?_
    refine OJ.go 1 [(5, .int .i64 0)] ?_
    refine OJ.nil ?_
    refine SJ.block (id := 0) ?_
    exact SJ.loop (fun s_ : Int => [(0, Sl.v a0), (1, Sl.v a1), (5, .int .i64 s_)]) (fun s_ : Int => []) [0, 1, 5] rfl (fun _ _ => rfl) (fun s_ => weirlaw15_sameAll.L1_ok a0 a1 s_)

/-! ### (*weir/neigh.Cache).Waiting: function 35 -/
noncomputable def neigh_Cache_Waiting.B : Code := (Try.f35.body).getD .skip
noncomputable def neigh_Cache_Waiting.cx : Fx := ⟨Try.prog, 35, Try.f35⟩
noncomputable def neigh_Cache_Waiting.out (r_ : Int) : Value := .int .i64 r_
noncomputable def neigh_Cache_Waiting.F0 (r_ : Int) : Reach := .ret (neigh_Cache_Waiting.out r_)
noncomputable def neigh_Cache_Waiting.F1 (b3 : Nat) : (LS Int Int) → Reach := loopF [.inLoop (c1 (c1 (c2 (c1 (c2 (c2 neigh_Cache_Waiting.B)))))), .inBlock 0, .code (c2 (c2 (c2 neigh_Cache_Waiting.B)))] (fun s_ : Int => [(3, .int .i64 s_), (10, .pointer (some (pt b3 0)))]) (fun s_ : Int => []) neigh_Cache_Waiting.F0
noncomputable def neigh_Cache_Waiting.L1 (b3 : Nat) (s4 : Int) : M (LS Int Int) :=
  mnext b3 >>= fun r10 =>
  if r10.1 = true then
    mentry c_neigh_key cP b3 >>= fun r11 =>
    nilck r11.2 >>= fun p12 =>
    ld cL (Addr.add p12 27) >>= fun x13 =>
    pure (LS.next (IntKind.wrap .i64 (s4 + (x13.len : Int))))
  else
    pure (LS.done s4)
theorem neigh_Cache_Waiting.L1_ok (b3 : Nat) (s4 : Int) :
    SJ neigh_Cache_Waiting.cx [.code (c1 (c1 (c2 (c1 (c2 (c2 neigh_Cache_Waiting.B)))))), .inLoop (c1 (c1 (c2 (c1 (c2 (c2 neigh_Cache_Waiting.B)))))), .inBlock 0, .code (c2 (c2 (c2 neigh_Cache_Waiting.B)))] [(3, .int .i64 s4), (10, .pointer (some (pt b3 0)))] [] (neigh_Cache_Waiting.L1 b3 s4) (neigh_Cache_Waiting.F1 b3) := by
  unfold neigh_Cache_Waiting.L1
  refine SJ.sr 2 ?_
  refine OJ.mnext (d := 11) (x := .tmp 10) (owed := []) (fun r10 => ?_)
  refine OW.nil ?_
  refine OJ.go 1 [(12, .bool r10.1)] ?_
  refine OJ.nil ?_
  refine SJ.seq ?_
  refine SJ.cond (t := (.tmp 12)) (b := r10.1) Iff.rfl (fun hc14 => ?_) (fun hc14 => ?_)
  · refine SJ.skip ?_
    refine SJ.block (id := 1) ?_
    refine SJ.sr 3 ?_
    refine OJ.mentry (d := 13) (x := .tmp 10) (owed := []) (fun r11 => ?_)
    refine OW.nil ?_
    refine OJ.go 2 [(5, .pointer r11.2), (14, .pointer r11.2)] ?_
    refine OJ.nil ?_
    refine SJ.rg 8 ?_
    refine OJ.go 2 [(16, .pointer r11.2), (15, .int .i64 s4)] ?_
    refine OJ.nilck (d := 17) (y := .tmp 16) (fun p12 => ?_)
    refine OJ.go 1 [(18, .pointer (some (Addr.add p12 27)))] ?_
    refine OJ.ld (d := 19) (y := .tmp 18) (pend2 := fun x13 => []) Ty43 (fun _ => rfl) (fun x13 => ?_)
    refine OJ.go 3 [(3, .int .i64 (IntKind.wrap .i64 (s4 + (x13.len : Int)))), (21, .int .i64 (IntKind.wrap .i64 (s4 + (x13.len : Int)))), (20, .int .i64 (x13.len : Int))] ?_
    refine OJ.nil ?_
    refine SJ.inBlock ?_
    exact SJ.at_ [3, 10] rfl
  · refine SJ.exit (id := 0) (by rfl) ?_
    refine SJ.sr 2 ?_
    refine OJ.go 2 [(2, .int .i64 s4), (22, .int .i64 s4)] ?_
    refine OJ.nil ?_
    exact SJ.ret rfl (Res.run (ys := [.int .i64 s4]) (.tmp (by kernel_rfl) .nil) rfl)
noncomputable def neigh_Cache_Waiting (a0 : (Option Addr)) : M Int :=
  nilck a0 >>= fun p1 =>
  ld cM (Addr.add p1 5) >>= fun x2 =>
  mrange x2 >>= fun b3 =>
  loopM (fun s_ : Int => neigh_Cache_Waiting.L1 b3 s_) 0
theorem neigh_Cache_Waiting_ok (a0 : (Option Addr)) : Ref Try.prog 35 [.pointer a0] (neigh_Cache_Waiting a0) neigh_Cache_Waiting.out := by
  refine Ref.of (cd := neigh_Cache_Waiting.B) Try.func35 ?_
  show SJ neigh_Cache_Waiting.cx [.code neigh_Cache_Waiting.B] [(0, .pointer a0)] [] (neigh_Cache_Waiting a0) neigh_Cache_Waiting.F0
  unfold neigh_Cache_Waiting
  refine SJ.sr 1 ?_
  refine OJ.go 1 [(2, .int .i64 0)] ?_
  refine OJ.nil ?_
  refine SJ.sr 1 ?_
  refine OJ.go 1 [(3, .int .i64 0)] ?_
  refine OJ.nil ?_
  refine SJ.seq ?_
  refine SJ.sr 5 ?_
  refine OJ.go 1 [(6, .pointer a0)] ?_
  refine OJ.nilck (d := 7) (y := .tmp 6) (fun p1 => ?_)
  refine OJ.go 1 [(8, .pointer (some (Addr.add p1 5)))] ?_
  refine OJ.ld (d := 9) (y := .tmp 8) (pend2 := fun x2 => []) Ty101 (fun _ => rfl) (fun x2 => ?_)
  refine OJ.mrange (d := 10) (T := 101) (kT := 99) (vT := 100) (x := .tmp 9) (owed := []) (fun b3 => ?_)
  refine OW.nil ?_
  refine OJ.nil ?_
  refine SJ.block (id := 0) ?_
  exact SJ.loop (fun s_ : Int => [(3, .int .i64 s_), (10, .pointer (some (pt b3 0)))]) (fun s_ : Int => []) [3, 10] rfl (fun _ _ => rfl) (fun s_ => neigh_Cache_Waiting.L1_ok b3 s_)

/-! ### weir/weirref15.Waiting: function 67 -/
noncomputable def weirref15_Waiting.B : Code := (Try.f67.body).getD .skip
noncomputable def weirref15_Waiting.cx : Fx := ⟨Try.prog, 67, Try.f67⟩
noncomputable def weirref15_Waiting.out (r_ : Int) : Value := .int .i64 r_
noncomputable def weirref15_Waiting.F0 (r_ : Int) : Reach := .ret (weirref15_Waiting.out r_)
noncomputable def weirref15_Waiting.F1 (a0 : weirref15_Cache) (b1 : Nat) : (LS (Int × Int) Int) → Reach := loopF [.inLoop (c1 (c1 (c2 (c1 (c2 (c2 weirref15_Waiting.B)))))), .inBlock 0, .code (c2 (c2 (c2 weirref15_Waiting.B)))] (fun s_ : (Int × Int) => [(1, .pointer (some (pt b1 0))), (3, .int .i64 s_.1), (4, .int .i64 s_.2)]) (fun s_ : (Int × Int) => [(b1, c_weirref15_Cache.enc a0)]) weirref15_Waiting.F0
noncomputable def weirref15_Waiting.L1 (a0 : weirref15_Cache) (s2 : Int) (s3 : Int) : M (LS (Int × Int) Int) :=
  if s3 < (a0.L.len : Int) then
    idx a0.L.a a0.L.len s3 29 >>= fun p7 =>
    ld cL (Addr.add p7 28) >>= fun x8 =>
    pure (LS.next (IntKind.wrap .i64 (s2 + (x8.len : Int)), IntKind.wrap .i64 (s3 + 1)))
  else
    pure (LS.done s2)
theorem weirref15_Waiting.L1_ok (a0 : weirref15_Cache) (b1 : Nat) (s2 : Int) (s3 : Int) :
    SJ weirref15_Waiting.cx [.code (c1 (c1 (c2 (c1 (c2 (c2 weirref15_Waiting.B)))))), .inLoop (c1 (c1 (c2 (c1 (c2 (c2 weirref15_Waiting.B)))))), .inBlock 0, .code (c2 (c2 (c2 weirref15_Waiting.B)))] [(1, .pointer (some (pt b1 0))), (3, .int .i64 s2), (4, .int .i64 s3)] [(b1, c_weirref15_Cache.enc a0)] (weirref15_Waiting.L1 a0 s2 s3) (weirref15_Waiting.F1 a0 b1) := by
  unfold weirref15_Waiting.L1
  refine SJ.seq ?_
  refine SJ.sr 5 ?_
  refine OJ.go 2 [(6, .pointer (some (pt b1 5))), (5, .int .i64 s3)] ?_
  refine OJ.kld (d := 7) (y := .tmp 6) (cd := cL) (j := 0) (b := b1) (o := 5) a0.L (pend2 := []) Ty84 rfl (At_weirref15_Cache_L a0) rfl ?_
  refine OJ.go 2 [(9, .bool (decide (s3 < (a0.L.len : Int)))), (8, .int .i64 (a0.L.len : Int))] ?_
  refine OJ.nil ?_
  refine SJ.cond (t := (.tmp 9)) (b := decide (s3 < (a0.L.len : Int))) decide_eq_true_iff (fun hc9 => ?_) (fun hc9 => ?_)
  · refine SJ.skip ?_
    refine SJ.seq ?_
    refine SJ.block (id := 1) ?_
    refine SJ.rg 10 ?_
    refine OJ.go 2 [(13, .pointer (some (pt b1 5))), (12, .int .i64 s2)] ?_
    refine OJ.kld (d := 14) (y := .tmp 13) (cd := cL) (j := 0) (b := b1) (o := 5) a0.L (pend2 := []) Ty84 rfl (At_weirref15_Cache_L a0) rfl ?_
    refine OJ.go 1 [(15, .int .i64 s3)] ?_
    refine OJ.idxS (d := 16) (T := 84) (y := .tmp 14) (j := .tmp 15) (E := 145) (cap := a0.L.cap) (k := .i64) (fun p7 => ?_)
    refine OJ.go 1 [(17, .pointer (some (Addr.add p7 28)))] ?_
    refine OJ.ld (d := 18) (y := .tmp 17) (pend2 := fun x8 => []) Ty43 (fun _ => rfl) (fun x8 => ?_)
    refine OJ.go 3 [(3, .int .i64 (IntKind.wrap .i64 (s2 + (x8.len : Int)))), (20, .int .i64 (IntKind.wrap .i64 (s2 + (x8.len : Int)))), (19, .int .i64 (x8.len : Int))] ?_
    refine OJ.nil ?_
    refine SJ.inBlock ?_
    refine SJ.rg 3 ?_
    refine OJ.go 3 [(4, .int .i64 (IntKind.wrap .i64 (s3 + 1))), (11, .int .i64 (IntKind.wrap .i64 (s3 + 1))), (10, .int .i64 s3)] ?_
    refine OJ.nil ?_
    exact SJ.at_ [1, 3, 4] rfl
  · refine SJ.exit (id := 0) (by rfl) ?_
    refine SJ.sr 2 ?_
    refine OJ.go 2 [(2, .int .i64 s2), (21, .int .i64 s2)] ?_
    refine OJ.nil ?_
    exact SJ.ret rfl (Res.run (ys := [.int .i64 s2]) (.tmp (by kernel_rfl) .nil) rfl)
noncomputable def weirref15_Waiting (a0 : weirref15_Cache) : M Int :=
  slot 86 >>= fun b1 =>
  loopM (fun s_ : (Int × Int) => weirref15_Waiting.L1 a0 s_.1 s_.2) (0, 0)
theorem weirref15_Waiting_ok (a0 : weirref15_Cache) : Ref Try.prog 67 [c_weirref15_Cache.val a0] (weirref15_Waiting a0) weirref15_Waiting.out := by
  refine Ref.of (cd := weirref15_Waiting.B) Try.func67 ?_
  show SJ weirref15_Waiting.cx [.code weirref15_Waiting.B] [(0, c_weirref15_Cache.val a0)] [] (weirref15_Waiting a0) weirref15_Waiting.F0
  unfold weirref15_Waiting
  refine SJ.sr 2 ?_
  refine OJ.slotOf (d := 1) (op := (.box 86 (.tmp 0))) (cd := c_weirref15_Cache) (u := a0) (owed := []) (box_run (by kernel_rfl)) (fun b1 => ?_)
  refine OW.nil ?_
  refine OJ.go 1 [(2, .int .i64 0)] ?_
  refine OJ.nil ?_
  refine SJ.sr 1 ?_
  refine OJ.go 1 [(3, .int .i64 0)] ?_
  refine OJ.nil ?_
  refine SJ.seq ?_
  refine SJ.sr 1 ?_
  refine OJ.go 1 [(4, .int .i64 0)] ?_
  refine OJ.nil ?_
  refine SJ.block (id := 0) ?_
  exact SJ.loop (fun s_ : (Int × Int) => [(1, .pointer (some (pt b1 0))), (3, .int .i64 s_.1), (4, .int .i64 s_.2)]) (fun s_ : (Int × Int) => [(b1, c_weirref15_Cache.enc a0)]) [1, 3, 4] rfl (fun _ _ => rfl) (fun s_ => weirref15_Waiting.L1_ok a0 b1 s_.1 s_.2)

/-! ### weir/weirlaw15.step: function 56 -/
noncomputable def weirlaw15_step.B : Code := (Try.f56.body).getD .skip
noncomputable def weirlaw15_step.cx : Fx := ⟨Try.prog, 56, Try.f56⟩
noncomputable def weirlaw15_step.out (r_ : (weirlaw15_Side × Bool)) : Value := .tuple #[c_weirlaw15_Side.val r_.1, .bool r_.2]
noncomputable def weirlaw15_step.F0 (r_ : (weirlaw15_Side × Bool)) : Reach := .ret (weirlaw15_step.out r_)
noncomputable def weirlaw15_step (a0 : weirlaw15_Side) (a1 : weirlaw15_Op) : M (weirlaw15_Side × Bool) :=
  slot 88 >>= fun b1 =>
  slot 36 >>= fun b2 =>
  slot 88 >>= fun b3 =>
  if a1.Kind = 1 then
    neigh_Cache_Want a0.C a1.Port a1.IP a1.N >>= fun r231 =>
    slot 34 >>= fun b232 =>
    weirref15_Want a0.R a1.Port a1.IP a1.N >>= fun r233 =>
    slot 86 >>= fun b234 =>
    slot 34 >>= fun b235 =>
    draw >>= fun _ =>
    (if r231.1 = r233.2.1 then
        pure (r231.2.1 == r233.2.2.1)
      else
        pure false) >>= fun y236 =>
    (if y236 = true then
        weirlaw15_num r231.2.2 >>= fun r237 =>
        pure (r237 == r233.2.2.2)
      else
        pure false) >>= fun y238 =>
    pure ((⟨a0.C, r233.1⟩ : weirlaw15_Side), y238)
  else
    if a1.Kind = 2 then
      neigh_Cache_Learn a0.C a1.Port a1.IP a1.Mac a1.N >>= fun r348 =>
      weirref15_Learn a0.R a1.Port a1.IP a1.Mac a1.N >>= fun r349 =>
      slot 86 >>= fun b350 =>
      draw >>= fun _ =>
      weirlaw15_sameInts r348.1 r349.2.1 >>= fun r351 =>
      (if r351 = true then
          weirlaw15_num r348.2 >>= fun r352 =>
          pure (r352 == r349.2.2)
        else
          pure false) >>= fun y353 =>
      pure ((⟨a0.C, r349.1⟩ : weirlaw15_Side), y353)
    else
      if a1.Kind = 3 then
        neigh_Cache_Tick a0.C >>= fun r405 =>
        weirref15_Tick a0.R >>= fun r406 =>
        slot 86 >>= fun b407 =>
        draw >>= fun _ =>
        weirlaw15_sameAsks r405.1 r406.2.1 >>= fun r408 =>
        (if r408 = true then
            weirlaw15_sameInts r405.2 r406.2.2 >>= fun r409 =>
            pure r409
          else
            pure false) >>= fun y410 =>
        pure ((⟨a0.C, r406.1⟩ : weirlaw15_Side), y410)
      else
        if a1.Kind = 4 then
          neigh_Cache_Get a0.C a1.Port a1.IP >>= fun r433 =>
          slot 77 >>= fun b434 =>
          weirref15_Get a0.R a1.Port a1.IP >>= fun r435 =>
          slot 77 >>= fun b436 =>
          draw >>= fun _ =>
          (if r433.1 = r435.1 then
              pure (r433.2 == r435.2)
            else
              pure false) >>= fun y437 =>
          pure (a0, y437)
        else
          if a1.Kind = 5 then
            draw >>= fun _ =>
            neigh_Cache_All a0.C >>= fun r446 =>
            weirref15_All a0.R >>= fun r447 =>
            weirlaw15_sameAll r446 r447 >>= fun r448 =>
            pure (a0, r448)
          else
            if a1.Kind = 6 then
              draw >>= fun _ =>
              neigh_Cache_Waiting a0.C >>= fun r451 =>
              weirref15_Waiting a0.R >>= fun r452 =>
              pure (a0, (r451 == r452))
            else
              pure (a0, true)
theorem weirlaw15_step_ok (a0 : weirlaw15_Side) (a1 : weirlaw15_Op) : Ref Try.prog 56 [c_weirlaw15_Side.val a0, c_weirlaw15_Op.val a1] (weirlaw15_step a0 a1) weirlaw15_step.out := by
  refine Ref.of (cd := weirlaw15_step.B) Try.func56 ?_
  show SJ weirlaw15_step.cx [.code weirlaw15_step.B] [(0, c_weirlaw15_Side.val a0), (1, c_weirlaw15_Op.val a1)] [] (weirlaw15_step a0 a1) weirlaw15_step.F0
  unfold weirlaw15_step
  refine SJ.sr 4 ?_
  refine OJ.slotOf (d := 2) (op := (.box 88 (.tmp 0))) (cd := c_weirlaw15_Side) (u := a0) (owed := []) (box_run (by kernel_rfl)) (fun b1 => ?_)
  refine OW.nil ?_
  refine OJ.slotOf (d := 3) (op := (.box 36 (.tmp 1))) (cd := c_weirlaw15_Op) (u := a1) (owed := []) (box_run (by kernel_rfl)) (fun b2 => ?_)
  refine OW.nil ?_
  refine OJ.slotOf (d := 4) (op := (.alloc 88)) (cd := c_weirlaw15_Side) (u := z_weirlaw15_Side) (owed := []) (alloc_run Ty88) (fun b3 => ?_)
  refine OW.nil ?_
  refine OJ.go 1 [(5, .bool false)] ?_
  refine OJ.nil ?_
  refine SJ.seq ?_
  refine SJ.sr 2 ?_
  refine OJ.go 1 [(27, .pointer (some (pt b2 0)))] ?_
  refine OJ.kld (d := 28) (y := .tmp 27) (cd := (cI .i64)) (j := 1) (b := b2) (o := 0) a1.Kind (pend2 := []) Ty3 rfl (At_weirlaw15_Op_Kind a1) rfl ?_
  refine OJ.nil ?_
  refine SJ.block (id := 0) ?_
  refine SJ.sr 2 ?_
  refine OJ.go 2 [(29, .bool (a1.Kind == 1)), (30, .bool (a1.Kind == 1))] ?_
  refine OJ.nil ?_
  refine SJ.cond (t := (.tmp 29)) (b := (a1.Kind == 1)) beq_iff_eq (fun hc458 => ?_) (fun hc458 => ?_)
  · refine SJ.sr 17 ?_
    refine OJ.go 1 [(32, .pointer (some (pt b1 0)))] ?_
    refine OJ.kld (d := 33) (y := .tmp 32) (cd := cP) (j := 2) (b := b1) (o := 0) a0.C (pend2 := []) Ty25 rfl (At_weirlaw15_Side_C a0) rfl ?_
    refine OJ.go 1 [(34, .pointer (some (pt b2 2)))] ?_
    refine OJ.kld (d := 35) (y := .tmp 34) (cd := (cI .i64)) (j := 1) (b := b2) (o := 2) a1.Port (pend2 := []) Ty3 rfl (At_weirlaw15_Op_Port a1) rfl ?_
    refine OJ.go 1 [(36, .pointer (some (pt b2 3)))] ?_
    refine OJ.kld (d := 37) (y := .tmp 36) (cd := c_api_IP) (j := 1) (b := b2) (o := 3) a1.IP (pend2 := []) Ty32 rfl (At_weirlaw15_Op_IP a1) rfl ?_
    refine OJ.go 1 [(38, .pointer (some (pt b2 26)))] ?_
    refine OJ.kld (d := 39) (y := .tmp 38) (cd := (cI .i64)) (j := 1) (b := b2) (o := 26) a1.N (pend2 := []) Ty3 rfl (At_weirlaw15_Op_N a1) rfl ?_
    refine OJ.call (d := 40) (g := 15) (ats := #[25, 3, 32, 3]) (args := [.tmp 33, .tmp 35, .tmp 37, .tmp 39]) (owed := []) F15 (neigh_Cache_Want_ok a0.C a1.Port a1.IP a1.N) (fun r231 => ?_)
    refine OW.nil ?_
    refine OJ.go 4 [(43, .int .i64 r231.2.2), (42, .int .i64 r231.2.1), (41, ((cI .u8).arr 6).val r231.1), (31, .tuple #[((cI .u8).arr 6).val r231.1, .int .i64 r231.2.1, .int .i64 r231.2.2])] ?_
    refine OJ.slotOf (d := 6) (op := (.alloc 34)) (cd := ((cI .u8).arr 6)) (u := (Vec.rep 6 0)) (owed := []) (alloc_run Ty34) (fun b232 => ?_)
    refine OW.nil ?_
    refine OJ.kst (y := .tmp 6) (z := .tmp 41) (cd := ((cI .u8).arr 6)) (u := r231.1) (j := 0) (b := b232) (o := 0) (((cI .u8).arr 6).enc r231.1) (owed := []) Ty34 rfl (Upd.whole ((Cod.len _ _).trans (Cod.len _ _).symm)) rfl ?_
    refine OW.nil ?_
    refine OJ.go 2 [(8, .int .i64 r231.2.2), (7, .int .i64 r231.2.1)] ?_
    refine OJ.nil ?_
    refine SJ.sr 20 ?_
    refine OJ.go 1 [(45, .pointer (some (pt b1 1)))] ?_
    refine OJ.kld (d := 46) (y := .tmp 45) (cd := c_weirref15_Cache) (j := 3) (b := b1) (o := 1) a0.R (pend2 := []) Ty86 rfl (At_weirlaw15_Side_R a0) rfl ?_
    refine OJ.go 1 [(47, .pointer (some (pt b2 2)))] ?_
    refine OJ.kld (d := 48) (y := .tmp 47) (cd := (cI .i64)) (j := 2) (b := b2) (o := 2) a1.Port (pend2 := []) Ty3 rfl (At_weirlaw15_Op_Port a1) rfl ?_
    refine OJ.go 1 [(49, .pointer (some (pt b2 3)))] ?_
    refine OJ.kld (d := 50) (y := .tmp 49) (cd := c_api_IP) (j := 2) (b := b2) (o := 3) a1.IP (pend2 := []) Ty32 rfl (At_weirlaw15_Op_IP a1) rfl ?_
    refine OJ.go 1 [(51, .pointer (some (pt b2 26)))] ?_
    refine OJ.kld (d := 52) (y := .tmp 51) (cd := (cI .i64)) (j := 2) (b := b2) (o := 26) a1.N (pend2 := []) Ty3 rfl (At_weirlaw15_Op_N a1) rfl ?_
    refine OJ.call (d := 53) (g := 62) (ats := #[86, 3, 32, 3]) (args := [.tmp 46, .tmp 48, .tmp 50, .tmp 52]) (owed := []) F62 (weirref15_Want_ok a0.R a1.Port a1.IP a1.N) (fun r233 => ?_)
    refine OW.nil ?_
    refine OJ.go 5 [(57, .int .i64 r233.2.2.2), (56, .int .i64 r233.2.2.1), (55, ((cI .u8).arr 6).val r233.2.1), (54, c_weirref15_Cache.val r233.1), (44, .tuple #[c_weirref15_Cache.val r233.1, ((cI .u8).arr 6).val r233.2.1, .int .i64 r233.2.2.1, .int .i64 r233.2.2.2])] ?_
    refine OJ.slotOf (d := 9) (op := (.alloc 86)) (cd := c_weirref15_Cache) (u := z_weirref15_Cache) (owed := []) (alloc_run Ty86) (fun b234 => ?_)
    refine OW.nil ?_
    refine OJ.slotOf (d := 10) (op := (.alloc 34)) (cd := ((cI .u8).arr 6)) (u := (Vec.rep 6 0)) (owed := []) (alloc_run Ty34) (fun b235 => ?_)
    refine OW.nil ?_
    refine OJ.kst (y := .tmp 9) (z := .tmp 54) (cd := c_weirref15_Cache) (u := r233.1) (j := 1) (b := b234) (o := 0) (c_weirref15_Cache.enc r233.1) (owed := []) Ty86 rfl (Upd.whole ((Cod.len _ _).trans (Cod.len _ _).symm)) rfl ?_
    refine OW.nil ?_
    refine OJ.kst (y := .tmp 10) (z := .tmp 55) (cd := ((cI .u8).arr 6)) (u := r233.2.1) (j := 0) (b := b235) (o := 0) (((cI .u8).arr 6).enc r233.2.1) (owed := []) Ty34 rfl (Upd.whole ((Cod.len _ _).trans (Cod.len _ _).symm)) rfl ?_
    refine OW.nil ?_
    refine OJ.go 2 [(12, .int .i64 r233.2.2.2), (11, .int .i64 r233.2.2.1)] ?_
    refine OJ.nil ?_
    refine SJ.sr 3 ?_
    refine OJ.kld (d := 58) (y := .tmp 9) (cd := c_weirref15_Cache) (j := 1) (b := b234) (o := 0) r233.1 (pend2 := []) Ty86 rfl (At.whole _) rfl ?_
    refine OJ.go 1 [(59, .pointer (some (pt b1 1)))] ?_
    refine OJ.kst (y := .tmp 59) (z := .tmp 58) (cd := c_weirref15_Cache) (u := r233.1) (j := 5) (b := b1) (o := 1) (c_weirlaw15_Side.enc (⟨a0.C, r233.1⟩ : weirlaw15_Side)) (owed := []) Ty86 rfl (Up_weirlaw15_Side_R a0 r233.1) rfl ?_
    refine OW.nil ?_
    refine OJ.nil ?_
    refine SJ.seq ?_
    refine SJ.draw (id := 6) (kd := [1, 1, 1, 0, 0, 0, 0, 0, 0, 0, 0, 2, 0, 0, 0, 2, 0]) (bef := [0, 0, 0, 6, 14, 30, 30, 126, 254, 510, 1022, 2046, 1022, 8190, 16382, 4095, 65535]) (ord := [0, 1, 2, 3, 4, 5, 6, 7, 8, 9, 10, 11, 12, 13, 14, 15, 16]) mixed ?_
    refine OJ.kld (d := 60) (y := .tmp 2) (cd := c_weirlaw15_Side) (j := 5) (b := b1) (o := 0) (⟨a0.C, r233.1⟩ : weirlaw15_Side) (pend2 := [⟨0, 88, (pt b1 0), c_weirlaw15_Side.val (⟨a0.C, r233.1⟩ : weirlaw15_Side)⟩]) Ty88 rfl (At.whole _) rfl ?_
    refine OJ.kld (d := 61) (y := .tmp 6) (cd := ((cI .u8).arr 6)) (j := 2) (b := b232) (o := 0) r231.1 (pend2 := [⟨1, 34, (pt b232 0), ((cI .u8).arr 6).val r231.1⟩, ⟨0, 88, (pt b1 0), c_weirlaw15_Side.val (⟨a0.C, r233.1⟩ : weirlaw15_Side)⟩]) Ty34 rfl (At.whole _) rfl ?_
    refine OJ.kld (d := 62) (y := .tmp 10) (cd := ((cI .u8).arr 6)) (j := 0) (b := b235) (o := 0) r233.2.1 (pend2 := [⟨2, 34, (pt b235 0), ((cI .u8).arr 6).val r233.2.1⟩, ⟨1, 34, (pt b232 0), ((cI .u8).arr 6).val r231.1⟩, ⟨0, 88, (pt b1 0), c_weirlaw15_Side.val (⟨a0.C, r233.1⟩ : weirlaw15_Side)⟩]) Ty34 rfl (At.whole _) rfl ?_
    refine OJ.eql (d := 63) (T := 34) (yT := 34) (y := .tmp 61) (z := .tmp 62) (cd := ((cI .u8).arr 6)) (p := r231.1) (q := r233.2.1) rfl Eq34 ?_
    refine OJ.go 1 [(64, .bool (eqv r231.1 r233.2.1))] ?_
    refine OJ.join (b := (eqv r231.1 r233.2.1)) [5, 6, 7, 8] [9, 10, 11, 12, 13, 14, 15, 16] [4, 8, 12, 60, 68] (fun y236 => [(4, .pointer (some (pt b3 0))), (8, .int .i64 r231.2.2), (12, .int .i64 r233.2.2.2), (60, c_weirlaw15_Side.val (⟨a0.C, r233.1⟩ : weirlaw15_Side)), (68, .bool y236)]) [⟨2, 34, (pt b235 0), ((cI .u8).arr 6).val r233.2.1⟩, ⟨1, 34, (pt b232 0), ((cI .u8).arr 6).val r231.1⟩, ⟨0, 88, (pt b1 0), c_weirlaw15_Side.val (⟨a0.C, r233.1⟩ : weirlaw15_Side)⟩] [] (t := 64) eqv_iff (fun hp_ => ?_) (fun hp_ => ?_) (fun _ _ _ _ _ _ h_ => h_) (fun y236 => ?_)
    · refine OJ.go 4 [(68, .bool (r231.2.1 == r233.2.2.1)), (67, .bool (r231.2.1 == r233.2.2.1)), (66, .int .i64 r233.2.2.1), (65, .int .i64 r231.2.1)] ?_
      exact OJ.nil ⟨(Cov.mem (Cov.keep (List.mem_of_getElem? (i := 0) rfl) (Cov.keep (List.mem_of_getElem? (i := 1) rfl) (Cov.keep (List.mem_of_getElem? (i := 2) rfl) Cov.nil)))), rfl, _, rfl, by kernel_rfl⟩
    · refine OJ.go 4 [(68, .bool false), (67, undef), (66, undef), (65, undef)] ?_
      exact OJ.nil ⟨(Cov.mem (Cov.keep (List.mem_of_getElem? (i := 0) rfl) (Cov.keep (List.mem_of_getElem? (i := 1) rfl) (Cov.keep (List.mem_of_getElem? (i := 2) rfl) Cov.nil)))), rfl, _, rfl, by kernel_rfl⟩
    · refine OJ.go 1 [(69, .bool y236)] ?_
      refine OJ.join (b := y236) [10, 11, 12, 13, 14] [15, 16] [4, 60, 74] (fun y238 => [(4, .pointer (some (pt b3 0))), (60, c_weirlaw15_Side.val (⟨a0.C, r233.1⟩ : weirlaw15_Side)), (74, .bool y238)]) [⟨2, 34, (pt b235 0), ((cI .u8).arr 6).val r233.2.1⟩, ⟨1, 34, (pt b232 0), ((cI .u8).arr 6).val r231.1⟩, ⟨0, 88, (pt b1 0), c_weirlaw15_Side.val (⟨a0.C, r233.1⟩ : weirlaw15_Side)⟩] [] (t := 69) Iff.rfl (fun hp_ => ?_) (fun hp_ => ?_) (fun _ _ _ _ _ _ h_ => h_) (fun y238 => ?_)
      · refine OJ.go 1 [(70, .int .i64 r231.2.2)] ?_
        refine OJ.call (d := 71) (g := 16) (ats := #[37]) (args := [.tmp 70]) (owed := [⟨0, 88, (pt b1 0), c_weirlaw15_Side.val (⟨a0.C, r233.1⟩ : weirlaw15_Side)⟩]) F16 (weirlaw15_num_ok r231.2.2) (fun r237 => ?_)
        refine OW.known (j := 5) (q := (⟨a0.C, r233.1⟩ : weirlaw15_Side)) Ty88 rfl (At.whole _) ?_
        refine OW.nil ?_
        refine OJ.go 3 [(74, .bool (r237 == r233.2.2.2)), (73, .bool (r237 == r233.2.2.2)), (72, .int .i64 r233.2.2.2)] ?_
        exact OJ.nil ⟨(Cov.mem (Cov.keep (List.mem_of_getElem? (i := 0) rfl) (Cov.keep (List.mem_of_getElem? (i := 1) rfl) (Cov.keep (List.mem_of_getElem? (i := 2) rfl) Cov.nil)))), rfl, _, rfl, by kernel_rfl⟩
      · refine OJ.go 5 [(74, .bool false), (73, undef), (72, undef), (71, undef), (70, undef)] ?_
        exact OJ.nil ⟨(Cov.mem (Cov.keep (List.mem_of_getElem? (i := 0) rfl) (Cov.keep (List.mem_of_getElem? (i := 1) rfl) (Cov.keep (List.mem_of_getElem? (i := 2) rfl) Cov.nil)))), rfl, _, rfl, by kernel_rfl⟩
      · refine OJ.kst (y := .tmp 4) (z := .tmp 60) (cd := c_weirlaw15_Side) (u := (⟨a0.C, r233.1⟩ : weirlaw15_Side)) (j := 3) (b := b3) (o := 0) (c_weirlaw15_Side.enc (⟨a0.C, r233.1⟩ : weirlaw15_Side)) (owed := []) Ty88 rfl (Upd.whole ((Cod.len _ _).trans (Cod.len _ _).symm)) rfl ?_
        refine OW.nil ?_
        refine OJ.go 1 [(5, .bool y238)] ?_
        refine OJ.nil ?_
        exact SJ.ret rfl (Res.run (ys := [c_weirlaw15_Side.val (⟨a0.C, r233.1⟩ : weirlaw15_Side), .bool y238]) (.cell (j := 3) (b := b3) (cd := c_weirlaw15_Side) (q := (⟨a0.C, r233.1⟩ : weirlaw15_Side)) (by kernel_rfl) rfl Ty88 (At.whole _) (.tmp (by kernel_rfl) .nil)) rfl)
  · refine SJ.sr 2 ?_
    refine OJ.go 2 [(75, .bool (a1.Kind == 2)), (76, .bool (a1.Kind == 2))] ?_
    refine OJ.nil ?_
    refine SJ.cond (t := (.tmp 75)) (b := (a1.Kind == 2)) beq_iff_eq (fun hc457 => ?_) (fun hc457 => ?_)
    · refine SJ.sr 16 ?_
      refine OJ.go 1 [(78, .pointer (some (pt b1 0)))] ?_
      refine OJ.kld (d := 79) (y := .tmp 78) (cd := cP) (j := 2) (b := b1) (o := 0) a0.C (pend2 := []) Ty25 rfl (At_weirlaw15_Side_C a0) rfl ?_
      refine OJ.go 1 [(80, .pointer (some (pt b2 2)))] ?_
      refine OJ.kld (d := 81) (y := .tmp 80) (cd := (cI .i64)) (j := 1) (b := b2) (o := 2) a1.Port (pend2 := []) Ty3 rfl (At_weirlaw15_Op_Port a1) rfl ?_
      refine OJ.go 1 [(82, .pointer (some (pt b2 3)))] ?_
      refine OJ.kld (d := 83) (y := .tmp 82) (cd := c_api_IP) (j := 1) (b := b2) (o := 3) a1.IP (pend2 := []) Ty32 rfl (At_weirlaw15_Op_IP a1) rfl ?_
      refine OJ.go 1 [(84, .pointer (some (pt b2 20)))] ?_
      refine OJ.kld (d := 85) (y := .tmp 84) (cd := ((cI .u8).arr 6)) (j := 1) (b := b2) (o := 20) a1.Mac (pend2 := []) Ty34 rfl (At_weirlaw15_Op_Mac a1) rfl ?_
      refine OJ.go 1 [(86, .pointer (some (pt b2 26)))] ?_
      refine OJ.kld (d := 87) (y := .tmp 86) (cd := (cI .i64)) (j := 1) (b := b2) (o := 26) a1.N (pend2 := []) Ty3 rfl (At_weirlaw15_Op_N a1) rfl ?_
      refine OJ.call (d := 88) (g := 18) (ats := #[25, 3, 32, 34, 3]) (args := [.tmp 79, .tmp 81, .tmp 83, .tmp 85, .tmp 87]) (owed := []) F18 (neigh_Cache_Learn_ok a0.C a1.Port a1.IP a1.Mac a1.N) (fun r348 => ?_)
      refine OW.nil ?_
      refine OJ.go 5 [(14, .int .i64 r348.2), (13, Sl.v r348.1), (90, .int .i64 r348.2), (89, Sl.v r348.1), (77, .tuple #[Sl.v r348.1, .int .i64 r348.2])] ?_
      refine OJ.nil ?_
      refine SJ.sr 19 ?_
      refine OJ.go 1 [(92, .pointer (some (pt b1 1)))] ?_
      refine OJ.kld (d := 93) (y := .tmp 92) (cd := c_weirref15_Cache) (j := 2) (b := b1) (o := 1) a0.R (pend2 := []) Ty86 rfl (At_weirlaw15_Side_R a0) rfl ?_
      refine OJ.go 1 [(94, .pointer (some (pt b2 2)))] ?_
      refine OJ.kld (d := 95) (y := .tmp 94) (cd := (cI .i64)) (j := 1) (b := b2) (o := 2) a1.Port (pend2 := []) Ty3 rfl (At_weirlaw15_Op_Port a1) rfl ?_
      refine OJ.go 1 [(96, .pointer (some (pt b2 3)))] ?_
      refine OJ.kld (d := 97) (y := .tmp 96) (cd := c_api_IP) (j := 1) (b := b2) (o := 3) a1.IP (pend2 := []) Ty32 rfl (At_weirlaw15_Op_IP a1) rfl ?_
      refine OJ.go 1 [(98, .pointer (some (pt b2 20)))] ?_
      refine OJ.kld (d := 99) (y := .tmp 98) (cd := ((cI .u8).arr 6)) (j := 1) (b := b2) (o := 20) a1.Mac (pend2 := []) Ty34 rfl (At_weirlaw15_Op_Mac a1) rfl ?_
      refine OJ.go 1 [(100, .pointer (some (pt b2 26)))] ?_
      refine OJ.kld (d := 101) (y := .tmp 100) (cd := (cI .i64)) (j := 1) (b := b2) (o := 26) a1.N (pend2 := []) Ty3 rfl (At_weirlaw15_Op_N a1) rfl ?_
      refine OJ.call (d := 102) (g := 63) (ats := #[86, 3, 32, 34, 3]) (args := [.tmp 93, .tmp 95, .tmp 97, .tmp 99, .tmp 101]) (owed := []) F63 (weirref15_Learn_ok a0.R a1.Port a1.IP a1.Mac a1.N) (fun r349 => ?_)
      refine OW.nil ?_
      refine OJ.go 4 [(105, .int .i64 r349.2.2), (104, Sl.v r349.2.1), (103, c_weirref15_Cache.val r349.1), (91, .tuple #[c_weirref15_Cache.val r349.1, Sl.v r349.2.1, .int .i64 r349.2.2])] ?_
      refine OJ.slotOf (d := 15) (op := (.alloc 86)) (cd := c_weirref15_Cache) (u := z_weirref15_Cache) (owed := []) (alloc_run Ty86) (fun b350 => ?_)
      refine OW.nil ?_
      refine OJ.kst (y := .tmp 15) (z := .tmp 103) (cd := c_weirref15_Cache) (u := r349.1) (j := 0) (b := b350) (o := 0) (c_weirref15_Cache.enc r349.1) (owed := []) Ty86 rfl (Upd.whole ((Cod.len _ _).trans (Cod.len _ _).symm)) rfl ?_
      refine OW.nil ?_
      refine OJ.go 2 [(17, .int .i64 r349.2.2), (16, Sl.v r349.2.1)] ?_
      refine OJ.nil ?_
      refine SJ.sr 3 ?_
      refine OJ.kld (d := 106) (y := .tmp 15) (cd := c_weirref15_Cache) (j := 0) (b := b350) (o := 0) r349.1 (pend2 := []) Ty86 rfl (At.whole _) rfl ?_
      refine OJ.go 1 [(107, .pointer (some (pt b1 1)))] ?_
      refine OJ.kst (y := .tmp 107) (z := .tmp 106) (cd := c_weirref15_Cache) (u := r349.1) (j := 3) (b := b1) (o := 1) (c_weirlaw15_Side.enc (⟨a0.C, r349.1⟩ : weirlaw15_Side)) (owed := []) Ty86 rfl (Up_weirlaw15_Side_R a0 r349.1) rfl ?_
      refine OW.nil ?_
      refine OJ.nil ?_
      refine SJ.seq ?_
      refine SJ.draw (id := 11) (kd := [1, 0, 0, 2, 0, 0, 2, 0, 0, 0, 2, 0]) (bef := [0, 0, 0, 6, 14, 30, 62, 30, 254, 510, 127, 2047]) (ord := [0, 1, 2, 3, 4, 5, 6, 7, 8, 9, 10, 11]) mixed ?_
      refine OJ.kld (d := 108) (y := .tmp 2) (cd := c_weirlaw15_Side) (j := 3) (b := b1) (o := 0) (⟨a0.C, r349.1⟩ : weirlaw15_Side) (pend2 := [⟨0, 88, (pt b1 0), c_weirlaw15_Side.val (⟨a0.C, r349.1⟩ : weirlaw15_Side)⟩]) Ty88 rfl (At.whole _) rfl ?_
      refine OJ.go 2 [(110, Sl.v r349.2.1), (109, Sl.v r348.1)] ?_
      refine OJ.call (d := 111) (g := 23) (ats := #[43, 43]) (args := [.tmp 109, .tmp 110]) (owed := [⟨0, 88, (pt b1 0), c_weirlaw15_Side.val (⟨a0.C, r349.1⟩ : weirlaw15_Side)⟩]) F23 (weirlaw15_sameInts_ok r348.1 r349.2.1) (fun r351 => ?_)
      refine OW.known (j := 3) (q := (⟨a0.C, r349.1⟩ : weirlaw15_Side)) Ty88 rfl (At.whole _) ?_
      refine OW.nil ?_
      refine OJ.go 1 [(112, .bool r351)] ?_
      refine OJ.join (b := r351) [5, 6, 7, 8, 9] [10, 11] [4, 108, 117] (fun y353 => [(4, .pointer (some (pt b3 0))), (108, c_weirlaw15_Side.val (⟨a0.C, r349.1⟩ : weirlaw15_Side)), (117, .bool y353)]) [⟨0, 88, (pt b1 0), c_weirlaw15_Side.val (⟨a0.C, r349.1⟩ : weirlaw15_Side)⟩] [] (t := 112) Iff.rfl (fun hp_ => ?_) (fun hp_ => ?_) (fun _ _ _ _ _ _ h_ => h_) (fun y353 => ?_)
      · refine OJ.go 1 [(113, .int .i64 r348.2)] ?_
        refine OJ.call (d := 114) (g := 16) (ats := #[37]) (args := [.tmp 113]) (owed := [⟨0, 88, (pt b1 0), c_weirlaw15_Side.val (⟨a0.C, r349.1⟩ : weirlaw15_Side)⟩]) F16 (weirlaw15_num_ok r348.2) (fun r352 => ?_)
        refine OW.known (j := 3) (q := (⟨a0.C, r349.1⟩ : weirlaw15_Side)) Ty88 rfl (At.whole _) ?_
        refine OW.nil ?_
        refine OJ.go 3 [(117, .bool (r352 == r349.2.2)), (116, .bool (r352 == r349.2.2)), (115, .int .i64 r349.2.2)] ?_
        exact OJ.nil ⟨(Cov.mem (Cov.keep (List.mem_of_getElem? (i := 0) rfl) Cov.nil)), rfl, _, rfl, by kernel_rfl⟩
      · refine OJ.go 5 [(117, .bool false), (116, undef), (115, undef), (114, undef), (113, undef)] ?_
        exact OJ.nil ⟨(Cov.mem (Cov.keep (List.mem_of_getElem? (i := 0) rfl) Cov.nil)), rfl, _, rfl, by kernel_rfl⟩
      · refine OJ.kst (y := .tmp 4) (z := .tmp 108) (cd := c_weirlaw15_Side) (u := (⟨a0.C, r349.1⟩ : weirlaw15_Side)) (j := 1) (b := b3) (o := 0) (c_weirlaw15_Side.enc (⟨a0.C, r349.1⟩ : weirlaw15_Side)) (owed := []) Ty88 rfl (Upd.whole ((Cod.len _ _).trans (Cod.len _ _).symm)) rfl ?_
        refine OW.nil ?_
        refine OJ.go 1 [(5, .bool y353)] ?_
        refine OJ.nil ?_
        exact SJ.ret rfl (Res.run (ys := [c_weirlaw15_Side.val (⟨a0.C, r349.1⟩ : weirlaw15_Side), .bool y353]) (.cell (j := 1) (b := b3) (cd := c_weirlaw15_Side) (q := (⟨a0.C, r349.1⟩ : weirlaw15_Side)) (by kernel_rfl) rfl Ty88 (At.whole _) (.tmp (by kernel_rfl) .nil)) rfl)
    · refine SJ.sr 2 ?_
      refine OJ.go 2 [(118, .bool (a1.Kind == 3)), (119, .bool (a1.Kind == 3))] ?_
      refine OJ.nil ?_
      refine SJ.cond (t := (.tmp 118)) (b := (a1.Kind == 3)) beq_iff_eq (fun hc456 => ?_) (fun hc456 => ?_)
      · refine SJ.sr 8 ?_
        refine OJ.go 1 [(121, .pointer (some (pt b1 0)))] ?_
        refine OJ.kld (d := 122) (y := .tmp 121) (cd := cP) (j := 2) (b := b1) (o := 0) a0.C (pend2 := []) Ty25 rfl (At_weirlaw15_Side_C a0) rfl ?_
        refine OJ.call (d := 123) (g := 21) (ats := #[25]) (args := [.tmp 122]) (owed := []) F21 (neigh_Cache_Tick_ok a0.C) (fun r405 => ?_)
        refine OW.nil ?_
        refine OJ.go 5 [(19, Sl.v r405.2), (18, Sl.v r405.1), (125, Sl.v r405.2), (124, Sl.v r405.1), (120, .tuple #[Sl.v r405.1, Sl.v r405.2])] ?_
        refine OJ.nil ?_
        refine SJ.sr 11 ?_
        refine OJ.go 1 [(127, .pointer (some (pt b1 1)))] ?_
        refine OJ.kld (d := 128) (y := .tmp 127) (cd := c_weirref15_Cache) (j := 2) (b := b1) (o := 1) a0.R (pend2 := []) Ty86 rfl (At_weirlaw15_Side_R a0) rfl ?_
        refine OJ.call (d := 129) (g := 64) (ats := #[86]) (args := [.tmp 128]) (owed := []) F64 (weirref15_Tick_ok a0.R) (fun r406 => ?_)
        refine OW.nil ?_
        refine OJ.go 4 [(132, Sl.v r406.2.2), (131, Sl.v r406.2.1), (130, c_weirref15_Cache.val r406.1), (126, .tuple #[c_weirref15_Cache.val r406.1, Sl.v r406.2.1, Sl.v r406.2.2])] ?_
        refine OJ.slotOf (d := 20) (op := (.alloc 86)) (cd := c_weirref15_Cache) (u := z_weirref15_Cache) (owed := []) (alloc_run Ty86) (fun b407 => ?_)
        refine OW.nil ?_
        refine OJ.kst (y := .tmp 20) (z := .tmp 130) (cd := c_weirref15_Cache) (u := r406.1) (j := 0) (b := b407) (o := 0) (c_weirref15_Cache.enc r406.1) (owed := []) Ty86 rfl (Upd.whole ((Cod.len _ _).trans (Cod.len _ _).symm)) rfl ?_
        refine OW.nil ?_
        refine OJ.go 2 [(22, Sl.v r406.2.2), (21, Sl.v r406.2.1)] ?_
        refine OJ.nil ?_
        refine SJ.sr 3 ?_
        refine OJ.kld (d := 133) (y := .tmp 20) (cd := c_weirref15_Cache) (j := 0) (b := b407) (o := 0) r406.1 (pend2 := []) Ty86 rfl (At.whole _) rfl ?_
        refine OJ.go 1 [(134, .pointer (some (pt b1 1)))] ?_
        refine OJ.kst (y := .tmp 134) (z := .tmp 133) (cd := c_weirref15_Cache) (u := r406.1) (j := 3) (b := b1) (o := 1) (c_weirlaw15_Side.enc (⟨a0.C, r406.1⟩ : weirlaw15_Side)) (owed := []) Ty86 rfl (Up_weirlaw15_Side_R a0 r406.1) rfl ?_
        refine OW.nil ?_
        refine OJ.nil ?_
        refine SJ.seq ?_
        refine SJ.draw (id := 16) (kd := [1, 0, 0, 2, 0, 0, 0, 2, 0, 2, 0]) (bef := [0, 0, 0, 6, 14, 30, 30, 126, 254, 255, 1023]) (ord := [0, 1, 2, 3, 4, 5, 6, 7, 8, 9, 10]) mixed ?_
        refine OJ.kld (d := 135) (y := .tmp 2) (cd := c_weirlaw15_Side) (j := 3) (b := b1) (o := 0) (⟨a0.C, r406.1⟩ : weirlaw15_Side) (pend2 := [⟨0, 88, (pt b1 0), c_weirlaw15_Side.val (⟨a0.C, r406.1⟩ : weirlaw15_Side)⟩]) Ty88 rfl (At.whole _) rfl ?_
        refine OJ.go 2 [(137, Sl.v r406.2.1), (136, Sl.v r405.1)] ?_
        refine OJ.call (d := 138) (g := 25) (ats := #[50, 50]) (args := [.tmp 136, .tmp 137]) (owed := [⟨0, 88, (pt b1 0), c_weirlaw15_Side.val (⟨a0.C, r406.1⟩ : weirlaw15_Side)⟩]) F25 (weirlaw15_sameAsks_ok r405.1 r406.2.1) (fun r408 => ?_)
        refine OW.known (j := 3) (q := (⟨a0.C, r406.1⟩ : weirlaw15_Side)) Ty88 rfl (At.whole _) ?_
        refine OW.nil ?_
        refine OJ.go 1 [(139, .bool r408)] ?_
        refine OJ.join (b := r408) [5, 6, 7, 8] [9, 10] [4, 135, 143] (fun y410 => [(4, .pointer (some (pt b3 0))), (135, c_weirlaw15_Side.val (⟨a0.C, r406.1⟩ : weirlaw15_Side)), (143, .bool y410)]) [⟨0, 88, (pt b1 0), c_weirlaw15_Side.val (⟨a0.C, r406.1⟩ : weirlaw15_Side)⟩] [] (t := 139) Iff.rfl (fun hp_ => ?_) (fun hp_ => ?_) (fun _ _ _ _ _ _ h_ => h_) (fun y410 => ?_)
        · refine OJ.go 2 [(141, Sl.v r406.2.2), (140, Sl.v r405.2)] ?_
          refine OJ.call (d := 142) (g := 23) (ats := #[43, 43]) (args := [.tmp 140, .tmp 141]) (owed := [⟨0, 88, (pt b1 0), c_weirlaw15_Side.val (⟨a0.C, r406.1⟩ : weirlaw15_Side)⟩]) F23 (weirlaw15_sameInts_ok r405.2 r406.2.2) (fun r409 => ?_)
          refine OW.known (j := 3) (q := (⟨a0.C, r406.1⟩ : weirlaw15_Side)) Ty88 rfl (At.whole _) ?_
          refine OW.nil ?_
          refine OJ.go 1 [(143, .bool r409)] ?_
          exact OJ.nil ⟨(Cov.mem (Cov.keep (List.mem_of_getElem? (i := 0) rfl) Cov.nil)), rfl, _, rfl, by kernel_rfl⟩
        · refine OJ.go 4 [(143, .bool false), (142, undef), (141, undef), (140, undef)] ?_
          exact OJ.nil ⟨(Cov.mem (Cov.keep (List.mem_of_getElem? (i := 0) rfl) Cov.nil)), rfl, _, rfl, by kernel_rfl⟩
        · refine OJ.kst (y := .tmp 4) (z := .tmp 135) (cd := c_weirlaw15_Side) (u := (⟨a0.C, r406.1⟩ : weirlaw15_Side)) (j := 1) (b := b3) (o := 0) (c_weirlaw15_Side.enc (⟨a0.C, r406.1⟩ : weirlaw15_Side)) (owed := []) Ty88 rfl (Upd.whole ((Cod.len _ _).trans (Cod.len _ _).symm)) rfl ?_
          refine OW.nil ?_
          refine OJ.go 1 [(5, .bool y410)] ?_
          refine OJ.nil ?_
          exact SJ.ret rfl (Res.run (ys := [c_weirlaw15_Side.val (⟨a0.C, r406.1⟩ : weirlaw15_Side), .bool y410]) (.cell (j := 1) (b := b3) (cd := c_weirlaw15_Side) (q := (⟨a0.C, r406.1⟩ : weirlaw15_Side)) (by kernel_rfl) rfl Ty88 (At.whole _) (.tmp (by kernel_rfl) .nil)) rfl)
      · refine SJ.sr 2 ?_
        refine OJ.go 2 [(144, .bool (a1.Kind == 4)), (145, .bool (a1.Kind == 4))] ?_
        refine OJ.nil ?_
        refine SJ.cond (t := (.tmp 144)) (b := (a1.Kind == 4)) beq_iff_eq (fun hc455 => ?_) (fun hc455 => ?_)
        · refine SJ.sr 13 ?_
          refine OJ.go 1 [(147, .pointer (some (pt b1 0)))] ?_
          refine OJ.kld (d := 148) (y := .tmp 147) (cd := cP) (j := 2) (b := b1) (o := 0) a0.C (pend2 := []) Ty25 rfl (At_weirlaw15_Side_C a0) rfl ?_
          refine OJ.go 1 [(149, .pointer (some (pt b2 2)))] ?_
          refine OJ.kld (d := 150) (y := .tmp 149) (cd := (cI .i64)) (j := 1) (b := b2) (o := 2) a1.Port (pend2 := []) Ty3 rfl (At_weirlaw15_Op_Port a1) rfl ?_
          refine OJ.go 1 [(151, .pointer (some (pt b2 3)))] ?_
          refine OJ.kld (d := 152) (y := .tmp 151) (cd := c_api_IP) (j := 1) (b := b2) (o := 3) a1.IP (pend2 := []) Ty32 rfl (At_weirlaw15_Op_IP a1) rfl ?_
          refine OJ.call (d := 153) (g := 43) (ats := #[25, 3, 32]) (args := [.tmp 148, .tmp 150, .tmp 152]) (owed := []) F43 (neigh_Cache_Get_ok a0.C a1.Port a1.IP) (fun r433 => ?_)
          refine OW.nil ?_
          refine OJ.go 3 [(155, .bool r433.2), (154, c_api_Neighbour.val r433.1), (146, .tuple #[c_api_Neighbour.val r433.1, .bool r433.2])] ?_
          refine OJ.slotOf (d := 23) (op := (.alloc 77)) (cd := c_api_Neighbour) (u := z_api_Neighbour) (owed := []) (alloc_run Ty77) (fun b434 => ?_)
          refine OW.nil ?_
          refine OJ.kst (y := .tmp 23) (z := .tmp 154) (cd := c_api_Neighbour) (u := r433.1) (j := 0) (b := b434) (o := 0) (c_api_Neighbour.enc r433.1) (owed := []) Ty77 rfl (Upd.whole ((Cod.len _ _).trans (Cod.len _ _).symm)) rfl ?_
          refine OW.nil ?_
          refine OJ.go 1 [(24, .bool r433.2)] ?_
          refine OJ.nil ?_
          refine SJ.sr 13 ?_
          refine OJ.go 1 [(157, .pointer (some (pt b1 1)))] ?_
          refine OJ.kld (d := 158) (y := .tmp 157) (cd := c_weirref15_Cache) (j := 3) (b := b1) (o := 1) a0.R (pend2 := []) Ty86 rfl (At_weirlaw15_Side_R a0) rfl ?_
          refine OJ.go 1 [(159, .pointer (some (pt b2 2)))] ?_
          refine OJ.kld (d := 160) (y := .tmp 159) (cd := (cI .i64)) (j := 2) (b := b2) (o := 2) a1.Port (pend2 := []) Ty3 rfl (At_weirlaw15_Op_Port a1) rfl ?_
          refine OJ.go 1 [(161, .pointer (some (pt b2 3)))] ?_
          refine OJ.kld (d := 162) (y := .tmp 161) (cd := c_api_IP) (j := 2) (b := b2) (o := 3) a1.IP (pend2 := []) Ty32 rfl (At_weirlaw15_Op_IP a1) rfl ?_
          refine OJ.call (d := 163) (g := 65) (ats := #[86, 3, 32]) (args := [.tmp 158, .tmp 160, .tmp 162]) (owed := []) F65 (weirref15_Get_ok a0.R a1.Port a1.IP) (fun r435 => ?_)
          refine OW.nil ?_
          refine OJ.go 3 [(165, .bool r435.2), (164, c_api_Neighbour.val r435.1), (156, .tuple #[c_api_Neighbour.val r435.1, .bool r435.2])] ?_
          refine OJ.slotOf (d := 25) (op := (.alloc 77)) (cd := c_api_Neighbour) (u := z_api_Neighbour) (owed := []) (alloc_run Ty77) (fun b436 => ?_)
          refine OW.nil ?_
          refine OJ.kst (y := .tmp 25) (z := .tmp 164) (cd := c_api_Neighbour) (u := r435.1) (j := 0) (b := b436) (o := 0) (c_api_Neighbour.enc r435.1) (owed := []) Ty77 rfl (Upd.whole ((Cod.len _ _).trans (Cod.len _ _).symm)) rfl ?_
          refine OW.nil ?_
          refine OJ.go 1 [(26, .bool r435.2)] ?_
          refine OJ.nil ?_
          refine SJ.seq ?_
          refine SJ.draw (id := 20) (kd := [1, 1, 1, 0, 0, 0, 0, 0, 0, 2, 0]) (bef := [0, 0, 0, 6, 14, 30, 30, 126, 254, 31, 1023]) (ord := [0, 1, 2, 3, 4, 5, 6, 7, 8, 9, 10]) mixed ?_
          refine OJ.kld (d := 166) (y := .tmp 2) (cd := c_weirlaw15_Side) (j := 4) (b := b1) (o := 0) a0 (pend2 := [⟨0, 88, (pt b1 0), c_weirlaw15_Side.val a0⟩]) Ty88 rfl (At.whole _) rfl ?_
          refine OJ.kld (d := 167) (y := .tmp 23) (cd := c_api_Neighbour) (j := 1) (b := b434) (o := 0) r433.1 (pend2 := [⟨1, 77, (pt b434 0), c_api_Neighbour.val r433.1⟩, ⟨0, 88, (pt b1 0), c_weirlaw15_Side.val a0⟩]) Ty77 rfl (At.whole _) rfl ?_
          refine OJ.kld (d := 168) (y := .tmp 25) (cd := c_api_Neighbour) (j := 0) (b := b436) (o := 0) r435.1 (pend2 := [⟨2, 77, (pt b436 0), c_api_Neighbour.val r435.1⟩, ⟨1, 77, (pt b434 0), c_api_Neighbour.val r433.1⟩, ⟨0, 88, (pt b1 0), c_weirlaw15_Side.val a0⟩]) Ty77 rfl (At.whole _) rfl ?_
          refine OJ.eql (d := 169) (T := 77) (yT := 77) (y := .tmp 167) (z := .tmp 168) (cd := c_api_Neighbour) (p := r433.1) (q := r435.1) rfl Eq77 ?_
          refine OJ.go 1 [(170, .bool (eqv r433.1 r435.1))] ?_
          refine OJ.join (b := (eqv r433.1 r435.1)) [5, 6, 7, 8] [9, 10] [4, 166, 174] (fun y437 => [(4, .pointer (some (pt b3 0))), (166, c_weirlaw15_Side.val a0), (174, .bool y437)]) [⟨2, 77, (pt b436 0), c_api_Neighbour.val r435.1⟩, ⟨1, 77, (pt b434 0), c_api_Neighbour.val r433.1⟩, ⟨0, 88, (pt b1 0), c_weirlaw15_Side.val a0⟩] [] (t := 170) eqv_iff (fun hp_ => ?_) (fun hp_ => ?_) (fun _ _ _ _ _ _ h_ => h_) (fun y437 => ?_)
          · refine OJ.go 4 [(174, .bool (r433.2 == r435.2)), (173, .bool (r433.2 == r435.2)), (172, .bool r435.2), (171, .bool r433.2)] ?_
            exact OJ.nil ⟨(Cov.mem (Cov.keep (List.mem_of_getElem? (i := 0) rfl) (Cov.keep (List.mem_of_getElem? (i := 1) rfl) (Cov.keep (List.mem_of_getElem? (i := 2) rfl) Cov.nil)))), rfl, _, rfl, by kernel_rfl⟩
          · refine OJ.go 4 [(174, .bool false), (173, undef), (172, undef), (171, undef)] ?_
            exact OJ.nil ⟨(Cov.mem (Cov.keep (List.mem_of_getElem? (i := 0) rfl) (Cov.keep (List.mem_of_getElem? (i := 1) rfl) (Cov.keep (List.mem_of_getElem? (i := 2) rfl) Cov.nil)))), rfl, _, rfl, by kernel_rfl⟩
          · refine OJ.kst (y := .tmp 4) (z := .tmp 166) (cd := c_weirlaw15_Side) (u := a0) (j := 2) (b := b3) (o := 0) (c_weirlaw15_Side.enc a0) (owed := []) Ty88 rfl (Upd.whole ((Cod.len _ _).trans (Cod.len _ _).symm)) rfl ?_
            refine OW.nil ?_
            refine OJ.go 1 [(5, .bool y437)] ?_
            refine OJ.nil ?_
            exact SJ.ret rfl (Res.run (ys := [c_weirlaw15_Side.val a0, .bool y437]) (.cell (j := 2) (b := b3) (cd := c_weirlaw15_Side) (q := a0) (by kernel_rfl) rfl Ty88 (At.whole _) (.tmp (by kernel_rfl) .nil)) rfl)
        · refine SJ.sr 2 ?_
          refine OJ.go 2 [(175, .bool (a1.Kind == 5)), (176, .bool (a1.Kind == 5))] ?_
          refine OJ.nil ?_
          refine SJ.cond (t := (.tmp 175)) (b := (a1.Kind == 5)) beq_iff_eq (fun hc454 => ?_) (fun hc454 => ?_)
          · refine SJ.seq ?_
            refine SJ.draw (id := 22) (kd := [1, 0, 1, 2, 0, 1, 2, 2, 2, 0]) (bef := [0, 0, 2, 6, 0, 16, 62, 126, 255, 511]) (ord := [0, 1, 2, 4, 5, 3, 6, 7, 8, 9]) mixed ?_
            refine OJ.kld (d := 177) (y := .tmp 2) (cd := c_weirlaw15_Side) (j := 2) (b := b1) (o := 0) a0 (pend2 := [⟨0, 88, (pt b1 0), c_weirlaw15_Side.val a0⟩]) Ty88 rfl (At.whole _) rfl ?_
            refine OJ.go 1 [(178, .pointer (some (pt b1 0)))] ?_
            refine OJ.kld (d := 179) (y := .tmp 178) (cd := cP) (j := 2) (b := b1) (o := 0) a0.C (pend2 := [⟨2, 25, (pt b1 0), cP.val a0.C⟩, ⟨0, 88, (pt b1 0), c_weirlaw15_Side.val a0⟩]) Ty25 rfl (At_weirlaw15_Side_C a0) rfl ?_
            refine OJ.go 1 [(181, .pointer (some (pt b1 1)))] ?_
            refine OJ.kld (d := 182) (y := .tmp 181) (cd := c_weirref15_Cache) (j := 2) (b := b1) (o := 1) a0.R (pend2 := [⟨5, 86, (pt b1 1), c_weirref15_Cache.val a0.R⟩, ⟨2, 25, (pt b1 0), cP.val a0.C⟩, ⟨0, 88, (pt b1 0), c_weirlaw15_Side.val a0⟩]) Ty86 rfl (At_weirlaw15_Side_R a0) rfl ?_
            refine OJ.call (d := 180) (g := 27) (ats := #[25]) (args := [.tmp 179]) (owed := [⟨5, 86, (pt b1 1), c_weirref15_Cache.val a0.R⟩, ⟨0, 88, (pt b1 0), c_weirlaw15_Side.val a0⟩]) F27 (neigh_Cache_All_ok a0.C) (fun r446 => ?_)
            refine OW.known (j := 2) (q := a0.R) Ty86 rfl (At_weirlaw15_Side_R a0) ?_
            refine OW.known (j := 2) (q := a0) Ty88 rfl (At.whole _) ?_
            refine OW.nil ?_
            refine OJ.call (d := 183) (g := 66) (ats := #[86]) (args := [.tmp 182]) (owed := [⟨0, 88, (pt b1 0), c_weirlaw15_Side.val a0⟩]) F66 (weirref15_All_ok a0.R) (fun r447 => ?_)
            refine OW.known (j := 2) (q := a0) Ty88 rfl (At.whole _) ?_
            refine OW.nil ?_
            refine OJ.call (d := 184) (g := 28) (ats := #[68, 68]) (args := [.tmp 180, .tmp 183]) (owed := [⟨0, 88, (pt b1 0), c_weirlaw15_Side.val a0⟩]) F28 (weirlaw15_sameAll_ok r446 r447) (fun r448 => ?_)
            refine OW.known (j := 2) (q := a0) Ty88 rfl (At.whole _) ?_
            refine OW.nil ?_
            refine OJ.kst (y := .tmp 4) (z := .tmp 177) (cd := c_weirlaw15_Side) (u := a0) (j := 0) (b := b3) (o := 0) (c_weirlaw15_Side.enc a0) (owed := []) Ty88 rfl (Upd.whole ((Cod.len _ _).trans (Cod.len _ _).symm)) rfl ?_
            refine OW.nil ?_
            refine OJ.go 1 [(5, .bool r448)] ?_
            refine OJ.nil ?_
            exact SJ.ret rfl (Res.run (ys := [c_weirlaw15_Side.val a0, .bool r448]) (.cell (j := 0) (b := b3) (cd := c_weirlaw15_Side) (q := a0) (by kernel_rfl) rfl Ty88 (At.whole _) (.tmp (by kernel_rfl) .nil)) rfl)
          · refine SJ.sr 2 ?_
            refine OJ.go 2 [(185, .bool (a1.Kind == 6)), (186, .bool (a1.Kind == 6))] ?_
            refine OJ.nil ?_
            refine SJ.cond (t := (.tmp 185)) (b := (a1.Kind == 6)) beq_iff_eq (fun hc453 => ?_) (fun hc453 => ?_)
            · refine SJ.seq ?_
              refine SJ.draw (id := 24) (kd := [1, 0, 1, 2, 0, 1, 2, 0, 2, 0]) (bef := [0, 0, 2, 6, 0, 16, 62, 126, 127, 511]) (ord := [0, 1, 2, 4, 5, 3, 6, 7, 8, 9]) mixed ?_
              refine OJ.kld (d := 187) (y := .tmp 2) (cd := c_weirlaw15_Side) (j := 2) (b := b1) (o := 0) a0 (pend2 := [⟨0, 88, (pt b1 0), c_weirlaw15_Side.val a0⟩]) Ty88 rfl (At.whole _) rfl ?_
              refine OJ.go 1 [(188, .pointer (some (pt b1 0)))] ?_
              refine OJ.kld (d := 189) (y := .tmp 188) (cd := cP) (j := 2) (b := b1) (o := 0) a0.C (pend2 := [⟨2, 25, (pt b1 0), cP.val a0.C⟩, ⟨0, 88, (pt b1 0), c_weirlaw15_Side.val a0⟩]) Ty25 rfl (At_weirlaw15_Side_C a0) rfl ?_
              refine OJ.go 1 [(191, .pointer (some (pt b1 1)))] ?_
              refine OJ.kld (d := 192) (y := .tmp 191) (cd := c_weirref15_Cache) (j := 2) (b := b1) (o := 1) a0.R (pend2 := [⟨5, 86, (pt b1 1), c_weirref15_Cache.val a0.R⟩, ⟨2, 25, (pt b1 0), cP.val a0.C⟩, ⟨0, 88, (pt b1 0), c_weirlaw15_Side.val a0⟩]) Ty86 rfl (At_weirlaw15_Side_R a0) rfl ?_
              refine OJ.call (d := 190) (g := 35) (ats := #[25]) (args := [.tmp 189]) (owed := [⟨5, 86, (pt b1 1), c_weirref15_Cache.val a0.R⟩, ⟨0, 88, (pt b1 0), c_weirlaw15_Side.val a0⟩]) F35 (neigh_Cache_Waiting_ok a0.C) (fun r451 => ?_)
              refine OW.known (j := 2) (q := a0.R) Ty86 rfl (At_weirlaw15_Side_R a0) ?_
              refine OW.known (j := 2) (q := a0) Ty88 rfl (At.whole _) ?_
              refine OW.nil ?_
              refine OJ.call (d := 193) (g := 67) (ats := #[86]) (args := [.tmp 192]) (owed := [⟨0, 88, (pt b1 0), c_weirlaw15_Side.val a0⟩]) F67 (weirref15_Waiting_ok a0.R) (fun r452 => ?_)
              refine OW.known (j := 2) (q := a0) Ty88 rfl (At.whole _) ?_
              refine OW.nil ?_
              refine OJ.go 1 [(194, .bool (r451 == r452))] ?_
              refine OJ.kst (y := .tmp 4) (z := .tmp 187) (cd := c_weirlaw15_Side) (u := a0) (j := 0) (b := b3) (o := 0) (c_weirlaw15_Side.enc a0) (owed := []) Ty88 rfl (Upd.whole ((Cod.len _ _).trans (Cod.len _ _).symm)) rfl ?_
              refine OW.nil ?_
              refine OJ.go 1 [(5, .bool (r451 == r452))] ?_
              refine OJ.nil ?_
              exact SJ.ret rfl (Res.run (ys := [c_weirlaw15_Side.val a0, .bool (r451 == r452)]) (.cell (j := 0) (b := b3) (cd := c_weirlaw15_Side) (q := a0) (by kernel_rfl) rfl Ty88 (At.whole _) (.tmp (by kernel_rfl) .nil)) rfl)
            · refine SJ.skip ?_
              refine SJ.inBlock ?_
              refine SJ.sr 3 ?_
              refine OJ.kld (d := 195) (y := .tmp 2) (cd := c_weirlaw15_Side) (j := 2) (b := b1) (o := 0) a0 (pend2 := []) Ty88 rfl (At.whole _) rfl ?_
              refine OJ.kst (y := .tmp 4) (z := .tmp 195) (cd := c_weirlaw15_Side) (u := a0) (j := 0) (b := b3) (o := 0) (c_weirlaw15_Side.enc a0) (owed := []) Ty88 rfl (Upd.whole ((Cod.len _ _).trans (Cod.len _ _).symm)) rfl ?_
              refine OW.nil ?_
              refine OJ.go 1 [(5, .bool true)] ?_
              refine OJ.nil ?_
              exact SJ.ret rfl (Res.run (ys := [c_weirlaw15_Side.val a0, .bool true]) (.cell (j := 0) (b := b3) (cd := c_weirlaw15_Side) (q := a0) (by kernel_rfl) rfl Ty88 (At.whole _) (.tmp (by kernel_rfl) .nil)) rfl)

/-! ### weir/weirlaw15.started: function 41 -/
noncomputable def weirlaw15_started.B : Code := (Try.f41.body).getD .skip
noncomputable def weirlaw15_started.cx : Fx := ⟨Try.prog, 41, Try.f41⟩
noncomputable def weirlaw15_started.out (r_ : Bool) : Value := .bool r_
noncomputable def weirlaw15_started.F0 (r_ : Bool) : Reach := .ret (weirlaw15_started.out r_)
noncomputable def weirlaw15_started.K1 (s26 : Bool) (s28 : weirlaw15_Side) : M Bool :=
  (if s26 = true then
      pure (!(Option.isNone s28.C))
    else
      pure false) >>= fun y34 =>
  (if y34 = true then
      pure ((s28.R.L.len : Int) == 1)
    else
      pure false) >>= fun y35 =>
  pure y35
theorem weirlaw15_started.K1_ok (b2 : Nat) (s26 : Bool) (s28 : weirlaw15_Side) :
    SJ weirlaw15_started.cx [.code (c2 (c2 (c2 (c2 (c2 weirlaw15_started.B)))))] [(1, .pointer (some (pt b2 0))), (2, .bool s26)] [(b2, c_weirlaw15_Side.enc s28)] (weirlaw15_started.K1 s26 s28) weirlaw15_started.F0 := by
  unfold weirlaw15_started.K1
  refine SJ.sr 14 ?_
  refine OJ.go 2 [(40, .bool s26), (39, .bool s26)] ?_
  refine OJ.join (b := s26) [2, 3, 4, 5] [6, 7, 8, 9, 10, 11, 12, 13] [1, 44] (fun y34 => [(1, .pointer (some (pt b2 0))), (44, .bool y34)]) [] [] (t := 40) Iff.rfl (fun hp_ => ?_) (fun hp_ => ?_) (fun _ _ _ _ _ _ h_ => h_) (fun y34 => ?_)
  · refine OJ.go 1 [(41, .pointer (some (pt b2 0)))] ?_
    refine OJ.kld (d := 42) (y := .tmp 41) (cd := cP) (j := 0) (b := b2) (o := 0) s28.C (pend2 := []) Ty25 rfl (At_weirlaw15_Side_C s28) rfl ?_
    refine OJ.go 2 [(44, .bool (!(Option.isNone s28.C))), (43, .bool (!(Option.isNone s28.C)))] ?_
    exact OJ.nil ⟨(Cov.mem Cov.nil), rfl, _, rfl, by kernel_rfl⟩
  · refine OJ.go 4 [(44, .bool false), (43, undef), (42, undef), (41, undef)] ?_
    exact OJ.nil ⟨(Cov.mem Cov.nil), rfl, _, rfl, by kernel_rfl⟩
  · refine OJ.go 1 [(45, .bool y34)] ?_
    refine OJ.join (b := y34) [7, 8, 9, 10, 11, 12] [13] [51] (fun y35 => [(51, .bool y35)]) [] [] (t := 45) Iff.rfl (fun hp_ => ?_) (fun hp_ => ?_) (fun _ _ _ _ _ _ h_ => h_) (fun y35 => ?_)
    · refine OJ.go 2 [(47, .pointer (some (pt b2 6))), (46, .pointer (some (pt b2 1)))] ?_
      refine OJ.kld (d := 48) (y := .tmp 47) (cd := cL) (j := 0) (b := b2) (o := 6) s28.R.L (pend2 := []) Ty84 rfl (At.trans (At_weirlaw15_Side_R s28) (At_weirref15_Cache_L s28.R)) rfl ?_
      refine OJ.go 3 [(51, .bool ((s28.R.L.len : Int) == 1)), (50, .bool ((s28.R.L.len : Int) == 1)), (49, .int .i64 (s28.R.L.len : Int))] ?_
      exact OJ.nil ⟨(Cov.mem Cov.nil), rfl, _, rfl, by kernel_rfl⟩
    · refine OJ.go 6 [(51, .bool false), (50, undef), (49, undef), (48, undef), (47, undef), (46, undef)] ?_
      exact OJ.nil ⟨(Cov.mem Cov.nil), rfl, _, rfl, by kernel_rfl⟩
    · refine OJ.go 1 [(0, .bool y35)] ?_
      refine OJ.nil ?_
      exact SJ.ret rfl (Res.run (ys := [.bool y35]) (.tmp (by kernel_rfl) .nil) rfl)
noncomputable def weirlaw15_started.F1 (b2 : Nat) (b24 : Nat) (j25 : (Vec weirlaw15_Op 7)) : (LS (Bool × Int × weirlaw15_Side) Bool) → Reach := loopF [.inLoop (c1 (c1 (c2 (c1 (c2 (c2 (c2 (c2 weirlaw15_started.B)))))))), .inBlock 0, .code (c2 (c2 (c2 (c2 (c2 weirlaw15_started.B)))))] (fun s_ : (Bool × Int × weirlaw15_Side) => [(1, .pointer (some (pt b2 0))), (2, .bool s_.1), (4, .pointer (some (pt b24 0))), (5, .int .i64 s_.2.1)]) (fun s_ : (Bool × Int × weirlaw15_Side) => [(b24, (c_weirlaw15_Op.arr 7).enc j25), (b2, c_weirlaw15_Side.enc s_.2.2)]) weirlaw15_started.F0
noncomputable def weirlaw15_started.L1 (j25 : (Vec weirlaw15_Op 7)) (s26 : Bool) (s27 : Int) (s28 : weirlaw15_Side) : M (LS (Bool × Int × weirlaw15_Side) Bool) :=
  (if s27 < 7 then
      pure s26
    else
      pure false) >>= fun y36 =>
  if y36 = true then
    draw >>= fun _ =>
    chk (0 ≤ s27 ∧ s27 < (7 : Nat)) >>= fun _ =>
    weirlaw15_step s28 (Vec.g j25 s27 z_weirlaw15_Op) >>= fun r39 =>
    pure (LS.next (r39.2, IntKind.wrap .i64 (s27 + 1), r39.1))
  else
    (weirlaw15_started.K1 s26 s28) >>= fun b => pure (LS.done b)
theorem weirlaw15_started.L1_ok (b2 : Nat) (b24 : Nat) (j25 : (Vec weirlaw15_Op 7)) (s26 : Bool) (s27 : Int) (s28 : weirlaw15_Side) :
    SJ weirlaw15_started.cx [.code (c1 (c1 (c2 (c1 (c2 (c2 (c2 (c2 weirlaw15_started.B)))))))), .inLoop (c1 (c1 (c2 (c1 (c2 (c2 (c2 (c2 weirlaw15_started.B)))))))), .inBlock 0, .code (c2 (c2 (c2 (c2 (c2 weirlaw15_started.B)))))] [(1, .pointer (some (pt b2 0))), (2, .bool s26), (4, .pointer (some (pt b24 0))), (5, .int .i64 s27)] [(b24, (c_weirlaw15_Op.arr 7).enc j25), (b2, c_weirlaw15_Side.enc s28)] (weirlaw15_started.L1 j25 s26 s27 s28) (weirlaw15_started.F1 b2 b24 j25) := by
  unfold weirlaw15_started.L1
  refine SJ.seq ?_
  refine SJ.sr 5 ?_
  refine OJ.go 3 [(26, .bool (decide (s27 < 7))), (25, .bool (decide (s27 < 7))), (24, .int .i64 s27)] ?_
  refine OJ.join (b := decide (s27 < 7)) [3, 4] [] [1, 2, 4, 5, 28] (fun y36 => [(1, .pointer (some (pt b2 0))), (2, .bool s26), (4, .pointer (some (pt b24 0))), (5, .int .i64 s27), (28, .bool y36)]) [] [] (t := 26) decide_eq_true_iff (fun hp_ => ?_) (fun hp_ => ?_) (fun _ _ _ _ _ _ h_ => h_) (fun y36 => ?_)
  · refine OJ.go 2 [(28, .bool s26), (27, .bool s26)] ?_
    exact OJ.nil ⟨(Cov.mem Cov.nil), rfl, _, rfl, by kernel_rfl⟩
  · refine OJ.go 2 [(28, .bool false), (27, undef)] ?_
    exact OJ.nil ⟨(Cov.mem Cov.nil), rfl, _, rfl, by kernel_rfl⟩
  · refine OJ.nil ?_
    refine SJ.cond (t := (.tmp 28)) (b := y36) Iff.rfl (fun hc40 => ?_) (fun hc40 => ?_)
    · refine SJ.skip ?_
      refine SJ.seq ?_
      refine SJ.block (id := 1) ?_
      refine SJ.draw (id := 7) (kd := [1, 0, 0, 1, 2, 0, 0, 0, 2, 0]) (bef := [0, 0, 2, 6, 15, 31, 63, 63, 127, 511]) (ord := [0, 1, 2, 3, 4, 5, 6, 7, 8, 9]) mixed ?_
      refine OJ.kld (d := 32) (y := .tmp 1) (cd := c_weirlaw15_Side) (j := 1) (b := b2) (o := 0) s28 (pend2 := [⟨0, 88, (pt b2 0), c_weirlaw15_Side.val s28⟩]) Ty88 rfl (At.whole _) rfl ?_
      refine OJ.go 1 [(33, .int .i64 s27)] ?_
      refine OJ.idxK (d := 34) (T := 117) (y := .tmp 4) (j := .tmp 33) (E := 36) (sz := 27) (b := b24) (o := 0) (k := .i64) (fun hb37 hb38 => ?_)
      refine OJ.kld (d := 35) (y := .tmp 34) (cd := c_weirlaw15_Op) (j := 0) (b := b24) (o := (0 + s27.toNat * 27)) (Vec.g j25 s27 z_weirlaw15_Op) (pend2 := [⟨3, 36, (pt b24 (0 + s27.toNat * 27)), c_weirlaw15_Op.val (Vec.g j25 s27 z_weirlaw15_Op)⟩, ⟨0, 88, (pt b2 0), c_weirlaw15_Side.val s28⟩]) Ty36 rfl (At.zero (At.arr (z := z_weirlaw15_Op) hb37 hb38)) rfl ?_
      refine OJ.call (d := 36) (g := 56) (ats := #[88, 36]) (args := [.tmp 32, .tmp 35]) (owed := []) F56 (weirlaw15_step_ok s28 (Vec.g j25 s27 z_weirlaw15_Op)) (fun r39 => ?_)
      refine OW.nil ?_
      refine OJ.go 3 [(38, .bool r39.2), (37, c_weirlaw15_Side.val r39.1), (31, .tuple #[c_weirlaw15_Side.val r39.1, .bool r39.2])] ?_
      refine OJ.kst (y := .tmp 1) (z := .tmp 37) (cd := c_weirlaw15_Side) (u := r39.1) (j := 1) (b := b2) (o := 0) (c_weirlaw15_Side.enc r39.1) (owed := []) Ty88 rfl (Upd.whole ((Cod.len _ _).trans (Cod.len _ _).symm)) rfl ?_
      refine OW.nil ?_
      refine OJ.go 1 [(2, .bool r39.2)] ?_
      refine OJ.nil ?_
      refine SJ.inBlock ?_
      refine SJ.rg 3 ?_
      refine OJ.go 3 [(5, .int .i64 (IntKind.wrap .i64 (s27 + 1))), (30, .int .i64 (IntKind.wrap .i64 (s27 + 1))), (29, .int .i64 s27)] ?_
      refine OJ.nil ?_
      exact SJ.at_ [1, 2, 4, 5] rfl
    · refine SJ.exit (id := 0) (by rfl) ?_
      refine SJ.forget (List.Sublist.cons _ (List.Sublist.cons_cons _ List.Sublist.slnil)) ?_
      refine SJ.less [1, 2] (m' := [(1, .pointer (some (pt b2 0))), (2, .bool s26)]) ?_
      refine SJ.done ?_
      exact weirlaw15_started.K1_ok b2 s26 s28
noncomputable def weirlaw15_started.K2 (r1 : (weirlaw15_Side × Bool)) (b24 : Nat) (j25 : (Vec weirlaw15_Op 7)) : M Bool :=
  loopM (fun s_ : (Bool × Int × weirlaw15_Side) => weirlaw15_started.L1 j25 s_.1 s_.2.1 s_.2.2) (r1.2, 0, r1.1)
theorem weirlaw15_started.K2_ok (r1 : (weirlaw15_Side × Bool)) (b2 : Nat) (b24 : Nat) (j25 : (Vec weirlaw15_Op 7)) :
    SJ weirlaw15_started.cx [.code (c2 (c2 (c2 (c2 weirlaw15_started.B))))] [(1, .pointer (some (pt b2 0))), (2, .bool r1.2), (4, .pointer (some (pt b24 0)))] [(b24, (c_weirlaw15_Op.arr 7).enc j25), (b2, c_weirlaw15_Side.enc r1.1)] (weirlaw15_started.K2 r1 b24 j25) weirlaw15_started.F0 := by
  unfold weirlaw15_started.K2
  refine SJ.seq ?_
  refine SJ.sr 1 ?_
  refine OJ.go 1 [(5, .int .i64 0)] ?_
  refine OJ.nil ?_
  refine SJ.block (id := 0) ?_
  exact SJ.loop (fun s_ : (Bool × Int × weirlaw15_Side) => [(1, .pointer (some (pt b2 0))), (2, .bool s_.1), (4, .pointer (some (pt b24 0))), (5, .int .i64 s_.2.1)]) (fun s_ : (Bool × Int × weirlaw15_Side) => [(b24, (c_weirlaw15_Op.arr 7).enc j25), (b2, c_weirlaw15_Side.enc s_.2.2)]) [1, 2, 4, 5] rfl (fun _ _ => rfl) (fun s_ => weirlaw15_started.L1_ok b2 b24 j25 s_.1 s_.2.1 s_.2.2)
noncomputable def weirlaw15_started  : M Bool :=
  weirlaw15_made (⟨2, 2, 2, 2, 3⟩ : api_NeighConfig) >>= fun r1 =>
  slot 88 >>= fun b2 =>
  slot 34 >>= fun b3 =>
  draws 41 3 (opsOf (c1 (c2 (c2 (c2 weirlaw15_started.B))))) >>= fun o4 =>
  if bfr o4 0 12 = true then
    if bfr o4 4 12 = true then
      if bfr o4 7 12 = true then
        weirlaw15_ip 1 >>= fun r44 =>
        weirlaw15_ip 1 >>= fun r45 =>
        weirlaw15_ip 1 >>= fun r46 =>
        slot 117 >>= fun b47 =>
        weirlaw15_started.K2 r1 b47 (⟨[(⟨1, z_weirlaw15_Op.Two, z_weirlaw15_Op.Port, r44, z_weirlaw15_Op.Mac, 7⟩ : weirlaw15_Op), (⟨3, z_weirlaw15_Op.Two, z_weirlaw15_Op.Port, z_weirlaw15_Op.IP, z_weirlaw15_Op.Mac, z_weirlaw15_Op.N⟩ : weirlaw15_Op), (⟨3, z_weirlaw15_Op.Two, z_weirlaw15_Op.Port, z_weirlaw15_Op.IP, z_weirlaw15_Op.Mac, z_weirlaw15_Op.N⟩ : weirlaw15_Op), (⟨2, z_weirlaw15_Op.Two, z_weirlaw15_Op.Port, r45, (⟨[2, 0, 0, 0, 0, 1], rfl⟩ : (Vec Int 6)), 1⟩ : weirlaw15_Op), (⟨1, z_weirlaw15_Op.Two, z_weirlaw15_Op.Port, r46, z_weirlaw15_Op.Mac, 8⟩ : weirlaw15_Op), (⟨5, z_weirlaw15_Op.Two, z_weirlaw15_Op.Port, z_weirlaw15_Op.IP, z_weirlaw15_Op.Mac, z_weirlaw15_Op.N⟩ : weirlaw15_Op), (⟨6, z_weirlaw15_Op.Two, z_weirlaw15_Op.Port, z_weirlaw15_Op.IP, z_weirlaw15_Op.Mac, z_weirlaw15_Op.N⟩ : weirlaw15_Op)], rfl⟩ : (Vec weirlaw15_Op 7))
      else
        weirlaw15_ip 1 >>= fun r48 =>
        weirlaw15_ip 1 >>= fun r49 =>
        slot 117 >>= fun b50 =>
        weirlaw15_ip 1 >>= fun r51 =>
        weirlaw15_started.K2 r1 b50 (⟨[(⟨1, z_weirlaw15_Op.Two, z_weirlaw15_Op.Port, r48, z_weirlaw15_Op.Mac, 7⟩ : weirlaw15_Op), (⟨3, z_weirlaw15_Op.Two, z_weirlaw15_Op.Port, z_weirlaw15_Op.IP, z_weirlaw15_Op.Mac, z_weirlaw15_Op.N⟩ : weirlaw15_Op), (⟨3, z_weirlaw15_Op.Two, z_weirlaw15_Op.Port, z_weirlaw15_Op.IP, z_weirlaw15_Op.Mac, z_weirlaw15_Op.N⟩ : weirlaw15_Op), (⟨2, z_weirlaw15_Op.Two, z_weirlaw15_Op.Port, r49, (⟨[2, 0, 0, 0, 0, 1], rfl⟩ : (Vec Int 6)), 1⟩ : weirlaw15_Op), (⟨1, z_weirlaw15_Op.Two, z_weirlaw15_Op.Port, r51, z_weirlaw15_Op.Mac, 8⟩ : weirlaw15_Op), (⟨5, z_weirlaw15_Op.Two, z_weirlaw15_Op.Port, z_weirlaw15_Op.IP, z_weirlaw15_Op.Mac, z_weirlaw15_Op.N⟩ : weirlaw15_Op), (⟨6, z_weirlaw15_Op.Two, z_weirlaw15_Op.Port, z_weirlaw15_Op.IP, z_weirlaw15_Op.Mac, z_weirlaw15_Op.N⟩ : weirlaw15_Op)], rfl⟩ : (Vec weirlaw15_Op 7))
    else
      weirlaw15_ip 1 >>= fun r52 =>
      slot 117 >>= fun b53 =>
      weirlaw15_ip 1 >>= fun r54 =>
      weirlaw15_ip 1 >>= fun r55 =>
      weirlaw15_started.K2 r1 b53 (⟨[(⟨1, z_weirlaw15_Op.Two, z_weirlaw15_Op.Port, r52, z_weirlaw15_Op.Mac, 7⟩ : weirlaw15_Op), (⟨3, z_weirlaw15_Op.Two, z_weirlaw15_Op.Port, z_weirlaw15_Op.IP, z_weirlaw15_Op.Mac, z_weirlaw15_Op.N⟩ : weirlaw15_Op), (⟨3, z_weirlaw15_Op.Two, z_weirlaw15_Op.Port, z_weirlaw15_Op.IP, z_weirlaw15_Op.Mac, z_weirlaw15_Op.N⟩ : weirlaw15_Op), (⟨2, z_weirlaw15_Op.Two, z_weirlaw15_Op.Port, r54, (⟨[2, 0, 0, 0, 0, 1], rfl⟩ : (Vec Int 6)), 1⟩ : weirlaw15_Op), (⟨1, z_weirlaw15_Op.Two, z_weirlaw15_Op.Port, r55, z_weirlaw15_Op.Mac, 8⟩ : weirlaw15_Op), (⟨5, z_weirlaw15_Op.Two, z_weirlaw15_Op.Port, z_weirlaw15_Op.IP, z_weirlaw15_Op.Mac, z_weirlaw15_Op.N⟩ : weirlaw15_Op), (⟨6, z_weirlaw15_Op.Two, z_weirlaw15_Op.Port, z_weirlaw15_Op.IP, z_weirlaw15_Op.Mac, z_weirlaw15_Op.N⟩ : weirlaw15_Op)], rfl⟩ : (Vec weirlaw15_Op 7))
  else
    slot 117 >>= fun b56 =>
    weirlaw15_ip 1 >>= fun r57 =>
    weirlaw15_ip 1 >>= fun r58 =>
    weirlaw15_ip 1 >>= fun r59 =>
    weirlaw15_started.K2 r1 b56 (⟨[(⟨1, z_weirlaw15_Op.Two, z_weirlaw15_Op.Port, r57, z_weirlaw15_Op.Mac, 7⟩ : weirlaw15_Op), (⟨3, z_weirlaw15_Op.Two, z_weirlaw15_Op.Port, z_weirlaw15_Op.IP, z_weirlaw15_Op.Mac, z_weirlaw15_Op.N⟩ : weirlaw15_Op), (⟨3, z_weirlaw15_Op.Two, z_weirlaw15_Op.Port, z_weirlaw15_Op.IP, z_weirlaw15_Op.Mac, z_weirlaw15_Op.N⟩ : weirlaw15_Op), (⟨2, z_weirlaw15_Op.Two, z_weirlaw15_Op.Port, r58, (⟨[2, 0, 0, 0, 0, 1], rfl⟩ : (Vec Int 6)), 1⟩ : weirlaw15_Op), (⟨1, z_weirlaw15_Op.Two, z_weirlaw15_Op.Port, r59, z_weirlaw15_Op.Mac, 8⟩ : weirlaw15_Op), (⟨5, z_weirlaw15_Op.Two, z_weirlaw15_Op.Port, z_weirlaw15_Op.IP, z_weirlaw15_Op.Mac, z_weirlaw15_Op.N⟩ : weirlaw15_Op), (⟨6, z_weirlaw15_Op.Two, z_weirlaw15_Op.Port, z_weirlaw15_Op.IP, z_weirlaw15_Op.Mac, z_weirlaw15_Op.N⟩ : weirlaw15_Op)], rfl⟩ : (Vec weirlaw15_Op 7))
theorem weirlaw15_started_ok  : Ref Try.prog 41 [] (weirlaw15_started) weirlaw15_started.out := by
  refine Ref.of (cd := weirlaw15_started.B) Try.func41 ?_
  show SJ weirlaw15_started.cx [.code weirlaw15_started.B] [] [] (weirlaw15_started) weirlaw15_started.F0
  unfold weirlaw15_started
  refine SJ.sr 1 ?_
  refine OJ.go 1 [(0, .bool false)] ?_
  refine OJ.nil ?_
  refine SJ.sr 8 ?_
  refine OJ.build (d := 7) (T := 23) (parts := [(0, .const (.int .i64 2)), (1, .const (.int .i64 2)), (2, .const (.int .i64 2)), (3, .const (.int .i64 2)), (4, .const (.int .i64 3))]) (ps := [(0, (cI .i64).val 2), (1, (cI .i64).val 2), (2, (cI .i64).val 2), (3, (cI .i64).val 2), (4, (cI .i64).val 3)]) (cd := c_api_NeighConfig) (z0 := z_api_NeighConfig) (⟨2, 2, 2, 2, 3⟩ : api_NeighConfig) Ty23 rfl (Filled.cons (cd := (cI .i64)) (q := 2) (o := 0) (by kernel_rfl) (Up_api_NeighConfig_Max z_api_NeighConfig 2) (Filled.cons (cd := (cI .i64)) (q := 2) (o := 1) (by kernel_rfl) (Up_api_NeighConfig_Line (⟨2, z_api_NeighConfig.Line, z_api_NeighConfig.Every, z_api_NeighConfig.Tries, z_api_NeighConfig.Fresh⟩ : api_NeighConfig) 2) (Filled.cons (cd := (cI .i64)) (q := 2) (o := 2) (by kernel_rfl) (Up_api_NeighConfig_Every (⟨2, 2, z_api_NeighConfig.Every, z_api_NeighConfig.Tries, z_api_NeighConfig.Fresh⟩ : api_NeighConfig) 2) (Filled.cons (cd := (cI .i64)) (q := 2) (o := 3) (by kernel_rfl) (Up_api_NeighConfig_Tries (⟨2, 2, 2, z_api_NeighConfig.Tries, z_api_NeighConfig.Fresh⟩ : api_NeighConfig) 2) (Filled.cons (cd := (cI .i64)) (q := 3) (o := 4) (by kernel_rfl) (Up_api_NeighConfig_Fresh (⟨2, 2, 2, 2, z_api_NeighConfig.Fresh⟩ : api_NeighConfig) 3) Filled.nil))))) ?_
  refine OJ.call (d := 8) (g := 42) (ats := #[23]) (args := [.tmp 7]) (owed := []) F42 (weirlaw15_made_ok (⟨2, 2, 2, 2, 3⟩ : api_NeighConfig)) (fun r1 => ?_)
  refine OW.nil ?_
  refine OJ.go 3 [(10, .bool r1.2), (9, c_weirlaw15_Side.val r1.1), (6, .tuple #[c_weirlaw15_Side.val r1.1, .bool r1.2])] ?_
  refine OJ.slotOf (d := 1) (op := (.alloc 88)) (cd := c_weirlaw15_Side) (u := z_weirlaw15_Side) (owed := []) (alloc_run Ty88) (fun b2 => ?_)
  refine OW.nil ?_
  refine OJ.kst (y := .tmp 1) (z := .tmp 9) (cd := c_weirlaw15_Side) (u := r1.1) (j := 0) (b := b2) (o := 0) (c_weirlaw15_Side.enc r1.1) (owed := []) Ty88 rfl (Upd.whole ((Cod.len _ _).trans (Cod.len _ _).symm)) rfl ?_
  refine OW.nil ?_
  refine OJ.go 1 [(2, .bool r1.2)] ?_
  refine OJ.nil ?_
  refine SJ.sr 3 ?_
  refine OJ.build (d := 11) (T := 34) (parts := [(0, .const (.int .u8 2)), (1, .const (.int .u8 0)), (2, .const (.int .u8 0)), (3, .const (.int .u8 0)), (4, .const (.int .u8 0)), (5, .const (.int .u8 1))]) (ps := [(0, (cI .u8).val 2), (1, (cI .u8).val 0), (2, (cI .u8).val 0), (3, (cI .u8).val 0), (4, (cI .u8).val 0), (5, (cI .u8).val 1)]) (cd := ((cI .u8).arr 6)) (z0 := (Vec.rep 6 0)) (⟨[2, 0, 0, 0, 0, 1], rfl⟩ : (Vec Int 6)) Ty34 rfl (Filled.cons (cd := (cI .u8)) (q := 2) (o := 0) (by kernel_rfl) (Upd.arr (i := 0) (by decide) (by decide)) (Filled.cons (cd := (cI .u8)) (q := 0) (o := 1) (by kernel_rfl) (Upd.arr (i := 1) (by decide) (by decide)) (Filled.cons (cd := (cI .u8)) (q := 0) (o := 2) (by kernel_rfl) (Upd.arr (i := 2) (by decide) (by decide)) (Filled.cons (cd := (cI .u8)) (q := 0) (o := 3) (by kernel_rfl) (Upd.arr (i := 3) (by decide) (by decide)) (Filled.cons (cd := (cI .u8)) (q := 0) (o := 4) (by kernel_rfl) (Upd.arr (i := 4) (by decide) (by decide)) (Filled.cons (cd := (cI .u8)) (q := 1) (o := 5) (by kernel_rfl) (Upd.arr (i := 5) (by decide) (by decide)) Filled.nil)))))) ?_
  refine OJ.slotOf (d := 3) (op := (.alloc 34)) (cd := ((cI .u8).arr 6)) (u := (Vec.rep 6 0)) (owed := []) (alloc_run Ty34) (fun b3 => ?_)
  refine OW.nil ?_
  refine OJ.kst (y := .tmp 3) (z := .tmp 11) (cd := ((cI .u8).arr 6)) (u := (⟨[2, 0, 0, 0, 0, 1], rfl⟩ : (Vec Int 6))) (j := 0) (b := b3) (o := 0) (((cI .u8).arr 6).enc (⟨[2, 0, 0, 0, 0, 1], rfl⟩ : (Vec Int 6))) (owed := []) Ty34 rfl (Upd.whole ((Cod.len _ _).trans (Cod.len _ _).symm)) rfl ?_
  refine OW.nil ?_
  refine OJ.nil ?_
  refine SJ.seq ?_
  refine SJ.draws (id := 3) (kd := [2, 0, 0, 0, 2, 1, 0, 2, 0, 0, 0, 0, 2, 2]) (bef := [0, 1, 0, 0, 1, 0, 49, 17, 145, 0, 0, 2047, 0, 8191]) (ord := [5, 0, 1, 2, 3, 4, 6, 7, 8, 9, 10, 11, 12, 13]) (E := [(0, 12), (4, 12), (7, 12)]) mixed (fun o4 hg_ => ?_)
  refine SJ.bfr hg_ (by decide) (fun ho41 => ?_) (fun ho41 => ?_)
  · refine SJ.bfr hg_ (by decide) (fun ho42 => ?_) (fun ho42 => ?_)
    · refine SJ.bfr hg_ (by decide) (fun ho43 => ?_) (fun ho43 => ?_)
      · refine SJ.leaf hg_ (kd := [2, 0, 0, 0, 2, 1, 0, 2, 0, 0, 0, 0, 2, 2]) (bef := [0, 1, 0, 0, 1, 0, 49, 17, 145, 0, 0, 2047, 0, 8191]) (ord := [5, 0, 1, 2, 3, 4, 6, 7, 8, 9, 10, 11, 12, 13]) (E := [(0, 12), (4, 12), (7, 12)]) (allB.cons ho41 (allB.cons ho42 (allB.cons ho43 allB.nil))) ?_
        refine OJ.kld (d := 17) (y := .tmp 3) (cd := ((cI .u8).arr 6)) (j := 0) (b := b3) (o := 0) (⟨[2, 0, 0, 0, 0, 1], rfl⟩ : (Vec Int 6)) (pend2 := [⟨5, 34, (pt b3 0), ((cI .u8).arr 6).val (⟨[2, 0, 0, 0, 0, 1], rfl⟩ : (Vec Int 6))⟩]) Ty34 rfl (At.whole _) rfl ?_
        refine OJ.call (d := 12) (g := 45) (ats := #[5]) (args := [.const (.int .u8 1)]) (owed := [⟨5, 34, (pt b3 0), ((cI .u8).arr 6).val (⟨[2, 0, 0, 0, 0, 1], rfl⟩ : (Vec Int 6))⟩]) F45 (weirlaw15_ip_ok 1) (fun r44 => ?_)
        refine OW.known (j := 0) (q := (⟨[2, 0, 0, 0, 0, 1], rfl⟩ : (Vec Int 6))) Ty34 rfl (At.whole _) ?_
        refine OW.nil ?_
        refine OJ.build (d := 13) (T := 36) (parts := [(0, .const (.int .i64 1)), (3, .tmp 12), (5, .const (.int .i64 7))]) (ps := [(0, (cI .i64).val 1), (3, c_api_IP.val r44), (5, (cI .i64).val 7)]) (cd := c_weirlaw15_Op) (z0 := z_weirlaw15_Op) (⟨1, z_weirlaw15_Op.Two, z_weirlaw15_Op.Port, r44, z_weirlaw15_Op.Mac, 7⟩ : weirlaw15_Op) Ty36 rfl (Filled.cons (cd := (cI .i64)) (q := 1) (o := 0) (by kernel_rfl) (Up_weirlaw15_Op_Kind z_weirlaw15_Op 1) (Filled.cons (cd := c_api_IP) (q := r44) (o := 3) (by kernel_rfl) (Up_weirlaw15_Op_IP (⟨1, z_weirlaw15_Op.Two, z_weirlaw15_Op.Port, z_weirlaw15_Op.IP, z_weirlaw15_Op.Mac, z_weirlaw15_Op.N⟩ : weirlaw15_Op) r44) (Filled.cons (cd := (cI .i64)) (q := 7) (o := 26) (by kernel_rfl) (Up_weirlaw15_Op_N (⟨1, z_weirlaw15_Op.Two, z_weirlaw15_Op.Port, r44, z_weirlaw15_Op.Mac, z_weirlaw15_Op.N⟩ : weirlaw15_Op) 7) Filled.nil))) ?_
        refine OJ.build (d := 14) (T := 36) (parts := [(0, .const (.int .i64 3))]) (ps := [(0, (cI .i64).val 3)]) (cd := c_weirlaw15_Op) (z0 := z_weirlaw15_Op) (⟨3, z_weirlaw15_Op.Two, z_weirlaw15_Op.Port, z_weirlaw15_Op.IP, z_weirlaw15_Op.Mac, z_weirlaw15_Op.N⟩ : weirlaw15_Op) Ty36 rfl (Filled.cons (cd := (cI .i64)) (q := 3) (o := 0) (by kernel_rfl) (Up_weirlaw15_Op_Kind z_weirlaw15_Op 3) Filled.nil) ?_
        refine OJ.build (d := 15) (T := 36) (parts := [(0, .const (.int .i64 3))]) (ps := [(0, (cI .i64).val 3)]) (cd := c_weirlaw15_Op) (z0 := z_weirlaw15_Op) (⟨3, z_weirlaw15_Op.Two, z_weirlaw15_Op.Port, z_weirlaw15_Op.IP, z_weirlaw15_Op.Mac, z_weirlaw15_Op.N⟩ : weirlaw15_Op) Ty36 rfl (Filled.cons (cd := (cI .i64)) (q := 3) (o := 0) (by kernel_rfl) (Up_weirlaw15_Op_Kind z_weirlaw15_Op 3) Filled.nil) ?_
        refine OJ.call (d := 16) (g := 45) (ats := #[5]) (args := [.const (.int .u8 1)]) (owed := [⟨5, 34, (pt b3 0), ((cI .u8).arr 6).val (⟨[2, 0, 0, 0, 0, 1], rfl⟩ : (Vec Int 6))⟩]) F45 (weirlaw15_ip_ok 1) (fun r45 => ?_)
        refine OW.known (j := 0) (q := (⟨[2, 0, 0, 0, 0, 1], rfl⟩ : (Vec Int 6))) Ty34 rfl (At.whole _) ?_
        refine OW.nil ?_
        refine OJ.build (d := 18) (T := 36) (parts := [(0, .const (.int .i64 2)), (3, .tmp 16), (4, .tmp 17), (5, .const (.int .i64 1))]) (ps := [(0, (cI .i64).val 2), (3, c_api_IP.val r45), (4, ((cI .u8).arr 6).val (⟨[2, 0, 0, 0, 0, 1], rfl⟩ : (Vec Int 6))), (5, (cI .i64).val 1)]) (cd := c_weirlaw15_Op) (z0 := z_weirlaw15_Op) (⟨2, z_weirlaw15_Op.Two, z_weirlaw15_Op.Port, r45, (⟨[2, 0, 0, 0, 0, 1], rfl⟩ : (Vec Int 6)), 1⟩ : weirlaw15_Op) Ty36 rfl (Filled.cons (cd := (cI .i64)) (q := 2) (o := 0) (by kernel_rfl) (Up_weirlaw15_Op_Kind z_weirlaw15_Op 2) (Filled.cons (cd := c_api_IP) (q := r45) (o := 3) (by kernel_rfl) (Up_weirlaw15_Op_IP (⟨2, z_weirlaw15_Op.Two, z_weirlaw15_Op.Port, z_weirlaw15_Op.IP, z_weirlaw15_Op.Mac, z_weirlaw15_Op.N⟩ : weirlaw15_Op) r45) (Filled.cons (cd := ((cI .u8).arr 6)) (q := (⟨[2, 0, 0, 0, 0, 1], rfl⟩ : (Vec Int 6))) (o := 20) (by kernel_rfl) (Up_weirlaw15_Op_Mac (⟨2, z_weirlaw15_Op.Two, z_weirlaw15_Op.Port, r45, z_weirlaw15_Op.Mac, z_weirlaw15_Op.N⟩ : weirlaw15_Op) (⟨[2, 0, 0, 0, 0, 1], rfl⟩ : (Vec Int 6))) (Filled.cons (cd := (cI .i64)) (q := 1) (o := 26) (by kernel_rfl) (Up_weirlaw15_Op_N (⟨2, z_weirlaw15_Op.Two, z_weirlaw15_Op.Port, r45, (⟨[2, 0, 0, 0, 0, 1], rfl⟩ : (Vec Int 6)), z_weirlaw15_Op.N⟩ : weirlaw15_Op) 1) Filled.nil)))) ?_
        refine OJ.call (d := 19) (g := 45) (ats := #[5]) (args := [.const (.int .u8 1)]) (owed := [⟨5, 34, (pt b3 0), ((cI .u8).arr 6).val (⟨[2, 0, 0, 0, 0, 1], rfl⟩ : (Vec Int 6))⟩]) F45 (weirlaw15_ip_ok 1) (fun r46 => ?_)
        refine OW.known (j := 0) (q := (⟨[2, 0, 0, 0, 0, 1], rfl⟩ : (Vec Int 6))) Ty34 rfl (At.whole _) ?_
        refine OW.nil ?_
        refine OJ.build (d := 20) (T := 36) (parts := [(0, .const (.int .i64 1)), (3, .tmp 19), (5, .const (.int .i64 8))]) (ps := [(0, (cI .i64).val 1), (3, c_api_IP.val r46), (5, (cI .i64).val 8)]) (cd := c_weirlaw15_Op) (z0 := z_weirlaw15_Op) (⟨1, z_weirlaw15_Op.Two, z_weirlaw15_Op.Port, r46, z_weirlaw15_Op.Mac, 8⟩ : weirlaw15_Op) Ty36 rfl (Filled.cons (cd := (cI .i64)) (q := 1) (o := 0) (by kernel_rfl) (Up_weirlaw15_Op_Kind z_weirlaw15_Op 1) (Filled.cons (cd := c_api_IP) (q := r46) (o := 3) (by kernel_rfl) (Up_weirlaw15_Op_IP (⟨1, z_weirlaw15_Op.Two, z_weirlaw15_Op.Port, z_weirlaw15_Op.IP, z_weirlaw15_Op.Mac, z_weirlaw15_Op.N⟩ : weirlaw15_Op) r46) (Filled.cons (cd := (cI .i64)) (q := 8) (o := 26) (by kernel_rfl) (Up_weirlaw15_Op_N (⟨1, z_weirlaw15_Op.Two, z_weirlaw15_Op.Port, r46, z_weirlaw15_Op.Mac, z_weirlaw15_Op.N⟩ : weirlaw15_Op) 8) Filled.nil))) ?_
        refine OJ.build (d := 21) (T := 36) (parts := [(0, .const (.int .i64 5))]) (ps := [(0, (cI .i64).val 5)]) (cd := c_weirlaw15_Op) (z0 := z_weirlaw15_Op) (⟨5, z_weirlaw15_Op.Two, z_weirlaw15_Op.Port, z_weirlaw15_Op.IP, z_weirlaw15_Op.Mac, z_weirlaw15_Op.N⟩ : weirlaw15_Op) Ty36 rfl (Filled.cons (cd := (cI .i64)) (q := 5) (o := 0) (by kernel_rfl) (Up_weirlaw15_Op_Kind z_weirlaw15_Op 5) Filled.nil) ?_
        refine OJ.build (d := 22) (T := 36) (parts := [(0, .const (.int .i64 6))]) (ps := [(0, (cI .i64).val 6)]) (cd := c_weirlaw15_Op) (z0 := z_weirlaw15_Op) (⟨6, z_weirlaw15_Op.Two, z_weirlaw15_Op.Port, z_weirlaw15_Op.IP, z_weirlaw15_Op.Mac, z_weirlaw15_Op.N⟩ : weirlaw15_Op) Ty36 rfl (Filled.cons (cd := (cI .i64)) (q := 6) (o := 0) (by kernel_rfl) (Up_weirlaw15_Op_Kind z_weirlaw15_Op 6) Filled.nil) ?_
        refine OJ.build (d := 23) (T := 117) (parts := [(0, .tmp 13), (1, .tmp 14), (2, .tmp 15), (3, .tmp 18), (4, .tmp 20), (5, .tmp 21), (6, .tmp 22)]) (ps := [(0, c_weirlaw15_Op.val (⟨1, z_weirlaw15_Op.Two, z_weirlaw15_Op.Port, r44, z_weirlaw15_Op.Mac, 7⟩ : weirlaw15_Op)), (1, c_weirlaw15_Op.val (⟨3, z_weirlaw15_Op.Two, z_weirlaw15_Op.Port, z_weirlaw15_Op.IP, z_weirlaw15_Op.Mac, z_weirlaw15_Op.N⟩ : weirlaw15_Op)), (2, c_weirlaw15_Op.val (⟨3, z_weirlaw15_Op.Two, z_weirlaw15_Op.Port, z_weirlaw15_Op.IP, z_weirlaw15_Op.Mac, z_weirlaw15_Op.N⟩ : weirlaw15_Op)), (3, c_weirlaw15_Op.val (⟨2, z_weirlaw15_Op.Two, z_weirlaw15_Op.Port, r45, (⟨[2, 0, 0, 0, 0, 1], rfl⟩ : (Vec Int 6)), 1⟩ : weirlaw15_Op)), (4, c_weirlaw15_Op.val (⟨1, z_weirlaw15_Op.Two, z_weirlaw15_Op.Port, r46, z_weirlaw15_Op.Mac, 8⟩ : weirlaw15_Op)), (5, c_weirlaw15_Op.val (⟨5, z_weirlaw15_Op.Two, z_weirlaw15_Op.Port, z_weirlaw15_Op.IP, z_weirlaw15_Op.Mac, z_weirlaw15_Op.N⟩ : weirlaw15_Op)), (6, c_weirlaw15_Op.val (⟨6, z_weirlaw15_Op.Two, z_weirlaw15_Op.Port, z_weirlaw15_Op.IP, z_weirlaw15_Op.Mac, z_weirlaw15_Op.N⟩ : weirlaw15_Op))]) (cd := (c_weirlaw15_Op.arr 7)) (z0 := (Vec.rep 7 z_weirlaw15_Op)) (⟨[(⟨1, z_weirlaw15_Op.Two, z_weirlaw15_Op.Port, r44, z_weirlaw15_Op.Mac, 7⟩ : weirlaw15_Op), (⟨3, z_weirlaw15_Op.Two, z_weirlaw15_Op.Port, z_weirlaw15_Op.IP, z_weirlaw15_Op.Mac, z_weirlaw15_Op.N⟩ : weirlaw15_Op), (⟨3, z_weirlaw15_Op.Two, z_weirlaw15_Op.Port, z_weirlaw15_Op.IP, z_weirlaw15_Op.Mac, z_weirlaw15_Op.N⟩ : weirlaw15_Op), (⟨2, z_weirlaw15_Op.Two, z_weirlaw15_Op.Port, r45, (⟨[2, 0, 0, 0, 0, 1], rfl⟩ : (Vec Int 6)), 1⟩ : weirlaw15_Op), (⟨1, z_weirlaw15_Op.Two, z_weirlaw15_Op.Port, r46, z_weirlaw15_Op.Mac, 8⟩ : weirlaw15_Op), (⟨5, z_weirlaw15_Op.Two, z_weirlaw15_Op.Port, z_weirlaw15_Op.IP, z_weirlaw15_Op.Mac, z_weirlaw15_Op.N⟩ : weirlaw15_Op), (⟨6, z_weirlaw15_Op.Two, z_weirlaw15_Op.Port, z_weirlaw15_Op.IP, z_weirlaw15_Op.Mac, z_weirlaw15_Op.N⟩ : weirlaw15_Op)], rfl⟩ : (Vec weirlaw15_Op 7)) Ty117 rfl (Filled.cons (cd := c_weirlaw15_Op) (q := (⟨1, z_weirlaw15_Op.Two, z_weirlaw15_Op.Port, r44, z_weirlaw15_Op.Mac, 7⟩ : weirlaw15_Op)) (o := 0) (by kernel_rfl) (Upd.arr (i := 0) (by decide) (by decide)) (Filled.cons (cd := c_weirlaw15_Op) (q := (⟨3, z_weirlaw15_Op.Two, z_weirlaw15_Op.Port, z_weirlaw15_Op.IP, z_weirlaw15_Op.Mac, z_weirlaw15_Op.N⟩ : weirlaw15_Op)) (o := 27) (by kernel_rfl) (Upd.arr (i := 1) (by decide) (by decide)) (Filled.cons (cd := c_weirlaw15_Op) (q := (⟨3, z_weirlaw15_Op.Two, z_weirlaw15_Op.Port, z_weirlaw15_Op.IP, z_weirlaw15_Op.Mac, z_weirlaw15_Op.N⟩ : weirlaw15_Op)) (o := 54) (by kernel_rfl) (Upd.arr (i := 2) (by decide) (by decide)) (Filled.cons (cd := c_weirlaw15_Op) (q := (⟨2, z_weirlaw15_Op.Two, z_weirlaw15_Op.Port, r45, (⟨[2, 0, 0, 0, 0, 1], rfl⟩ : (Vec Int 6)), 1⟩ : weirlaw15_Op)) (o := 81) (by kernel_rfl) (Upd.arr (i := 3) (by decide) (by decide)) (Filled.cons (cd := c_weirlaw15_Op) (q := (⟨1, z_weirlaw15_Op.Two, z_weirlaw15_Op.Port, r46, z_weirlaw15_Op.Mac, 8⟩ : weirlaw15_Op)) (o := 108) (by kernel_rfl) (Upd.arr (i := 4) (by decide) (by decide)) (Filled.cons (cd := c_weirlaw15_Op) (q := (⟨5, z_weirlaw15_Op.Two, z_weirlaw15_Op.Port, z_weirlaw15_Op.IP, z_weirlaw15_Op.Mac, z_weirlaw15_Op.N⟩ : weirlaw15_Op)) (o := 135) (by kernel_rfl) (Upd.arr (i := 5) (by decide) (by decide)) (Filled.cons (cd := c_weirlaw15_Op) (q := (⟨6, z_weirlaw15_Op.Two, z_weirlaw15_Op.Port, z_weirlaw15_Op.IP, z_weirlaw15_Op.Mac, z_weirlaw15_Op.N⟩ : weirlaw15_Op)) (o := 162) (by kernel_rfl) (Upd.arr (i := 6) (by decide) (by decide)) Filled.nil))))))) ?_
        refine OJ.slotOf (d := 4) (op := (.alloc 117)) (cd := (c_weirlaw15_Op.arr 7)) (u := (Vec.rep 7 z_weirlaw15_Op)) (owed := [⟨5, 34, (pt b3 0), ((cI .u8).arr 6).val (⟨[2, 0, 0, 0, 0, 1], rfl⟩ : (Vec Int 6))⟩]) (alloc_run Ty117) (fun b47 => ?_)
        refine OW.known (j := 1) (q := (⟨[2, 0, 0, 0, 0, 1], rfl⟩ : (Vec Int 6))) Ty34 rfl (At.whole _) ?_
        refine OW.nil ?_
        refine OJ.kst (y := .tmp 4) (z := .tmp 23) (cd := (c_weirlaw15_Op.arr 7)) (u := (⟨[(⟨1, z_weirlaw15_Op.Two, z_weirlaw15_Op.Port, r44, z_weirlaw15_Op.Mac, 7⟩ : weirlaw15_Op), (⟨3, z_weirlaw15_Op.Two, z_weirlaw15_Op.Port, z_weirlaw15_Op.IP, z_weirlaw15_Op.Mac, z_weirlaw15_Op.N⟩ : weirlaw15_Op), (⟨3, z_weirlaw15_Op.Two, z_weirlaw15_Op.Port, z_weirlaw15_Op.IP, z_weirlaw15_Op.Mac, z_weirlaw15_Op.N⟩ : weirlaw15_Op), (⟨2, z_weirlaw15_Op.Two, z_weirlaw15_Op.Port, r45, (⟨[2, 0, 0, 0, 0, 1], rfl⟩ : (Vec Int 6)), 1⟩ : weirlaw15_Op), (⟨1, z_weirlaw15_Op.Two, z_weirlaw15_Op.Port, r46, z_weirlaw15_Op.Mac, 8⟩ : weirlaw15_Op), (⟨5, z_weirlaw15_Op.Two, z_weirlaw15_Op.Port, z_weirlaw15_Op.IP, z_weirlaw15_Op.Mac, z_weirlaw15_Op.N⟩ : weirlaw15_Op), (⟨6, z_weirlaw15_Op.Two, z_weirlaw15_Op.Port, z_weirlaw15_Op.IP, z_weirlaw15_Op.Mac, z_weirlaw15_Op.N⟩ : weirlaw15_Op)], rfl⟩ : (Vec weirlaw15_Op 7))) (j := 0) (b := b47) (o := 0) ((c_weirlaw15_Op.arr 7).enc (⟨[(⟨1, z_weirlaw15_Op.Two, z_weirlaw15_Op.Port, r44, z_weirlaw15_Op.Mac, 7⟩ : weirlaw15_Op), (⟨3, z_weirlaw15_Op.Two, z_weirlaw15_Op.Port, z_weirlaw15_Op.IP, z_weirlaw15_Op.Mac, z_weirlaw15_Op.N⟩ : weirlaw15_Op), (⟨3, z_weirlaw15_Op.Two, z_weirlaw15_Op.Port, z_weirlaw15_Op.IP, z_weirlaw15_Op.Mac, z_weirlaw15_Op.N⟩ : weirlaw15_Op), (⟨2, z_weirlaw15_Op.Two, z_weirlaw15_Op.Port, r45, (⟨[2, 0, 0, 0, 0, 1], rfl⟩ : (Vec Int 6)), 1⟩ : weirlaw15_Op), (⟨1, z_weirlaw15_Op.Two, z_weirlaw15_Op.Port, r46, z_weirlaw15_Op.Mac, 8⟩ : weirlaw15_Op), (⟨5, z_weirlaw15_Op.Two, z_weirlaw15_Op.Port, z_weirlaw15_Op.IP, z_weirlaw15_Op.Mac, z_weirlaw15_Op.N⟩ : weirlaw15_Op), (⟨6, z_weirlaw15_Op.Two, z_weirlaw15_Op.Port, z_weirlaw15_Op.IP, z_weirlaw15_Op.Mac, z_weirlaw15_Op.N⟩ : weirlaw15_Op)], rfl⟩ : (Vec weirlaw15_Op 7))) (owed := []) Ty117 rfl (Upd.whole ((Cod.len _ _).trans (Cod.len _ _).symm)) rfl ?_
        refine OW.nil ?_
        refine OJ.nil ?_
        refine SJ.forget (List.Sublist.cons_cons _ (List.Sublist.cons _ (List.Sublist.cons_cons _ List.Sublist.slnil))) ?_
        refine SJ.less [1, 2, 4] (m' := [(1, .pointer (some (pt b2 0))), (2, .bool r1.2), (4, .pointer (some (pt b47 0)))]) ?_
        exact weirlaw15_started.K2_ok r1 b2 b47 (⟨[(⟨1, z_weirlaw15_Op.Two, z_weirlaw15_Op.Port, r44, z_weirlaw15_Op.Mac, 7⟩ : weirlaw15_Op), (⟨3, z_weirlaw15_Op.Two, z_weirlaw15_Op.Port, z_weirlaw15_Op.IP, z_weirlaw15_Op.Mac, z_weirlaw15_Op.N⟩ : weirlaw15_Op), (⟨3, z_weirlaw15_Op.Two, z_weirlaw15_Op.Port, z_weirlaw15_Op.IP, z_weirlaw15_Op.Mac, z_weirlaw15_Op.N⟩ : weirlaw15_Op), (⟨2, z_weirlaw15_Op.Two, z_weirlaw15_Op.Port, r45, (⟨[2, 0, 0, 0, 0, 1], rfl⟩ : (Vec Int 6)), 1⟩ : weirlaw15_Op), (⟨1, z_weirlaw15_Op.Two, z_weirlaw15_Op.Port, r46, z_weirlaw15_Op.Mac, 8⟩ : weirlaw15_Op), (⟨5, z_weirlaw15_Op.Two, z_weirlaw15_Op.Port, z_weirlaw15_Op.IP, z_weirlaw15_Op.Mac, z_weirlaw15_Op.N⟩ : weirlaw15_Op), (⟨6, z_weirlaw15_Op.Two, z_weirlaw15_Op.Port, z_weirlaw15_Op.IP, z_weirlaw15_Op.Mac, z_weirlaw15_Op.N⟩ : weirlaw15_Op)], rfl⟩ : (Vec weirlaw15_Op 7))
      · refine SJ.leaf hg_ (kd := [2, 0, 0, 0, 2, 1, 0, 2, 0, 0, 0, 0, 2, 2]) (bef := [0, 1, 0, 0, 1, 0, 49, 17, 145, 0, 0, 2047, 0, 8191]) (ord := [5, 0, 1, 2, 3, 4, 6, 12, 7, 8, 9, 10, 11, 13]) (E := [(0, 12), (4, 12), (12, 7)]) (allB.cons ho41 (allB.cons ho42 (allB.cons ho43 allB.nil))) ?_
        refine OJ.kld (d := 17) (y := .tmp 3) (cd := ((cI .u8).arr 6)) (j := 0) (b := b3) (o := 0) (⟨[2, 0, 0, 0, 0, 1], rfl⟩ : (Vec Int 6)) (pend2 := [⟨5, 34, (pt b3 0), ((cI .u8).arr 6).val (⟨[2, 0, 0, 0, 0, 1], rfl⟩ : (Vec Int 6))⟩]) Ty34 rfl (At.whole _) rfl ?_
        refine OJ.call (d := 12) (g := 45) (ats := #[5]) (args := [.const (.int .u8 1)]) (owed := [⟨5, 34, (pt b3 0), ((cI .u8).arr 6).val (⟨[2, 0, 0, 0, 0, 1], rfl⟩ : (Vec Int 6))⟩]) F45 (weirlaw15_ip_ok 1) (fun r48 => ?_)
        refine OW.known (j := 0) (q := (⟨[2, 0, 0, 0, 0, 1], rfl⟩ : (Vec Int 6))) Ty34 rfl (At.whole _) ?_
        refine OW.nil ?_
        refine OJ.build (d := 13) (T := 36) (parts := [(0, .const (.int .i64 1)), (3, .tmp 12), (5, .const (.int .i64 7))]) (ps := [(0, (cI .i64).val 1), (3, c_api_IP.val r48), (5, (cI .i64).val 7)]) (cd := c_weirlaw15_Op) (z0 := z_weirlaw15_Op) (⟨1, z_weirlaw15_Op.Two, z_weirlaw15_Op.Port, r48, z_weirlaw15_Op.Mac, 7⟩ : weirlaw15_Op) Ty36 rfl (Filled.cons (cd := (cI .i64)) (q := 1) (o := 0) (by kernel_rfl) (Up_weirlaw15_Op_Kind z_weirlaw15_Op 1) (Filled.cons (cd := c_api_IP) (q := r48) (o := 3) (by kernel_rfl) (Up_weirlaw15_Op_IP (⟨1, z_weirlaw15_Op.Two, z_weirlaw15_Op.Port, z_weirlaw15_Op.IP, z_weirlaw15_Op.Mac, z_weirlaw15_Op.N⟩ : weirlaw15_Op) r48) (Filled.cons (cd := (cI .i64)) (q := 7) (o := 26) (by kernel_rfl) (Up_weirlaw15_Op_N (⟨1, z_weirlaw15_Op.Two, z_weirlaw15_Op.Port, r48, z_weirlaw15_Op.Mac, z_weirlaw15_Op.N⟩ : weirlaw15_Op) 7) Filled.nil))) ?_
        refine OJ.build (d := 14) (T := 36) (parts := [(0, .const (.int .i64 3))]) (ps := [(0, (cI .i64).val 3)]) (cd := c_weirlaw15_Op) (z0 := z_weirlaw15_Op) (⟨3, z_weirlaw15_Op.Two, z_weirlaw15_Op.Port, z_weirlaw15_Op.IP, z_weirlaw15_Op.Mac, z_weirlaw15_Op.N⟩ : weirlaw15_Op) Ty36 rfl (Filled.cons (cd := (cI .i64)) (q := 3) (o := 0) (by kernel_rfl) (Up_weirlaw15_Op_Kind z_weirlaw15_Op 3) Filled.nil) ?_
        refine OJ.build (d := 15) (T := 36) (parts := [(0, .const (.int .i64 3))]) (ps := [(0, (cI .i64).val 3)]) (cd := c_weirlaw15_Op) (z0 := z_weirlaw15_Op) (⟨3, z_weirlaw15_Op.Two, z_weirlaw15_Op.Port, z_weirlaw15_Op.IP, z_weirlaw15_Op.Mac, z_weirlaw15_Op.N⟩ : weirlaw15_Op) Ty36 rfl (Filled.cons (cd := (cI .i64)) (q := 3) (o := 0) (by kernel_rfl) (Up_weirlaw15_Op_Kind z_weirlaw15_Op 3) Filled.nil) ?_
        refine OJ.call (d := 16) (g := 45) (ats := #[5]) (args := [.const (.int .u8 1)]) (owed := [⟨5, 34, (pt b3 0), ((cI .u8).arr 6).val (⟨[2, 0, 0, 0, 0, 1], rfl⟩ : (Vec Int 6))⟩]) F45 (weirlaw15_ip_ok 1) (fun r49 => ?_)
        refine OW.known (j := 0) (q := (⟨[2, 0, 0, 0, 0, 1], rfl⟩ : (Vec Int 6))) Ty34 rfl (At.whole _) ?_
        refine OW.nil ?_
        refine OJ.build (d := 18) (T := 36) (parts := [(0, .const (.int .i64 2)), (3, .tmp 16), (4, .tmp 17), (5, .const (.int .i64 1))]) (ps := [(0, (cI .i64).val 2), (3, c_api_IP.val r49), (4, ((cI .u8).arr 6).val (⟨[2, 0, 0, 0, 0, 1], rfl⟩ : (Vec Int 6))), (5, (cI .i64).val 1)]) (cd := c_weirlaw15_Op) (z0 := z_weirlaw15_Op) (⟨2, z_weirlaw15_Op.Two, z_weirlaw15_Op.Port, r49, (⟨[2, 0, 0, 0, 0, 1], rfl⟩ : (Vec Int 6)), 1⟩ : weirlaw15_Op) Ty36 rfl (Filled.cons (cd := (cI .i64)) (q := 2) (o := 0) (by kernel_rfl) (Up_weirlaw15_Op_Kind z_weirlaw15_Op 2) (Filled.cons (cd := c_api_IP) (q := r49) (o := 3) (by kernel_rfl) (Up_weirlaw15_Op_IP (⟨2, z_weirlaw15_Op.Two, z_weirlaw15_Op.Port, z_weirlaw15_Op.IP, z_weirlaw15_Op.Mac, z_weirlaw15_Op.N⟩ : weirlaw15_Op) r49) (Filled.cons (cd := ((cI .u8).arr 6)) (q := (⟨[2, 0, 0, 0, 0, 1], rfl⟩ : (Vec Int 6))) (o := 20) (by kernel_rfl) (Up_weirlaw15_Op_Mac (⟨2, z_weirlaw15_Op.Two, z_weirlaw15_Op.Port, r49, z_weirlaw15_Op.Mac, z_weirlaw15_Op.N⟩ : weirlaw15_Op) (⟨[2, 0, 0, 0, 0, 1], rfl⟩ : (Vec Int 6))) (Filled.cons (cd := (cI .i64)) (q := 1) (o := 26) (by kernel_rfl) (Up_weirlaw15_Op_N (⟨2, z_weirlaw15_Op.Two, z_weirlaw15_Op.Port, r49, (⟨[2, 0, 0, 0, 0, 1], rfl⟩ : (Vec Int 6)), z_weirlaw15_Op.N⟩ : weirlaw15_Op) 1) Filled.nil)))) ?_
        refine OJ.slotOf (d := 4) (op := (.alloc 117)) (cd := (c_weirlaw15_Op.arr 7)) (u := (Vec.rep 7 z_weirlaw15_Op)) (owed := [⟨5, 34, (pt b3 0), ((cI .u8).arr 6).val (⟨[2, 0, 0, 0, 0, 1], rfl⟩ : (Vec Int 6))⟩]) (alloc_run Ty117) (fun b50 => ?_)
        refine OW.known (j := 1) (q := (⟨[2, 0, 0, 0, 0, 1], rfl⟩ : (Vec Int 6))) Ty34 rfl (At.whole _) ?_
        refine OW.nil ?_
        refine OJ.call (d := 19) (g := 45) (ats := #[5]) (args := [.const (.int .u8 1)]) (owed := [⟨5, 34, (pt b3 0), ((cI .u8).arr 6).val (⟨[2, 0, 0, 0, 0, 1], rfl⟩ : (Vec Int 6))⟩]) F45 (weirlaw15_ip_ok 1) (fun r51 => ?_)
        refine OW.known (j := 1) (q := (⟨[2, 0, 0, 0, 0, 1], rfl⟩ : (Vec Int 6))) Ty34 rfl (At.whole _) ?_
        refine OW.nil ?_
        refine OJ.build (d := 20) (T := 36) (parts := [(0, .const (.int .i64 1)), (3, .tmp 19), (5, .const (.int .i64 8))]) (ps := [(0, (cI .i64).val 1), (3, c_api_IP.val r51), (5, (cI .i64).val 8)]) (cd := c_weirlaw15_Op) (z0 := z_weirlaw15_Op) (⟨1, z_weirlaw15_Op.Two, z_weirlaw15_Op.Port, r51, z_weirlaw15_Op.Mac, 8⟩ : weirlaw15_Op) Ty36 rfl (Filled.cons (cd := (cI .i64)) (q := 1) (o := 0) (by kernel_rfl) (Up_weirlaw15_Op_Kind z_weirlaw15_Op 1) (Filled.cons (cd := c_api_IP) (q := r51) (o := 3) (by kernel_rfl) (Up_weirlaw15_Op_IP (⟨1, z_weirlaw15_Op.Two, z_weirlaw15_Op.Port, z_weirlaw15_Op.IP, z_weirlaw15_Op.Mac, z_weirlaw15_Op.N⟩ : weirlaw15_Op) r51) (Filled.cons (cd := (cI .i64)) (q := 8) (o := 26) (by kernel_rfl) (Up_weirlaw15_Op_N (⟨1, z_weirlaw15_Op.Two, z_weirlaw15_Op.Port, r51, z_weirlaw15_Op.Mac, z_weirlaw15_Op.N⟩ : weirlaw15_Op) 8) Filled.nil))) ?_
        refine OJ.build (d := 21) (T := 36) (parts := [(0, .const (.int .i64 5))]) (ps := [(0, (cI .i64).val 5)]) (cd := c_weirlaw15_Op) (z0 := z_weirlaw15_Op) (⟨5, z_weirlaw15_Op.Two, z_weirlaw15_Op.Port, z_weirlaw15_Op.IP, z_weirlaw15_Op.Mac, z_weirlaw15_Op.N⟩ : weirlaw15_Op) Ty36 rfl (Filled.cons (cd := (cI .i64)) (q := 5) (o := 0) (by kernel_rfl) (Up_weirlaw15_Op_Kind z_weirlaw15_Op 5) Filled.nil) ?_
        refine OJ.build (d := 22) (T := 36) (parts := [(0, .const (.int .i64 6))]) (ps := [(0, (cI .i64).val 6)]) (cd := c_weirlaw15_Op) (z0 := z_weirlaw15_Op) (⟨6, z_weirlaw15_Op.Two, z_weirlaw15_Op.Port, z_weirlaw15_Op.IP, z_weirlaw15_Op.Mac, z_weirlaw15_Op.N⟩ : weirlaw15_Op) Ty36 rfl (Filled.cons (cd := (cI .i64)) (q := 6) (o := 0) (by kernel_rfl) (Up_weirlaw15_Op_Kind z_weirlaw15_Op 6) Filled.nil) ?_
        refine OJ.build (d := 23) (T := 117) (parts := [(0, .tmp 13), (1, .tmp 14), (2, .tmp 15), (3, .tmp 18), (4, .tmp 20), (5, .tmp 21), (6, .tmp 22)]) (ps := [(0, c_weirlaw15_Op.val (⟨1, z_weirlaw15_Op.Two, z_weirlaw15_Op.Port, r48, z_weirlaw15_Op.Mac, 7⟩ : weirlaw15_Op)), (1, c_weirlaw15_Op.val (⟨3, z_weirlaw15_Op.Two, z_weirlaw15_Op.Port, z_weirlaw15_Op.IP, z_weirlaw15_Op.Mac, z_weirlaw15_Op.N⟩ : weirlaw15_Op)), (2, c_weirlaw15_Op.val (⟨3, z_weirlaw15_Op.Two, z_weirlaw15_Op.Port, z_weirlaw15_Op.IP, z_weirlaw15_Op.Mac, z_weirlaw15_Op.N⟩ : weirlaw15_Op)), (3, c_weirlaw15_Op.val (⟨2, z_weirlaw15_Op.Two, z_weirlaw15_Op.Port, r49, (⟨[2, 0, 0, 0, 0, 1], rfl⟩ : (Vec Int 6)), 1⟩ : weirlaw15_Op)), (4, c_weirlaw15_Op.val (⟨1, z_weirlaw15_Op.Two, z_weirlaw15_Op.Port, r51, z_weirlaw15_Op.Mac, 8⟩ : weirlaw15_Op)), (5, c_weirlaw15_Op.val (⟨5, z_weirlaw15_Op.Two, z_weirlaw15_Op.Port, z_weirlaw15_Op.IP, z_weirlaw15_Op.Mac, z_weirlaw15_Op.N⟩ : weirlaw15_Op)), (6, c_weirlaw15_Op.val (⟨6, z_weirlaw15_Op.Two, z_weirlaw15_Op.Port, z_weirlaw15_Op.IP, z_weirlaw15_Op.Mac, z_weirlaw15_Op.N⟩ : weirlaw15_Op))]) (cd := (c_weirlaw15_Op.arr 7)) (z0 := (Vec.rep 7 z_weirlaw15_Op)) (⟨[(⟨1, z_weirlaw15_Op.Two, z_weirlaw15_Op.Port, r48, z_weirlaw15_Op.Mac, 7⟩ : weirlaw15_Op), (⟨3, z_weirlaw15_Op.Two, z_weirlaw15_Op.Port, z_weirlaw15_Op.IP, z_weirlaw15_Op.Mac, z_weirlaw15_Op.N⟩ : weirlaw15_Op), (⟨3, z_weirlaw15_Op.Two, z_weirlaw15_Op.Port, z_weirlaw15_Op.IP, z_weirlaw15_Op.Mac, z_weirlaw15_Op.N⟩ : weirlaw15_Op), (⟨2, z_weirlaw15_Op.Two, z_weirlaw15_Op.Port, r49, (⟨[2, 0, 0, 0, 0, 1], rfl⟩ : (Vec Int 6)), 1⟩ : weirlaw15_Op), (⟨1, z_weirlaw15_Op.Two, z_weirlaw15_Op.Port, r51, z_weirlaw15_Op.Mac, 8⟩ : weirlaw15_Op), (⟨5, z_weirlaw15_Op.Two, z_weirlaw15_Op.Port, z_weirlaw15_Op.IP, z_weirlaw15_Op.Mac, z_weirlaw15_Op.N⟩ : weirlaw15_Op), (⟨6, z_weirlaw15_Op.Two, z_weirlaw15_Op.Port, z_weirlaw15_Op.IP, z_weirlaw15_Op.Mac, z_weirlaw15_Op.N⟩ : weirlaw15_Op)], rfl⟩ : (Vec weirlaw15_Op 7)) Ty117 rfl (Filled.cons (cd := c_weirlaw15_Op) (q := (⟨1, z_weirlaw15_Op.Two, z_weirlaw15_Op.Port, r48, z_weirlaw15_Op.Mac, 7⟩ : weirlaw15_Op)) (o := 0) (by kernel_rfl) (Upd.arr (i := 0) (by decide) (by decide)) (Filled.cons (cd := c_weirlaw15_Op) (q := (⟨3, z_weirlaw15_Op.Two, z_weirlaw15_Op.Port, z_weirlaw15_Op.IP, z_weirlaw15_Op.Mac, z_weirlaw15_Op.N⟩ : weirlaw15_Op)) (o := 27) (by kernel_rfl) (Upd.arr (i := 1) (by decide) (by decide)) (Filled.cons (cd := c_weirlaw15_Op) (q := (⟨3, z_weirlaw15_Op.Two, z_weirlaw15_Op.Port, z_weirlaw15_Op.IP, z_weirlaw15_Op.Mac, z_weirlaw15_Op.N⟩ : weirlaw15_Op)) (o := 54) (by kernel_rfl) (Upd.arr (i := 2) (by decide) (by decide)) (Filled.cons (cd := c_weirlaw15_Op) (q := (⟨2, z_weirlaw15_Op.Two, z_weirlaw15_Op.Port, r49, (⟨[2, 0, 0, 0, 0, 1], rfl⟩ : (Vec Int 6)), 1⟩ : weirlaw15_Op)) (o := 81) (by kernel_rfl) (Upd.arr (i := 3) (by decide) (by decide)) (Filled.cons (cd := c_weirlaw15_Op) (q := (⟨1, z_weirlaw15_Op.Two, z_weirlaw15_Op.Port, r51, z_weirlaw15_Op.Mac, 8⟩ : weirlaw15_Op)) (o := 108) (by kernel_rfl) (Upd.arr (i := 4) (by decide) (by decide)) (Filled.cons (cd := c_weirlaw15_Op) (q := (⟨5, z_weirlaw15_Op.Two, z_weirlaw15_Op.Port, z_weirlaw15_Op.IP, z_weirlaw15_Op.Mac, z_weirlaw15_Op.N⟩ : weirlaw15_Op)) (o := 135) (by kernel_rfl) (Upd.arr (i := 5) (by decide) (by decide)) (Filled.cons (cd := c_weirlaw15_Op) (q := (⟨6, z_weirlaw15_Op.Two, z_weirlaw15_Op.Port, z_weirlaw15_Op.IP, z_weirlaw15_Op.Mac, z_weirlaw15_Op.N⟩ : weirlaw15_Op)) (o := 162) (by kernel_rfl) (Upd.arr (i := 6) (by decide) (by decide)) Filled.nil))))))) ?_
        refine OJ.kst (y := .tmp 4) (z := .tmp 23) (cd := (c_weirlaw15_Op.arr 7)) (u := (⟨[(⟨1, z_weirlaw15_Op.Two, z_weirlaw15_Op.Port, r48, z_weirlaw15_Op.Mac, 7⟩ : weirlaw15_Op), (⟨3, z_weirlaw15_Op.Two, z_weirlaw15_Op.Port, z_weirlaw15_Op.IP, z_weirlaw15_Op.Mac, z_weirlaw15_Op.N⟩ : weirlaw15_Op), (⟨3, z_weirlaw15_Op.Two, z_weirlaw15_Op.Port, z_weirlaw15_Op.IP, z_weirlaw15_Op.Mac, z_weirlaw15_Op.N⟩ : weirlaw15_Op), (⟨2, z_weirlaw15_Op.Two, z_weirlaw15_Op.Port, r49, (⟨[2, 0, 0, 0, 0, 1], rfl⟩ : (Vec Int 6)), 1⟩ : weirlaw15_Op), (⟨1, z_weirlaw15_Op.Two, z_weirlaw15_Op.Port, r51, z_weirlaw15_Op.Mac, 8⟩ : weirlaw15_Op), (⟨5, z_weirlaw15_Op.Two, z_weirlaw15_Op.Port, z_weirlaw15_Op.IP, z_weirlaw15_Op.Mac, z_weirlaw15_Op.N⟩ : weirlaw15_Op), (⟨6, z_weirlaw15_Op.Two, z_weirlaw15_Op.Port, z_weirlaw15_Op.IP, z_weirlaw15_Op.Mac, z_weirlaw15_Op.N⟩ : weirlaw15_Op)], rfl⟩ : (Vec weirlaw15_Op 7))) (j := 0) (b := b50) (o := 0) ((c_weirlaw15_Op.arr 7).enc (⟨[(⟨1, z_weirlaw15_Op.Two, z_weirlaw15_Op.Port, r48, z_weirlaw15_Op.Mac, 7⟩ : weirlaw15_Op), (⟨3, z_weirlaw15_Op.Two, z_weirlaw15_Op.Port, z_weirlaw15_Op.IP, z_weirlaw15_Op.Mac, z_weirlaw15_Op.N⟩ : weirlaw15_Op), (⟨3, z_weirlaw15_Op.Two, z_weirlaw15_Op.Port, z_weirlaw15_Op.IP, z_weirlaw15_Op.Mac, z_weirlaw15_Op.N⟩ : weirlaw15_Op), (⟨2, z_weirlaw15_Op.Two, z_weirlaw15_Op.Port, r49, (⟨[2, 0, 0, 0, 0, 1], rfl⟩ : (Vec Int 6)), 1⟩ : weirlaw15_Op), (⟨1, z_weirlaw15_Op.Two, z_weirlaw15_Op.Port, r51, z_weirlaw15_Op.Mac, 8⟩ : weirlaw15_Op), (⟨5, z_weirlaw15_Op.Two, z_weirlaw15_Op.Port, z_weirlaw15_Op.IP, z_weirlaw15_Op.Mac, z_weirlaw15_Op.N⟩ : weirlaw15_Op), (⟨6, z_weirlaw15_Op.Two, z_weirlaw15_Op.Port, z_weirlaw15_Op.IP, z_weirlaw15_Op.Mac, z_weirlaw15_Op.N⟩ : weirlaw15_Op)], rfl⟩ : (Vec weirlaw15_Op 7))) (owed := []) Ty117 rfl (Upd.whole ((Cod.len _ _).trans (Cod.len _ _).symm)) rfl ?_
        refine OW.nil ?_
        refine OJ.nil ?_
        refine SJ.forget (List.Sublist.cons_cons _ (List.Sublist.cons _ (List.Sublist.cons_cons _ List.Sublist.slnil))) ?_
        refine SJ.less [1, 2, 4] (m' := [(1, .pointer (some (pt b2 0))), (2, .bool r1.2), (4, .pointer (some (pt b50 0)))]) ?_
        exact weirlaw15_started.K2_ok r1 b2 b50 (⟨[(⟨1, z_weirlaw15_Op.Two, z_weirlaw15_Op.Port, r48, z_weirlaw15_Op.Mac, 7⟩ : weirlaw15_Op), (⟨3, z_weirlaw15_Op.Two, z_weirlaw15_Op.Port, z_weirlaw15_Op.IP, z_weirlaw15_Op.Mac, z_weirlaw15_Op.N⟩ : weirlaw15_Op), (⟨3, z_weirlaw15_Op.Two, z_weirlaw15_Op.Port, z_weirlaw15_Op.IP, z_weirlaw15_Op.Mac, z_weirlaw15_Op.N⟩ : weirlaw15_Op), (⟨2, z_weirlaw15_Op.Two, z_weirlaw15_Op.Port, r49, (⟨[2, 0, 0, 0, 0, 1], rfl⟩ : (Vec Int 6)), 1⟩ : weirlaw15_Op), (⟨1, z_weirlaw15_Op.Two, z_weirlaw15_Op.Port, r51, z_weirlaw15_Op.Mac, 8⟩ : weirlaw15_Op), (⟨5, z_weirlaw15_Op.Two, z_weirlaw15_Op.Port, z_weirlaw15_Op.IP, z_weirlaw15_Op.Mac, z_weirlaw15_Op.N⟩ : weirlaw15_Op), (⟨6, z_weirlaw15_Op.Two, z_weirlaw15_Op.Port, z_weirlaw15_Op.IP, z_weirlaw15_Op.Mac, z_weirlaw15_Op.N⟩ : weirlaw15_Op)], rfl⟩ : (Vec weirlaw15_Op 7))
    · refine SJ.leaf hg_ (kd := [2, 0, 0, 0, 2, 1, 0, 2, 0, 0, 0, 0, 2, 2]) (bef := [0, 1, 0, 0, 1, 0, 49, 17, 145, 0, 0, 2047, 0, 8191]) (ord := [5, 0, 1, 2, 3, 12, 4, 6, 7, 8, 9, 10, 11, 13]) (E := [(0, 12), (12, 4), (12, 7)]) (allB.cons ho41 (allB.cons ho42 (allB.cons (bfr_trans ho42 (hg_.dep' _ (x := 4) (y := 7) (by kernel_rfl))) allB.nil))) ?_
      refine OJ.kld (d := 17) (y := .tmp 3) (cd := ((cI .u8).arr 6)) (j := 0) (b := b3) (o := 0) (⟨[2, 0, 0, 0, 0, 1], rfl⟩ : (Vec Int 6)) (pend2 := [⟨5, 34, (pt b3 0), ((cI .u8).arr 6).val (⟨[2, 0, 0, 0, 0, 1], rfl⟩ : (Vec Int 6))⟩]) Ty34 rfl (At.whole _) rfl ?_
      refine OJ.call (d := 12) (g := 45) (ats := #[5]) (args := [.const (.int .u8 1)]) (owed := [⟨5, 34, (pt b3 0), ((cI .u8).arr 6).val (⟨[2, 0, 0, 0, 0, 1], rfl⟩ : (Vec Int 6))⟩]) F45 (weirlaw15_ip_ok 1) (fun r52 => ?_)
      refine OW.known (j := 0) (q := (⟨[2, 0, 0, 0, 0, 1], rfl⟩ : (Vec Int 6))) Ty34 rfl (At.whole _) ?_
      refine OW.nil ?_
      refine OJ.build (d := 13) (T := 36) (parts := [(0, .const (.int .i64 1)), (3, .tmp 12), (5, .const (.int .i64 7))]) (ps := [(0, (cI .i64).val 1), (3, c_api_IP.val r52), (5, (cI .i64).val 7)]) (cd := c_weirlaw15_Op) (z0 := z_weirlaw15_Op) (⟨1, z_weirlaw15_Op.Two, z_weirlaw15_Op.Port, r52, z_weirlaw15_Op.Mac, 7⟩ : weirlaw15_Op) Ty36 rfl (Filled.cons (cd := (cI .i64)) (q := 1) (o := 0) (by kernel_rfl) (Up_weirlaw15_Op_Kind z_weirlaw15_Op 1) (Filled.cons (cd := c_api_IP) (q := r52) (o := 3) (by kernel_rfl) (Up_weirlaw15_Op_IP (⟨1, z_weirlaw15_Op.Two, z_weirlaw15_Op.Port, z_weirlaw15_Op.IP, z_weirlaw15_Op.Mac, z_weirlaw15_Op.N⟩ : weirlaw15_Op) r52) (Filled.cons (cd := (cI .i64)) (q := 7) (o := 26) (by kernel_rfl) (Up_weirlaw15_Op_N (⟨1, z_weirlaw15_Op.Two, z_weirlaw15_Op.Port, r52, z_weirlaw15_Op.Mac, z_weirlaw15_Op.N⟩ : weirlaw15_Op) 7) Filled.nil))) ?_
      refine OJ.build (d := 14) (T := 36) (parts := [(0, .const (.int .i64 3))]) (ps := [(0, (cI .i64).val 3)]) (cd := c_weirlaw15_Op) (z0 := z_weirlaw15_Op) (⟨3, z_weirlaw15_Op.Two, z_weirlaw15_Op.Port, z_weirlaw15_Op.IP, z_weirlaw15_Op.Mac, z_weirlaw15_Op.N⟩ : weirlaw15_Op) Ty36 rfl (Filled.cons (cd := (cI .i64)) (q := 3) (o := 0) (by kernel_rfl) (Up_weirlaw15_Op_Kind z_weirlaw15_Op 3) Filled.nil) ?_
      refine OJ.build (d := 15) (T := 36) (parts := [(0, .const (.int .i64 3))]) (ps := [(0, (cI .i64).val 3)]) (cd := c_weirlaw15_Op) (z0 := z_weirlaw15_Op) (⟨3, z_weirlaw15_Op.Two, z_weirlaw15_Op.Port, z_weirlaw15_Op.IP, z_weirlaw15_Op.Mac, z_weirlaw15_Op.N⟩ : weirlaw15_Op) Ty36 rfl (Filled.cons (cd := (cI .i64)) (q := 3) (o := 0) (by kernel_rfl) (Up_weirlaw15_Op_Kind z_weirlaw15_Op 3) Filled.nil) ?_
      refine OJ.slotOf (d := 4) (op := (.alloc 117)) (cd := (c_weirlaw15_Op.arr 7)) (u := (Vec.rep 7 z_weirlaw15_Op)) (owed := [⟨5, 34, (pt b3 0), ((cI .u8).arr 6).val (⟨[2, 0, 0, 0, 0, 1], rfl⟩ : (Vec Int 6))⟩]) (alloc_run Ty117) (fun b53 => ?_)
      refine OW.known (j := 1) (q := (⟨[2, 0, 0, 0, 0, 1], rfl⟩ : (Vec Int 6))) Ty34 rfl (At.whole _) ?_
      refine OW.nil ?_
      refine OJ.call (d := 16) (g := 45) (ats := #[5]) (args := [.const (.int .u8 1)]) (owed := [⟨5, 34, (pt b3 0), ((cI .u8).arr 6).val (⟨[2, 0, 0, 0, 0, 1], rfl⟩ : (Vec Int 6))⟩]) F45 (weirlaw15_ip_ok 1) (fun r54 => ?_)
      refine OW.known (j := 1) (q := (⟨[2, 0, 0, 0, 0, 1], rfl⟩ : (Vec Int 6))) Ty34 rfl (At.whole _) ?_
      refine OW.nil ?_
      refine OJ.build (d := 18) (T := 36) (parts := [(0, .const (.int .i64 2)), (3, .tmp 16), (4, .tmp 17), (5, .const (.int .i64 1))]) (ps := [(0, (cI .i64).val 2), (3, c_api_IP.val r54), (4, ((cI .u8).arr 6).val (⟨[2, 0, 0, 0, 0, 1], rfl⟩ : (Vec Int 6))), (5, (cI .i64).val 1)]) (cd := c_weirlaw15_Op) (z0 := z_weirlaw15_Op) (⟨2, z_weirlaw15_Op.Two, z_weirlaw15_Op.Port, r54, (⟨[2, 0, 0, 0, 0, 1], rfl⟩ : (Vec Int 6)), 1⟩ : weirlaw15_Op) Ty36 rfl (Filled.cons (cd := (cI .i64)) (q := 2) (o := 0) (by kernel_rfl) (Up_weirlaw15_Op_Kind z_weirlaw15_Op 2) (Filled.cons (cd := c_api_IP) (q := r54) (o := 3) (by kernel_rfl) (Up_weirlaw15_Op_IP (⟨2, z_weirlaw15_Op.Two, z_weirlaw15_Op.Port, z_weirlaw15_Op.IP, z_weirlaw15_Op.Mac, z_weirlaw15_Op.N⟩ : weirlaw15_Op) r54) (Filled.cons (cd := ((cI .u8).arr 6)) (q := (⟨[2, 0, 0, 0, 0, 1], rfl⟩ : (Vec Int 6))) (o := 20) (by kernel_rfl) (Up_weirlaw15_Op_Mac (⟨2, z_weirlaw15_Op.Two, z_weirlaw15_Op.Port, r54, z_weirlaw15_Op.Mac, z_weirlaw15_Op.N⟩ : weirlaw15_Op) (⟨[2, 0, 0, 0, 0, 1], rfl⟩ : (Vec Int 6))) (Filled.cons (cd := (cI .i64)) (q := 1) (o := 26) (by kernel_rfl) (Up_weirlaw15_Op_N (⟨2, z_weirlaw15_Op.Two, z_weirlaw15_Op.Port, r54, (⟨[2, 0, 0, 0, 0, 1], rfl⟩ : (Vec Int 6)), z_weirlaw15_Op.N⟩ : weirlaw15_Op) 1) Filled.nil)))) ?_
      refine OJ.call (d := 19) (g := 45) (ats := #[5]) (args := [.const (.int .u8 1)]) (owed := [⟨5, 34, (pt b3 0), ((cI .u8).arr 6).val (⟨[2, 0, 0, 0, 0, 1], rfl⟩ : (Vec Int 6))⟩]) F45 (weirlaw15_ip_ok 1) (fun r55 => ?_)
      refine OW.known (j := 1) (q := (⟨[2, 0, 0, 0, 0, 1], rfl⟩ : (Vec Int 6))) Ty34 rfl (At.whole _) ?_
      refine OW.nil ?_
      refine OJ.build (d := 20) (T := 36) (parts := [(0, .const (.int .i64 1)), (3, .tmp 19), (5, .const (.int .i64 8))]) (ps := [(0, (cI .i64).val 1), (3, c_api_IP.val r55), (5, (cI .i64).val 8)]) (cd := c_weirlaw15_Op) (z0 := z_weirlaw15_Op) (⟨1, z_weirlaw15_Op.Two, z_weirlaw15_Op.Port, r55, z_weirlaw15_Op.Mac, 8⟩ : weirlaw15_Op) Ty36 rfl (Filled.cons (cd := (cI .i64)) (q := 1) (o := 0) (by kernel_rfl) (Up_weirlaw15_Op_Kind z_weirlaw15_Op 1) (Filled.cons (cd := c_api_IP) (q := r55) (o := 3) (by kernel_rfl) (Up_weirlaw15_Op_IP (⟨1, z_weirlaw15_Op.Two, z_weirlaw15_Op.Port, z_weirlaw15_Op.IP, z_weirlaw15_Op.Mac, z_weirlaw15_Op.N⟩ : weirlaw15_Op) r55) (Filled.cons (cd := (cI .i64)) (q := 8) (o := 26) (by kernel_rfl) (Up_weirlaw15_Op_N (⟨1, z_weirlaw15_Op.Two, z_weirlaw15_Op.Port, r55, z_weirlaw15_Op.Mac, z_weirlaw15_Op.N⟩ : weirlaw15_Op) 8) Filled.nil))) ?_
      refine OJ.build (d := 21) (T := 36) (parts := [(0, .const (.int .i64 5))]) (ps := [(0, (cI .i64).val 5)]) (cd := c_weirlaw15_Op) (z0 := z_weirlaw15_Op) (⟨5, z_weirlaw15_Op.Two, z_weirlaw15_Op.Port, z_weirlaw15_Op.IP, z_weirlaw15_Op.Mac, z_weirlaw15_Op.N⟩ : weirlaw15_Op) Ty36 rfl (Filled.cons (cd := (cI .i64)) (q := 5) (o := 0) (by kernel_rfl) (Up_weirlaw15_Op_Kind z_weirlaw15_Op 5) Filled.nil) ?_
      refine OJ.build (d := 22) (T := 36) (parts := [(0, .const (.int .i64 6))]) (ps := [(0, (cI .i64).val 6)]) (cd := c_weirlaw15_Op) (z0 := z_weirlaw15_Op) (⟨6, z_weirlaw15_Op.Two, z_weirlaw15_Op.Port, z_weirlaw15_Op.IP, z_weirlaw15_Op.Mac, z_weirlaw15_Op.N⟩ : weirlaw15_Op) Ty36 rfl (Filled.cons (cd := (cI .i64)) (q := 6) (o := 0) (by kernel_rfl) (Up_weirlaw15_Op_Kind z_weirlaw15_Op 6) Filled.nil) ?_
      refine OJ.build (d := 23) (T := 117) (parts := [(0, .tmp 13), (1, .tmp 14), (2, .tmp 15), (3, .tmp 18), (4, .tmp 20), (5, .tmp 21), (6, .tmp 22)]) (ps := [(0, c_weirlaw15_Op.val (⟨1, z_weirlaw15_Op.Two, z_weirlaw15_Op.Port, r52, z_weirlaw15_Op.Mac, 7⟩ : weirlaw15_Op)), (1, c_weirlaw15_Op.val (⟨3, z_weirlaw15_Op.Two, z_weirlaw15_Op.Port, z_weirlaw15_Op.IP, z_weirlaw15_Op.Mac, z_weirlaw15_Op.N⟩ : weirlaw15_Op)), (2, c_weirlaw15_Op.val (⟨3, z_weirlaw15_Op.Two, z_weirlaw15_Op.Port, z_weirlaw15_Op.IP, z_weirlaw15_Op.Mac, z_weirlaw15_Op.N⟩ : weirlaw15_Op)), (3, c_weirlaw15_Op.val (⟨2, z_weirlaw15_Op.Two, z_weirlaw15_Op.Port, r54, (⟨[2, 0, 0, 0, 0, 1], rfl⟩ : (Vec Int 6)), 1⟩ : weirlaw15_Op)), (4, c_weirlaw15_Op.val (⟨1, z_weirlaw15_Op.Two, z_weirlaw15_Op.Port, r55, z_weirlaw15_Op.Mac, 8⟩ : weirlaw15_Op)), (5, c_weirlaw15_Op.val (⟨5, z_weirlaw15_Op.Two, z_weirlaw15_Op.Port, z_weirlaw15_Op.IP, z_weirlaw15_Op.Mac, z_weirlaw15_Op.N⟩ : weirlaw15_Op)), (6, c_weirlaw15_Op.val (⟨6, z_weirlaw15_Op.Two, z_weirlaw15_Op.Port, z_weirlaw15_Op.IP, z_weirlaw15_Op.Mac, z_weirlaw15_Op.N⟩ : weirlaw15_Op))]) (cd := (c_weirlaw15_Op.arr 7)) (z0 := (Vec.rep 7 z_weirlaw15_Op)) (⟨[(⟨1, z_weirlaw15_Op.Two, z_weirlaw15_Op.Port, r52, z_weirlaw15_Op.Mac, 7⟩ : weirlaw15_Op), (⟨3, z_weirlaw15_Op.Two, z_weirlaw15_Op.Port, z_weirlaw15_Op.IP, z_weirlaw15_Op.Mac, z_weirlaw15_Op.N⟩ : weirlaw15_Op), (⟨3, z_weirlaw15_Op.Two, z_weirlaw15_Op.Port, z_weirlaw15_Op.IP, z_weirlaw15_Op.Mac, z_weirlaw15_Op.N⟩ : weirlaw15_Op), (⟨2, z_weirlaw15_Op.Two, z_weirlaw15_Op.Port, r54, (⟨[2, 0, 0, 0, 0, 1], rfl⟩ : (Vec Int 6)), 1⟩ : weirlaw15_Op), (⟨1, z_weirlaw15_Op.Two, z_weirlaw15_Op.Port, r55, z_weirlaw15_Op.Mac, 8⟩ : weirlaw15_Op), (⟨5, z_weirlaw15_Op.Two, z_weirlaw15_Op.Port, z_weirlaw15_Op.IP, z_weirlaw15_Op.Mac, z_weirlaw15_Op.N⟩ : weirlaw15_Op), (⟨6, z_weirlaw15_Op.Two, z_weirlaw15_Op.Port, z_weirlaw15_Op.IP, z_weirlaw15_Op.Mac, z_weirlaw15_Op.N⟩ : weirlaw15_Op)], rfl⟩ : (Vec weirlaw15_Op 7)) Ty117 rfl (Filled.cons (cd := c_weirlaw15_Op) (q := (⟨1, z_weirlaw15_Op.Two, z_weirlaw15_Op.Port, r52, z_weirlaw15_Op.Mac, 7⟩ : weirlaw15_Op)) (o := 0) (by kernel_rfl) (Upd.arr (i := 0) (by decide) (by decide)) (Filled.cons (cd := c_weirlaw15_Op) (q := (⟨3, z_weirlaw15_Op.Two, z_weirlaw15_Op.Port, z_weirlaw15_Op.IP, z_weirlaw15_Op.Mac, z_weirlaw15_Op.N⟩ : weirlaw15_Op)) (o := 27) (by kernel_rfl) (Upd.arr (i := 1) (by decide) (by decide)) (Filled.cons (cd := c_weirlaw15_Op) (q := (⟨3, z_weirlaw15_Op.Two, z_weirlaw15_Op.Port, z_weirlaw15_Op.IP, z_weirlaw15_Op.Mac, z_weirlaw15_Op.N⟩ : weirlaw15_Op)) (o := 54) (by kernel_rfl) (Upd.arr (i := 2) (by decide) (by decide)) (Filled.cons (cd := c_weirlaw15_Op) (q := (⟨2, z_weirlaw15_Op.Two, z_weirlaw15_Op.Port, r54, (⟨[2, 0, 0, 0, 0, 1], rfl⟩ : (Vec Int 6)), 1⟩ : weirlaw15_Op)) (o := 81) (by kernel_rfl) (Upd.arr (i := 3) (by decide) (by decide)) (Filled.cons (cd := c_weirlaw15_Op) (q := (⟨1, z_weirlaw15_Op.Two, z_weirlaw15_Op.Port, r55, z_weirlaw15_Op.Mac, 8⟩ : weirlaw15_Op)) (o := 108) (by kernel_rfl) (Upd.arr (i := 4) (by decide) (by decide)) (Filled.cons (cd := c_weirlaw15_Op) (q := (⟨5, z_weirlaw15_Op.Two, z_weirlaw15_Op.Port, z_weirlaw15_Op.IP, z_weirlaw15_Op.Mac, z_weirlaw15_Op.N⟩ : weirlaw15_Op)) (o := 135) (by kernel_rfl) (Upd.arr (i := 5) (by decide) (by decide)) (Filled.cons (cd := c_weirlaw15_Op) (q := (⟨6, z_weirlaw15_Op.Two, z_weirlaw15_Op.Port, z_weirlaw15_Op.IP, z_weirlaw15_Op.Mac, z_weirlaw15_Op.N⟩ : weirlaw15_Op)) (o := 162) (by kernel_rfl) (Upd.arr (i := 6) (by decide) (by decide)) Filled.nil))))))) ?_
      refine OJ.kst (y := .tmp 4) (z := .tmp 23) (cd := (c_weirlaw15_Op.arr 7)) (u := (⟨[(⟨1, z_weirlaw15_Op.Two, z_weirlaw15_Op.Port, r52, z_weirlaw15_Op.Mac, 7⟩ : weirlaw15_Op), (⟨3, z_weirlaw15_Op.Two, z_weirlaw15_Op.Port, z_weirlaw15_Op.IP, z_weirlaw15_Op.Mac, z_weirlaw15_Op.N⟩ : weirlaw15_Op), (⟨3, z_weirlaw15_Op.Two, z_weirlaw15_Op.Port, z_weirlaw15_Op.IP, z_weirlaw15_Op.Mac, z_weirlaw15_Op.N⟩ : weirlaw15_Op), (⟨2, z_weirlaw15_Op.Two, z_weirlaw15_Op.Port, r54, (⟨[2, 0, 0, 0, 0, 1], rfl⟩ : (Vec Int 6)), 1⟩ : weirlaw15_Op), (⟨1, z_weirlaw15_Op.Two, z_weirlaw15_Op.Port, r55, z_weirlaw15_Op.Mac, 8⟩ : weirlaw15_Op), (⟨5, z_weirlaw15_Op.Two, z_weirlaw15_Op.Port, z_weirlaw15_Op.IP, z_weirlaw15_Op.Mac, z_weirlaw15_Op.N⟩ : weirlaw15_Op), (⟨6, z_weirlaw15_Op.Two, z_weirlaw15_Op.Port, z_weirlaw15_Op.IP, z_weirlaw15_Op.Mac, z_weirlaw15_Op.N⟩ : weirlaw15_Op)], rfl⟩ : (Vec weirlaw15_Op 7))) (j := 0) (b := b53) (o := 0) ((c_weirlaw15_Op.arr 7).enc (⟨[(⟨1, z_weirlaw15_Op.Two, z_weirlaw15_Op.Port, r52, z_weirlaw15_Op.Mac, 7⟩ : weirlaw15_Op), (⟨3, z_weirlaw15_Op.Two, z_weirlaw15_Op.Port, z_weirlaw15_Op.IP, z_weirlaw15_Op.Mac, z_weirlaw15_Op.N⟩ : weirlaw15_Op), (⟨3, z_weirlaw15_Op.Two, z_weirlaw15_Op.Port, z_weirlaw15_Op.IP, z_weirlaw15_Op.Mac, z_weirlaw15_Op.N⟩ : weirlaw15_Op), (⟨2, z_weirlaw15_Op.Two, z_weirlaw15_Op.Port, r54, (⟨[2, 0, 0, 0, 0, 1], rfl⟩ : (Vec Int 6)), 1⟩ : weirlaw15_Op), (⟨1, z_weirlaw15_Op.Two, z_weirlaw15_Op.Port, r55, z_weirlaw15_Op.Mac, 8⟩ : weirlaw15_Op), (⟨5, z_weirlaw15_Op.Two, z_weirlaw15_Op.Port, z_weirlaw15_Op.IP, z_weirlaw15_Op.Mac, z_weirlaw15_Op.N⟩ : weirlaw15_Op), (⟨6, z_weirlaw15_Op.Two, z_weirlaw15_Op.Port, z_weirlaw15_Op.IP, z_weirlaw15_Op.Mac, z_weirlaw15_Op.N⟩ : weirlaw15_Op)], rfl⟩ : (Vec weirlaw15_Op 7))) (owed := []) Ty117 rfl (Upd.whole ((Cod.len _ _).trans (Cod.len _ _).symm)) rfl ?_
      refine OW.nil ?_
      refine OJ.nil ?_
      refine SJ.forget (List.Sublist.cons_cons _ (List.Sublist.cons _ (List.Sublist.cons_cons _ List.Sublist.slnil))) ?_
      refine SJ.less [1, 2, 4] (m' := [(1, .pointer (some (pt b2 0))), (2, .bool r1.2), (4, .pointer (some (pt b53 0)))]) ?_
      exact weirlaw15_started.K2_ok r1 b2 b53 (⟨[(⟨1, z_weirlaw15_Op.Two, z_weirlaw15_Op.Port, r52, z_weirlaw15_Op.Mac, 7⟩ : weirlaw15_Op), (⟨3, z_weirlaw15_Op.Two, z_weirlaw15_Op.Port, z_weirlaw15_Op.IP, z_weirlaw15_Op.Mac, z_weirlaw15_Op.N⟩ : weirlaw15_Op), (⟨3, z_weirlaw15_Op.Two, z_weirlaw15_Op.Port, z_weirlaw15_Op.IP, z_weirlaw15_Op.Mac, z_weirlaw15_Op.N⟩ : weirlaw15_Op), (⟨2, z_weirlaw15_Op.Two, z_weirlaw15_Op.Port, r54, (⟨[2, 0, 0, 0, 0, 1], rfl⟩ : (Vec Int 6)), 1⟩ : weirlaw15_Op), (⟨1, z_weirlaw15_Op.Two, z_weirlaw15_Op.Port, r55, z_weirlaw15_Op.Mac, 8⟩ : weirlaw15_Op), (⟨5, z_weirlaw15_Op.Two, z_weirlaw15_Op.Port, z_weirlaw15_Op.IP, z_weirlaw15_Op.Mac, z_weirlaw15_Op.N⟩ : weirlaw15_Op), (⟨6, z_weirlaw15_Op.Two, z_weirlaw15_Op.Port, z_weirlaw15_Op.IP, z_weirlaw15_Op.Mac, z_weirlaw15_Op.N⟩ : weirlaw15_Op)], rfl⟩ : (Vec weirlaw15_Op 7))
  · refine SJ.leaf hg_ (kd := [2, 0, 0, 0, 2, 1, 0, 2, 0, 0, 0, 0, 2, 2]) (bef := [0, 1, 0, 0, 1, 0, 49, 17, 145, 0, 0, 2047, 0, 8191]) (ord := [5, 12, 0, 1, 2, 3, 4, 6, 7, 8, 9, 10, 11, 13]) (E := [(12, 0), (12, 4), (12, 7)]) (allB.cons ho41 (allB.cons (bfr_trans ho41 (hg_.dep' _ (x := 0) (y := 4) (by kernel_rfl))) (allB.cons (bfr_trans (bfr_trans ho41 (hg_.dep' _ (x := 0) (y := 4) (by kernel_rfl))) (hg_.dep' _ (x := 4) (y := 7) (by kernel_rfl))) allB.nil))) ?_
    refine OJ.kld (d := 17) (y := .tmp 3) (cd := ((cI .u8).arr 6)) (j := 0) (b := b3) (o := 0) (⟨[2, 0, 0, 0, 0, 1], rfl⟩ : (Vec Int 6)) (pend2 := [⟨5, 34, (pt b3 0), ((cI .u8).arr 6).val (⟨[2, 0, 0, 0, 0, 1], rfl⟩ : (Vec Int 6))⟩]) Ty34 rfl (At.whole _) rfl ?_
    refine OJ.slotOf (d := 4) (op := (.alloc 117)) (cd := (c_weirlaw15_Op.arr 7)) (u := (Vec.rep 7 z_weirlaw15_Op)) (owed := [⟨5, 34, (pt b3 0), ((cI .u8).arr 6).val (⟨[2, 0, 0, 0, 0, 1], rfl⟩ : (Vec Int 6))⟩]) (alloc_run Ty117) (fun b56 => ?_)
    refine OW.known (j := 1) (q := (⟨[2, 0, 0, 0, 0, 1], rfl⟩ : (Vec Int 6))) Ty34 rfl (At.whole _) ?_
    refine OW.nil ?_
    refine OJ.call (d := 12) (g := 45) (ats := #[5]) (args := [.const (.int .u8 1)]) (owed := [⟨5, 34, (pt b3 0), ((cI .u8).arr 6).val (⟨[2, 0, 0, 0, 0, 1], rfl⟩ : (Vec Int 6))⟩]) F45 (weirlaw15_ip_ok 1) (fun r57 => ?_)
    refine OW.known (j := 1) (q := (⟨[2, 0, 0, 0, 0, 1], rfl⟩ : (Vec Int 6))) Ty34 rfl (At.whole _) ?_
    refine OW.nil ?_
    refine OJ.build (d := 13) (T := 36) (parts := [(0, .const (.int .i64 1)), (3, .tmp 12), (5, .const (.int .i64 7))]) (ps := [(0, (cI .i64).val 1), (3, c_api_IP.val r57), (5, (cI .i64).val 7)]) (cd := c_weirlaw15_Op) (z0 := z_weirlaw15_Op) (⟨1, z_weirlaw15_Op.Two, z_weirlaw15_Op.Port, r57, z_weirlaw15_Op.Mac, 7⟩ : weirlaw15_Op) Ty36 rfl (Filled.cons (cd := (cI .i64)) (q := 1) (o := 0) (by kernel_rfl) (Up_weirlaw15_Op_Kind z_weirlaw15_Op 1) (Filled.cons (cd := c_api_IP) (q := r57) (o := 3) (by kernel_rfl) (Up_weirlaw15_Op_IP (⟨1, z_weirlaw15_Op.Two, z_weirlaw15_Op.Port, z_weirlaw15_Op.IP, z_weirlaw15_Op.Mac, z_weirlaw15_Op.N⟩ : weirlaw15_Op) r57) (Filled.cons (cd := (cI .i64)) (q := 7) (o := 26) (by kernel_rfl) (Up_weirlaw15_Op_N (⟨1, z_weirlaw15_Op.Two, z_weirlaw15_Op.Port, r57, z_weirlaw15_Op.Mac, z_weirlaw15_Op.N⟩ : weirlaw15_Op) 7) Filled.nil))) ?_
    refine OJ.build (d := 14) (T := 36) (parts := [(0, .const (.int .i64 3))]) (ps := [(0, (cI .i64).val 3)]) (cd := c_weirlaw15_Op) (z0 := z_weirlaw15_Op) (⟨3, z_weirlaw15_Op.Two, z_weirlaw15_Op.Port, z_weirlaw15_Op.IP, z_weirlaw15_Op.Mac, z_weirlaw15_Op.N⟩ : weirlaw15_Op) Ty36 rfl (Filled.cons (cd := (cI .i64)) (q := 3) (o := 0) (by kernel_rfl) (Up_weirlaw15_Op_Kind z_weirlaw15_Op 3) Filled.nil) ?_
    refine OJ.build (d := 15) (T := 36) (parts := [(0, .const (.int .i64 3))]) (ps := [(0, (cI .i64).val 3)]) (cd := c_weirlaw15_Op) (z0 := z_weirlaw15_Op) (⟨3, z_weirlaw15_Op.Two, z_weirlaw15_Op.Port, z_weirlaw15_Op.IP, z_weirlaw15_Op.Mac, z_weirlaw15_Op.N⟩ : weirlaw15_Op) Ty36 rfl (Filled.cons (cd := (cI .i64)) (q := 3) (o := 0) (by kernel_rfl) (Up_weirlaw15_Op_Kind z_weirlaw15_Op 3) Filled.nil) ?_
    refine OJ.call (d := 16) (g := 45) (ats := #[5]) (args := [.const (.int .u8 1)]) (owed := [⟨5, 34, (pt b3 0), ((cI .u8).arr 6).val (⟨[2, 0, 0, 0, 0, 1], rfl⟩ : (Vec Int 6))⟩]) F45 (weirlaw15_ip_ok 1) (fun r58 => ?_)
    refine OW.known (j := 1) (q := (⟨[2, 0, 0, 0, 0, 1], rfl⟩ : (Vec Int 6))) Ty34 rfl (At.whole _) ?_
    refine OW.nil ?_
    refine OJ.build (d := 18) (T := 36) (parts := [(0, .const (.int .i64 2)), (3, .tmp 16), (4, .tmp 17), (5, .const (.int .i64 1))]) (ps := [(0, (cI .i64).val 2), (3, c_api_IP.val r58), (4, ((cI .u8).arr 6).val (⟨[2, 0, 0, 0, 0, 1], rfl⟩ : (Vec Int 6))), (5, (cI .i64).val 1)]) (cd := c_weirlaw15_Op) (z0 := z_weirlaw15_Op) (⟨2, z_weirlaw15_Op.Two, z_weirlaw15_Op.Port, r58, (⟨[2, 0, 0, 0, 0, 1], rfl⟩ : (Vec Int 6)), 1⟩ : weirlaw15_Op) Ty36 rfl (Filled.cons (cd := (cI .i64)) (q := 2) (o := 0) (by kernel_rfl) (Up_weirlaw15_Op_Kind z_weirlaw15_Op 2) (Filled.cons (cd := c_api_IP) (q := r58) (o := 3) (by kernel_rfl) (Up_weirlaw15_Op_IP (⟨2, z_weirlaw15_Op.Two, z_weirlaw15_Op.Port, z_weirlaw15_Op.IP, z_weirlaw15_Op.Mac, z_weirlaw15_Op.N⟩ : weirlaw15_Op) r58) (Filled.cons (cd := ((cI .u8).arr 6)) (q := (⟨[2, 0, 0, 0, 0, 1], rfl⟩ : (Vec Int 6))) (o := 20) (by kernel_rfl) (Up_weirlaw15_Op_Mac (⟨2, z_weirlaw15_Op.Two, z_weirlaw15_Op.Port, r58, z_weirlaw15_Op.Mac, z_weirlaw15_Op.N⟩ : weirlaw15_Op) (⟨[2, 0, 0, 0, 0, 1], rfl⟩ : (Vec Int 6))) (Filled.cons (cd := (cI .i64)) (q := 1) (o := 26) (by kernel_rfl) (Up_weirlaw15_Op_N (⟨2, z_weirlaw15_Op.Two, z_weirlaw15_Op.Port, r58, (⟨[2, 0, 0, 0, 0, 1], rfl⟩ : (Vec Int 6)), z_weirlaw15_Op.N⟩ : weirlaw15_Op) 1) Filled.nil)))) ?_
    refine OJ.call (d := 19) (g := 45) (ats := #[5]) (args := [.const (.int .u8 1)]) (owed := [⟨5, 34, (pt b3 0), ((cI .u8).arr 6).val (⟨[2, 0, 0, 0, 0, 1], rfl⟩ : (Vec Int 6))⟩]) F45 (weirlaw15_ip_ok 1) (fun r59 => ?_)
    refine OW.known (j := 1) (q := (⟨[2, 0, 0, 0, 0, 1], rfl⟩ : (Vec Int 6))) Ty34 rfl (At.whole _) ?_
    refine OW.nil ?_
    refine OJ.build (d := 20) (T := 36) (parts := [(0, .const (.int .i64 1)), (3, .tmp 19), (5, .const (.int .i64 8))]) (ps := [(0, (cI .i64).val 1), (3, c_api_IP.val r59), (5, (cI .i64).val 8)]) (cd := c_weirlaw15_Op) (z0 := z_weirlaw15_Op) (⟨1, z_weirlaw15_Op.Two, z_weirlaw15_Op.Port, r59, z_weirlaw15_Op.Mac, 8⟩ : weirlaw15_Op) Ty36 rfl (Filled.cons (cd := (cI .i64)) (q := 1) (o := 0) (by kernel_rfl) (Up_weirlaw15_Op_Kind z_weirlaw15_Op 1) (Filled.cons (cd := c_api_IP) (q := r59) (o := 3) (by kernel_rfl) (Up_weirlaw15_Op_IP (⟨1, z_weirlaw15_Op.Two, z_weirlaw15_Op.Port, z_weirlaw15_Op.IP, z_weirlaw15_Op.Mac, z_weirlaw15_Op.N⟩ : weirlaw15_Op) r59) (Filled.cons (cd := (cI .i64)) (q := 8) (o := 26) (by kernel_rfl) (Up_weirlaw15_Op_N (⟨1, z_weirlaw15_Op.Two, z_weirlaw15_Op.Port, r59, z_weirlaw15_Op.Mac, z_weirlaw15_Op.N⟩ : weirlaw15_Op) 8) Filled.nil))) ?_
    refine OJ.build (d := 21) (T := 36) (parts := [(0, .const (.int .i64 5))]) (ps := [(0, (cI .i64).val 5)]) (cd := c_weirlaw15_Op) (z0 := z_weirlaw15_Op) (⟨5, z_weirlaw15_Op.Two, z_weirlaw15_Op.Port, z_weirlaw15_Op.IP, z_weirlaw15_Op.Mac, z_weirlaw15_Op.N⟩ : weirlaw15_Op) Ty36 rfl (Filled.cons (cd := (cI .i64)) (q := 5) (o := 0) (by kernel_rfl) (Up_weirlaw15_Op_Kind z_weirlaw15_Op 5) Filled.nil) ?_
    refine OJ.build (d := 22) (T := 36) (parts := [(0, .const (.int .i64 6))]) (ps := [(0, (cI .i64).val 6)]) (cd := c_weirlaw15_Op) (z0 := z_weirlaw15_Op) (⟨6, z_weirlaw15_Op.Two, z_weirlaw15_Op.Port, z_weirlaw15_Op.IP, z_weirlaw15_Op.Mac, z_weirlaw15_Op.N⟩ : weirlaw15_Op) Ty36 rfl (Filled.cons (cd := (cI .i64)) (q := 6) (o := 0) (by kernel_rfl) (Up_weirlaw15_Op_Kind z_weirlaw15_Op 6) Filled.nil) ?_
    refine OJ.build (d := 23) (T := 117) (parts := [(0, .tmp 13), (1, .tmp 14), (2, .tmp 15), (3, .tmp 18), (4, .tmp 20), (5, .tmp 21), (6, .tmp 22)]) (ps := [(0, c_weirlaw15_Op.val (⟨1, z_weirlaw15_Op.Two, z_weirlaw15_Op.Port, r57, z_weirlaw15_Op.Mac, 7⟩ : weirlaw15_Op)), (1, c_weirlaw15_Op.val (⟨3, z_weirlaw15_Op.Two, z_weirlaw15_Op.Port, z_weirlaw15_Op.IP, z_weirlaw15_Op.Mac, z_weirlaw15_Op.N⟩ : weirlaw15_Op)), (2, c_weirlaw15_Op.val (⟨3, z_weirlaw15_Op.Two, z_weirlaw15_Op.Port, z_weirlaw15_Op.IP, z_weirlaw15_Op.Mac, z_weirlaw15_Op.N⟩ : weirlaw15_Op)), (3, c_weirlaw15_Op.val (⟨2, z_weirlaw15_Op.Two, z_weirlaw15_Op.Port, r58, (⟨[2, 0, 0, 0, 0, 1], rfl⟩ : (Vec Int 6)), 1⟩ : weirlaw15_Op)), (4, c_weirlaw15_Op.val (⟨1, z_weirlaw15_Op.Two, z_weirlaw15_Op.Port, r59, z_weirlaw15_Op.Mac, 8⟩ : weirlaw15_Op)), (5, c_weirlaw15_Op.val (⟨5, z_weirlaw15_Op.Two, z_weirlaw15_Op.Port, z_weirlaw15_Op.IP, z_weirlaw15_Op.Mac, z_weirlaw15_Op.N⟩ : weirlaw15_Op)), (6, c_weirlaw15_Op.val (⟨6, z_weirlaw15_Op.Two, z_weirlaw15_Op.Port, z_weirlaw15_Op.IP, z_weirlaw15_Op.Mac, z_weirlaw15_Op.N⟩ : weirlaw15_Op))]) (cd := (c_weirlaw15_Op.arr 7)) (z0 := (Vec.rep 7 z_weirlaw15_Op)) (⟨[(⟨1, z_weirlaw15_Op.Two, z_weirlaw15_Op.Port, r57, z_weirlaw15_Op.Mac, 7⟩ : weirlaw15_Op), (⟨3, z_weirlaw15_Op.Two, z_weirlaw15_Op.Port, z_weirlaw15_Op.IP, z_weirlaw15_Op.Mac, z_weirlaw15_Op.N⟩ : weirlaw15_Op), (⟨3, z_weirlaw15_Op.Two, z_weirlaw15_Op.Port, z_weirlaw15_Op.IP, z_weirlaw15_Op.Mac, z_weirlaw15_Op.N⟩ : weirlaw15_Op), (⟨2, z_weirlaw15_Op.Two, z_weirlaw15_Op.Port, r58, (⟨[2, 0, 0, 0, 0, 1], rfl⟩ : (Vec Int 6)), 1⟩ : weirlaw15_Op), (⟨1, z_weirlaw15_Op.Two, z_weirlaw15_Op.Port, r59, z_weirlaw15_Op.Mac, 8⟩ : weirlaw15_Op), (⟨5, z_weirlaw15_Op.Two, z_weirlaw15_Op.Port, z_weirlaw15_Op.IP, z_weirlaw15_Op.Mac, z_weirlaw15_Op.N⟩ : weirlaw15_Op), (⟨6, z_weirlaw15_Op.Two, z_weirlaw15_Op.Port, z_weirlaw15_Op.IP, z_weirlaw15_Op.Mac, z_weirlaw15_Op.N⟩ : weirlaw15_Op)], rfl⟩ : (Vec weirlaw15_Op 7)) Ty117 rfl (Filled.cons (cd := c_weirlaw15_Op) (q := (⟨1, z_weirlaw15_Op.Two, z_weirlaw15_Op.Port, r57, z_weirlaw15_Op.Mac, 7⟩ : weirlaw15_Op)) (o := 0) (by kernel_rfl) (Upd.arr (i := 0) (by decide) (by decide)) (Filled.cons (cd := c_weirlaw15_Op) (q := (⟨3, z_weirlaw15_Op.Two, z_weirlaw15_Op.Port, z_weirlaw15_Op.IP, z_weirlaw15_Op.Mac, z_weirlaw15_Op.N⟩ : weirlaw15_Op)) (o := 27) (by kernel_rfl) (Upd.arr (i := 1) (by decide) (by decide)) (Filled.cons (cd := c_weirlaw15_Op) (q := (⟨3, z_weirlaw15_Op.Two, z_weirlaw15_Op.Port, z_weirlaw15_Op.IP, z_weirlaw15_Op.Mac, z_weirlaw15_Op.N⟩ : weirlaw15_Op)) (o := 54) (by kernel_rfl) (Upd.arr (i := 2) (by decide) (by decide)) (Filled.cons (cd := c_weirlaw15_Op) (q := (⟨2, z_weirlaw15_Op.Two, z_weirlaw15_Op.Port, r58, (⟨[2, 0, 0, 0, 0, 1], rfl⟩ : (Vec Int 6)), 1⟩ : weirlaw15_Op)) (o := 81) (by kernel_rfl) (Upd.arr (i := 3) (by decide) (by decide)) (Filled.cons (cd := c_weirlaw15_Op) (q := (⟨1, z_weirlaw15_Op.Two, z_weirlaw15_Op.Port, r59, z_weirlaw15_Op.Mac, 8⟩ : weirlaw15_Op)) (o := 108) (by kernel_rfl) (Upd.arr (i := 4) (by decide) (by decide)) (Filled.cons (cd := c_weirlaw15_Op) (q := (⟨5, z_weirlaw15_Op.Two, z_weirlaw15_Op.Port, z_weirlaw15_Op.IP, z_weirlaw15_Op.Mac, z_weirlaw15_Op.N⟩ : weirlaw15_Op)) (o := 135) (by kernel_rfl) (Upd.arr (i := 5) (by decide) (by decide)) (Filled.cons (cd := c_weirlaw15_Op) (q := (⟨6, z_weirlaw15_Op.Two, z_weirlaw15_Op.Port, z_weirlaw15_Op.IP, z_weirlaw15_Op.Mac, z_weirlaw15_Op.N⟩ : weirlaw15_Op)) (o := 162) (by kernel_rfl) (Upd.arr (i := 6) (by decide) (by decide)) Filled.nil))))))) ?_
    refine OJ.kst (y := .tmp 4) (z := .tmp 23) (cd := (c_weirlaw15_Op.arr 7)) (u := (⟨[(⟨1, z_weirlaw15_Op.Two, z_weirlaw15_Op.Port, r57, z_weirlaw15_Op.Mac, 7⟩ : weirlaw15_Op), (⟨3, z_weirlaw15_Op.Two, z_weirlaw15_Op.Port, z_weirlaw15_Op.IP, z_weirlaw15_Op.Mac, z_weirlaw15_Op.N⟩ : weirlaw15_Op), (⟨3, z_weirlaw15_Op.Two, z_weirlaw15_Op.Port, z_weirlaw15_Op.IP, z_weirlaw15_Op.Mac, z_weirlaw15_Op.N⟩ : weirlaw15_Op), (⟨2, z_weirlaw15_Op.Two, z_weirlaw15_Op.Port, r58, (⟨[2, 0, 0, 0, 0, 1], rfl⟩ : (Vec Int 6)), 1⟩ : weirlaw15_Op), (⟨1, z_weirlaw15_Op.Two, z_weirlaw15_Op.Port, r59, z_weirlaw15_Op.Mac, 8⟩ : weirlaw15_Op), (⟨5, z_weirlaw15_Op.Two, z_weirlaw15_Op.Port, z_weirlaw15_Op.IP, z_weirlaw15_Op.Mac, z_weirlaw15_Op.N⟩ : weirlaw15_Op), (⟨6, z_weirlaw15_Op.Two, z_weirlaw15_Op.Port, z_weirlaw15_Op.IP, z_weirlaw15_Op.Mac, z_weirlaw15_Op.N⟩ : weirlaw15_Op)], rfl⟩ : (Vec weirlaw15_Op 7))) (j := 0) (b := b56) (o := 0) ((c_weirlaw15_Op.arr 7).enc (⟨[(⟨1, z_weirlaw15_Op.Two, z_weirlaw15_Op.Port, r57, z_weirlaw15_Op.Mac, 7⟩ : weirlaw15_Op), (⟨3, z_weirlaw15_Op.Two, z_weirlaw15_Op.Port, z_weirlaw15_Op.IP, z_weirlaw15_Op.Mac, z_weirlaw15_Op.N⟩ : weirlaw15_Op), (⟨3, z_weirlaw15_Op.Two, z_weirlaw15_Op.Port, z_weirlaw15_Op.IP, z_weirlaw15_Op.Mac, z_weirlaw15_Op.N⟩ : weirlaw15_Op), (⟨2, z_weirlaw15_Op.Two, z_weirlaw15_Op.Port, r58, (⟨[2, 0, 0, 0, 0, 1], rfl⟩ : (Vec Int 6)), 1⟩ : weirlaw15_Op), (⟨1, z_weirlaw15_Op.Two, z_weirlaw15_Op.Port, r59, z_weirlaw15_Op.Mac, 8⟩ : weirlaw15_Op), (⟨5, z_weirlaw15_Op.Two, z_weirlaw15_Op.Port, z_weirlaw15_Op.IP, z_weirlaw15_Op.Mac, z_weirlaw15_Op.N⟩ : weirlaw15_Op), (⟨6, z_weirlaw15_Op.Two, z_weirlaw15_Op.Port, z_weirlaw15_Op.IP, z_weirlaw15_Op.Mac, z_weirlaw15_Op.N⟩ : weirlaw15_Op)], rfl⟩ : (Vec weirlaw15_Op 7))) (owed := []) Ty117 rfl (Upd.whole ((Cod.len _ _).trans (Cod.len _ _).symm)) rfl ?_
    refine OW.nil ?_
    refine OJ.nil ?_
    refine SJ.forget (List.Sublist.cons_cons _ (List.Sublist.cons _ (List.Sublist.cons_cons _ List.Sublist.slnil))) ?_
    refine SJ.less [1, 2, 4] (m' := [(1, .pointer (some (pt b2 0))), (2, .bool r1.2), (4, .pointer (some (pt b56 0)))]) ?_
    exact weirlaw15_started.K2_ok r1 b2 b56 (⟨[(⟨1, z_weirlaw15_Op.Two, z_weirlaw15_Op.Port, r57, z_weirlaw15_Op.Mac, 7⟩ : weirlaw15_Op), (⟨3, z_weirlaw15_Op.Two, z_weirlaw15_Op.Port, z_weirlaw15_Op.IP, z_weirlaw15_Op.Mac, z_weirlaw15_Op.N⟩ : weirlaw15_Op), (⟨3, z_weirlaw15_Op.Two, z_weirlaw15_Op.Port, z_weirlaw15_Op.IP, z_weirlaw15_Op.Mac, z_weirlaw15_Op.N⟩ : weirlaw15_Op), (⟨2, z_weirlaw15_Op.Two, z_weirlaw15_Op.Port, r58, (⟨[2, 0, 0, 0, 0, 1], rfl⟩ : (Vec Int 6)), 1⟩ : weirlaw15_Op), (⟨1, z_weirlaw15_Op.Two, z_weirlaw15_Op.Port, r59, z_weirlaw15_Op.Mac, 8⟩ : weirlaw15_Op), (⟨5, z_weirlaw15_Op.Two, z_weirlaw15_Op.Port, z_weirlaw15_Op.IP, z_weirlaw15_Op.Mac, z_weirlaw15_Op.N⟩ : weirlaw15_Op), (⟨6, z_weirlaw15_Op.Two, z_weirlaw15_Op.Port, z_weirlaw15_Op.IP, z_weirlaw15_Op.Mac, z_weirlaw15_Op.N⟩ : weirlaw15_Op)], rfl⟩ : (Vec weirlaw15_Op 7))

/-! ### weir/weirlaw15.NeighMakes: function 11 -/
noncomputable def weirlaw15_NeighMakes.B : Code := (Try.f11.body).getD .skip
noncomputable def weirlaw15_NeighMakes.cx : Fx := ⟨Try.prog, 11, Try.f11⟩
noncomputable def weirlaw15_NeighMakes.out (r_ : Bool) : Value := .bool r_
noncomputable def weirlaw15_NeighMakes.F0 (r_ : Bool) : Reach := .ret (weirlaw15_NeighMakes.out r_)
noncomputable def weirlaw15_NeighMakes (a0 : api_NeighConfig) : M Bool :=
  slot 23 >>= fun b1 =>
  weirlaw15_started >>= fun r2 =>
  weirlaw15_made a0 >>= fun r3 =>
  slot 88 >>= fun b4 =>
  (if r2 = true then
      pure r3.2
    else
      pure false) >>= fun y5 =>
  (if y5 = true then
      neigh_Cache_All r3.1.C >>= fun r6 =>
      pure ((r6.len : Int) == 0)
    else
      pure false) >>= fun y7 =>
  (if y7 = true then
      neigh_Cache_Waiting r3.1.C >>= fun r8 =>
      pure (r8 == 0)
    else
      pure false) >>= fun y9 =>
  pure y9
theorem weirlaw15_NeighMakes_ok (a0 : api_NeighConfig) : Ref Try.prog 11 [c_api_NeighConfig.val a0] (weirlaw15_NeighMakes a0) weirlaw15_NeighMakes.out := by
  refine Ref.of (cd := weirlaw15_NeighMakes.B) Try.func11 ?_
  show SJ weirlaw15_NeighMakes.cx [.code weirlaw15_NeighMakes.B] [(0, c_api_NeighConfig.val a0)] [] (weirlaw15_NeighMakes a0) weirlaw15_NeighMakes.F0
  unfold weirlaw15_NeighMakes
  refine SJ.sr 2 ?_
  refine OJ.slotOf (d := 1) (op := (.box 23 (.tmp 0))) (cd := c_api_NeighConfig) (u := a0) (owed := []) (box_run (by kernel_rfl)) (fun b1 => ?_)
  refine OW.nil ?_
  refine OJ.go 1 [(2, .bool false)] ?_
  refine OJ.nil ?_
  refine SJ.sr 2 ?_
  refine OJ.call (d := 6) (g := 41) (ats := #[]) (args := []) (owed := []) F41 (weirlaw15_started_ok ) (fun r2 => ?_)
  refine OW.nil ?_
  refine OJ.go 1 [(3, .bool r2)] ?_
  refine OJ.nil ?_
  refine SJ.sr 8 ?_
  refine OJ.kld (d := 8) (y := .tmp 1) (cd := c_api_NeighConfig) (j := 0) (b := b1) (o := 0) a0 (pend2 := []) Ty23 rfl (At.whole _) rfl ?_
  refine OJ.call (d := 9) (g := 42) (ats := #[23]) (args := [.tmp 8]) (owed := []) F42 (weirlaw15_made_ok a0) (fun r3 => ?_)
  refine OW.nil ?_
  refine OJ.go 3 [(11, .bool r3.2), (10, c_weirlaw15_Side.val r3.1), (7, .tuple #[c_weirlaw15_Side.val r3.1, .bool r3.2])] ?_
  refine OJ.slotOf (d := 4) (op := (.alloc 88)) (cd := c_weirlaw15_Side) (u := z_weirlaw15_Side) (owed := []) (alloc_run Ty88) (fun b4 => ?_)
  refine OW.nil ?_
  refine OJ.kst (y := .tmp 4) (z := .tmp 10) (cd := c_weirlaw15_Side) (u := r3.1) (j := 0) (b := b4) (o := 0) (c_weirlaw15_Side.enc r3.1) (owed := []) Ty88 rfl (Upd.whole ((Cod.len _ _).trans (Cod.len _ _).symm)) rfl ?_
  refine OW.nil ?_
  refine OJ.go 1 [(5, .bool r3.2)] ?_
  refine OJ.nil ?_
  refine SJ.sr 18 ?_
  refine OJ.go 2 [(13, .bool r2), (12, .bool r2)] ?_
  refine OJ.join (b := r2) [2, 3] [4, 5, 6, 7, 8, 9, 10, 11, 12, 13, 14, 15, 16, 17] [4, 15] (fun y5 => [(4, .pointer (some (pt b4 0))), (15, .bool y5)]) [] [] (t := 13) Iff.rfl (fun hp_ => ?_) (fun hp_ => ?_) (fun _ _ _ _ _ _ h_ => h_) (fun y5 => ?_)
  · refine OJ.go 2 [(15, .bool r3.2), (14, .bool r3.2)] ?_
    exact OJ.nil ⟨(Cov.mem Cov.nil), rfl, _, rfl, by kernel_rfl⟩
  · refine OJ.go 2 [(15, .bool false), (14, undef)] ?_
    exact OJ.nil ⟨(Cov.mem Cov.nil), rfl, _, rfl, by kernel_rfl⟩
  · refine OJ.go 1 [(16, .bool y5)] ?_
    refine OJ.join (b := y5) [5, 6, 7, 8, 9, 10] [11, 12, 13, 14, 15, 16, 17] [4, 22] (fun y7 => [(4, .pointer (some (pt b4 0))), (22, .bool y7)]) [] [] (t := 16) Iff.rfl (fun hp_ => ?_) (fun hp_ => ?_) (fun _ _ _ _ _ _ h_ => h_) (fun y7 => ?_)
    · refine OJ.go 1 [(17, .pointer (some (pt b4 0)))] ?_
      refine OJ.kld (d := 18) (y := .tmp 17) (cd := cP) (j := 0) (b := b4) (o := 0) r3.1.C (pend2 := []) Ty25 rfl (At_weirlaw15_Side_C r3.1) rfl ?_
      refine OJ.call (d := 19) (g := 27) (ats := #[25]) (args := [.tmp 18]) (owed := []) F27 (neigh_Cache_All_ok r3.1.C) (fun r6 => ?_)
      refine OW.nil ?_
      refine OJ.go 3 [(22, .bool ((r6.len : Int) == 0)), (21, .bool ((r6.len : Int) == 0)), (20, .int .i64 (r6.len : Int))] ?_
      exact OJ.nil ⟨(Cov.mem Cov.nil), rfl, _, rfl, by kernel_rfl⟩
    · refine OJ.go 6 [(22, .bool false), (21, undef), (20, undef), (19, undef), (18, undef), (17, undef)] ?_
      exact OJ.nil ⟨(Cov.mem Cov.nil), rfl, _, rfl, by kernel_rfl⟩
    · refine OJ.go 1 [(23, .bool y7)] ?_
      refine OJ.join (b := y7) [12, 13, 14, 15, 16] [17] [28] (fun y9 => [(28, .bool y9)]) [] [] (t := 23) Iff.rfl (fun hp_ => ?_) (fun hp_ => ?_) (fun _ _ _ _ _ _ h_ => h_) (fun y9 => ?_)
      · refine OJ.go 1 [(24, .pointer (some (pt b4 0)))] ?_
        refine OJ.kld (d := 25) (y := .tmp 24) (cd := cP) (j := 0) (b := b4) (o := 0) r3.1.C (pend2 := []) Ty25 rfl (At_weirlaw15_Side_C r3.1) rfl ?_
        refine OJ.call (d := 26) (g := 35) (ats := #[25]) (args := [.tmp 25]) (owed := []) F35 (neigh_Cache_Waiting_ok r3.1.C) (fun r8 => ?_)
        refine OW.nil ?_
        refine OJ.go 2 [(28, .bool (r8 == 0)), (27, .bool (r8 == 0))] ?_
        exact OJ.nil ⟨(Cov.mem Cov.nil), rfl, _, rfl, by kernel_rfl⟩
      · refine OJ.go 5 [(28, .bool false), (27, undef), (26, undef), (25, undef), (24, undef)] ?_
        exact OJ.nil ⟨(Cov.mem Cov.nil), rfl, _, rfl, by kernel_rfl⟩
      · refine OJ.go 1 [(2, .bool y9)] ?_
        refine OJ.nil ?_
        exact SJ.ret rfl (Res.run (ys := [.bool y9]) (.tmp (by kernel_rfl) .nil) rfl)
end Go.Proofs.Ytlkhijflgbobjaa.Lx
