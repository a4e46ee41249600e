/- Programs of the M-world for Go functions, each with the proof that the Go text does what it says. Printed by lxgen.py. -/
import Derived.Test.YtddmmgcfanpmmaaGreatDoorLxT
import Derived.Test.YtddmmgcfanpmmaaGreatDoorLxP0
import Derived.Test.YtddmmgcfanpmmaaGreatDoorLxP1
import Derived.Test.YtddmmgcfanpmmaaGreatDoorLxP2
set_option linter.unusedVariables false
set_option linter.unusedSimpArgs false
namespace Go.Proofs.YtddmmgcfanpmmaaGreatDoor.Lx
open Go Go.Proofs
/-! ### weir/addr.ParsePrefix: function 37 -/
noncomputable def addr_ParsePrefix.B : Code := (Tryz.f37.body).getD .skip
noncomputable def addr_ParsePrefix.cx : Fx := ⟨Tryz.prog, 37, Tryz.f37⟩
noncomputable def addr_ParsePrefix.out (r_ : (api_Prefix × Int × Int)) : Value := .tuple #[c_api_Prefix.val r_.1, .int .i64 r_.2.1, .int .i64 r_.2.2]
noncomputable def addr_ParsePrefix.F0 (r_ : (api_Prefix × Int × Int)) : Reach := .ret (addr_ParsePrefix.out r_)
noncomputable def addr_ParsePrefix.K1 (r3 : (api_IP × (Option Addr))) (j8 : Int) (j17 : (Option Addr)) : M (api_Prefix × Int × Int) :=
  if ¬ (j17 = none) then
    draw >>= fun _ =>
    nilck j17 >>= fun p22 =>
    ld (cI .i64) p22 >>= fun x23 =>
    nilck j17 >>= fun p24 =>
    ld (cI .i64) (Addr.add p24 1) >>= fun x25 =>
    same (cI .i64) (Addr.add p24 1) x25 >>= fun _ =>
    same (cI .i64) p22 x23 >>= fun _ =>
    pure (z_api_Prefix, x23, x25)
  else
    pure ((⟨r3.1, j8⟩ : api_Prefix), 0, 0)
theorem addr_ParsePrefix.K1_ok (b1 : Nat) (r3 : (api_IP × (Option Addr))) (j8 : Int) (b13 : Nat) (j17 : (Option Addr)) :
    SJ addr_ParsePrefix.cx [.code (c2 (c2 (c2 (c2 (c2 (c2 (c2 (c2 (c2 (c2 addr_ParsePrefix.B))))))))))] [(2, .pointer (some (pt b1 0))), (9, .pointer j17), (12, .pointer (some (pt b13 0)))] [(b13, c_api_Prefix.enc (⟨r3.1, j8⟩ : api_Prefix)), (b1, c_api_Prefix.enc z_api_Prefix)] (addr_ParsePrefix.K1 r3 j8 j17) addr_ParsePrefix.F0 := by
  unfold addr_ParsePrefix.K1
  refine SJ.seq ?_
  refine SJ.sr 2 ?_
  refine OJ.go 2 [(70, .bool (!(Option.isNone j17))), (69, .pointer j17)] ?_
  refine OJ.nil ?_
  refine SJ.cond (t := (.tmp 70)) (b := (!(Option.isNone j17))) (bnot_iff Option.isNone_iff_eq_none) (fun hc26 => ?_) (fun hc26 => ?_)
  · refine SJ.seq ?_
    refine SJ.draw (id := 16) (kd := [0, 0, 0, 0, 1, 0, 0, 0, 1, 2, 0, 0]) (bef := [0, 0, 2, 6, 14, 0, 32, 96, 224, 1, 543, 2047]) (ord := [0, 1, 2, 3, 4, 5, 6, 7, 8, 9, 10, 11]) mixed ?_
    refine OJ.build (d := 71) (T := 38) (parts := []) (ps := []) (cd := c_api_Prefix) (z0 := z_api_Prefix) z_api_Prefix Ty38 rfl Filled.nil ?_
    refine OJ.go 1 [(72, .pointer j17)] ?_
    refine OJ.nilck (d := 73) (y := .tmp 72) (fun p22 => ?_)
    refine OJ.go 1 [(74, .pointer (some p22))] ?_
    refine OJ.ld (d := 75) (y := .tmp 74) (pend2 := fun x23 => [⟨4, 29, p22, (cI .i64).val x23⟩]) Ty29 (fun _ => rfl) (fun x23 => ?_)
    refine OJ.go 1 [(76, .pointer j17)] ?_
    refine OJ.nilck (d := 77) (y := .tmp 76) (fun p24 => ?_)
    refine OJ.go 1 [(78, .pointer (some (Addr.add p24 1)))] ?_
    refine OJ.ld (d := 79) (y := .tmp 78) (pend2 := fun x25 => [⟨8, 3, (Addr.add p24 1), (cI .i64).val x25⟩, ⟨4, 29, p22, (cI .i64).val x23⟩]) Ty3 (fun _ => rfl) (fun x25 => ?_)
    refine OJ.kst (y := .tmp 2) (z := .tmp 71) (cd := c_api_Prefix) (u := z_api_Prefix) (j := 1) (b := b1) (o := 0) (c_api_Prefix.enc z_api_Prefix) (owed := [⟨8, 3, (Addr.add p24 1), (cI .i64).val x25⟩, ⟨4, 29, p22, (cI .i64).val x23⟩]) Ty38 rfl (Upd.whole ((Cod.len _ _).trans (Cod.len _ _).symm)) rfl ?_
    refine OW.same Ty3 ?_
    refine OW.same Ty29 ?_
    refine OW.nil ?_
    refine OJ.go 2 [(4, .int .i64 x25), (3, .int .i64 x23)] ?_
    refine OJ.nil ?_
    exact SJ.ret rfl (Res.run (ys := [c_api_Prefix.val z_api_Prefix, .int .i64 x23, .int .i64 x25]) (.cell (j := 1) (b := b1) (cd := c_api_Prefix) (q := z_api_Prefix) (by kernel_rfl) rfl Ty38 (At.whole _) (.tmp (by kernel_rfl) (.tmp (by kernel_rfl) .nil))) rfl)
  · refine SJ.skip ?_
    refine SJ.sr 4 ?_
    refine OJ.kld (d := 80) (y := .tmp 12) (cd := c_api_Prefix) (j := 0) (b := b13) (o := 0) (⟨r3.1, j8⟩ : api_Prefix) (pend2 := []) Ty38 rfl (At.whole _) rfl ?_
    refine OJ.kst (y := .tmp 2) (z := .tmp 80) (cd := c_api_Prefix) (u := (⟨r3.1, j8⟩ : api_Prefix)) (j := 1) (b := b1) (o := 0) (c_api_Prefix.enc (⟨r3.1, j8⟩ : api_Prefix)) (owed := []) Ty38 rfl (Upd.whole ((Cod.len _ _).trans (Cod.len _ _).symm)) rfl ?_
    refine OW.nil ?_
    refine OJ.go 2 [(4, .int .i64 0), (3, .int .i64 0)] ?_
    refine OJ.nil ?_
    exact SJ.ret rfl (Res.run (ys := [c_api_Prefix.val (⟨r3.1, j8⟩ : api_Prefix), .int .i64 0, .int .i64 0]) (.cell (j := 1) (b := b1) (cd := c_api_Prefix) (q := (⟨r3.1, j8⟩ : api_Prefix)) (by kernel_rfl) rfl Ty38 (At.whole _) (.tmp (by kernel_rfl) (.tmp (by kernel_rfl) .nil))) rfl)
noncomputable def addr_ParsePrefix.K2 (r3 : (api_IP × (Option Addr))) (j8 : Int) (j12 : (Option Addr)) : M (api_Prefix × Int × Int) :=
  slot 38 >>= fun b13 =>
  (if j12 = none then
      addr_ValidPrefix (⟨r3.1, j8⟩ : api_Prefix) >>= fun r14 =>
      pure (r14 != 0)
    else
      pure false) >>= fun y15 =>
  if y15 = true then
    newv 48 c_addr_fault (⟨46, 0⟩ : addr_fault) >>= fun b27 =>
    addr_ParsePrefix.K1 r3 j8 (some (pt b27 0))
  else
    addr_ParsePrefix.K1 r3 j8 j12
theorem addr_ParsePrefix.K2_ok (b1 : Nat) (r3 : (api_IP × (Option Addr))) (b4 : Nat) (j8 : Int) (j12 : (Option Addr)) :
    SJ addr_ParsePrefix.cx [.code (c2 (c2 (c2 (c2 (c2 (c2 (c2 (c2 addr_ParsePrefix.B))))))))] [(2, .pointer (some (pt b1 0))), (8, .pointer (some (pt b4 0))), (9, .pointer j12), (10, .int .i64 j8)] [(b4, c_api_IP.enc r3.1), (b1, c_api_Prefix.enc z_api_Prefix)] (addr_ParsePrefix.K2 r3 j8 j12) addr_ParsePrefix.F0 := by
  unfold addr_ParsePrefix.K2
  refine SJ.sr 5 ?_
  refine OJ.kld (d := 57) (y := .tmp 8) (cd := c_api_IP) (j := 0) (b := b4) (o := 0) r3.1 (pend2 := []) Ty28 rfl (At.whole _) rfl ?_
  refine OJ.go 1 [(58, .int .i64 j8)] ?_
  refine OJ.build (d := 59) (T := 38) (parts := [(0, .tmp 57), (1, .tmp 58)]) (ps := [(0, c_api_IP.val r3.1), (1, (cI .i64).val j8)]) (cd := c_api_Prefix) (z0 := z_api_Prefix) (⟨r3.1, j8⟩ : api_Prefix) Ty38 rfl (Filled.cons (cd := c_api_IP) (q := r3.1) (o := 0) (by kernel_rfl) (Up_api_Prefix_IP z_api_Prefix r3.1) (Filled.cons (cd := (cI .i64)) (q := j8) (o := 17) (by kernel_rfl) (Up_api_Prefix_Len (⟨r3.1, z_api_Prefix.Len⟩ : api_Prefix) j8) Filled.nil)) ?_
  refine OJ.slotOf (d := 12) (op := (.alloc 38)) (cd := c_api_Prefix) (u := z_api_Prefix) (owed := []) (alloc_run Ty38) (fun b13 => ?_)
  refine OW.nil ?_
  refine OJ.kst (y := .tmp 12) (z := .tmp 59) (cd := c_api_Prefix) (u := (⟨r3.1, j8⟩ : api_Prefix)) (j := 0) (b := b13) (o := 0) (c_api_Prefix.enc (⟨r3.1, j8⟩ : api_Prefix)) (owed := []) Ty38 rfl (Upd.whole ((Cod.len _ _).trans (Cod.len _ _).symm)) rfl ?_
  refine OW.nil ?_
  refine OJ.nil ?_
  refine SJ.seq ?_
  refine SJ.sr 7 ?_
  refine OJ.go 3 [(62, .bool (Option.isNone j12)), (61, .bool (Option.isNone j12)), (60, .pointer j12)] ?_
  refine OJ.join (b := (Option.isNone j12)) [3, 4, 5, 6] [] [2, 9, 12, 66] (fun y15 => [(2, .pointer (some (pt b1 0))), (9, .pointer j12), (12, .pointer (some (pt b13 0))), (66, .bool y15)]) [] [] (t := 62) Option.isNone_iff_eq_none (fun hp_ => ?_) (fun hp_ => ?_) (fun _ _ _ _ _ _ h_ => h_) (fun y15 => ?_)
  · refine OJ.kld (d := 63) (y := .tmp 12) (cd := c_api_Prefix) (j := 0) (b := b13) (o := 0) (⟨r3.1, j8⟩ : api_Prefix) (pend2 := []) Ty38 rfl (At.whole _) rfl ?_
    refine OJ.call (d := 64) (g := 47) (ats := #[38]) (args := [.tmp 63]) (owed := []) F47 (addr_ValidPrefix_ok (⟨r3.1, j8⟩ : api_Prefix)) (fun r14 => ?_)
    refine OW.nil ?_
    refine OJ.go 2 [(66, .bool (r14 != 0)), (65, .bool (r14 != 0))] ?_
    exact OJ.nil ⟨(Cov.mem Cov.nil), rfl, _, rfl, by kernel_rfl⟩
  · refine OJ.go 4 [(66, .bool false), (65, undef), (64, undef), (63, undef)] ?_
    exact OJ.nil ⟨(Cov.mem Cov.nil), rfl, _, rfl, by kernel_rfl⟩
  · refine OJ.nil ?_
    refine SJ.cond (t := (.tmp 66)) (b := y15) Iff.rfl (fun hc28 => ?_) (fun hc28 => ?_)
    · refine SJ.rg 3 ?_
      refine OJ.build (d := 67) (T := 48) (parts := [(0, .const (.int .i64 46)), (1, .const (.int .i64 0))]) (ps := [(0, (cI .i64).val 46), (1, (cI .i64).val 0)]) (cd := c_addr_fault) (z0 := z_addr_fault) (⟨46, 0⟩ : addr_fault) Ty48 rfl (Filled.cons (cd := (cI .i64)) (q := 46) (o := 0) (by kernel_rfl) (Up_addr_fault_why z_addr_fault 46) (Filled.cons (cd := (cI .i64)) (q := 0) (o := 1) (by kernel_rfl) (Up_addr_fault_at_ (⟨46, z_addr_fault.at_⟩ : addr_fault) 0) Filled.nil)) ?_
      refine OJ.newOf (d := 68) (op := (.box 48 (.tmp 67))) (cd := c_addr_fault) (u := (⟨46, 0⟩ : addr_fault)) (owed := []) (box_run (by kernel_rfl)) (fun b27 => ?_)
      refine OW.nil ?_
      refine OJ.go 1 [(9, .pointer (some (pt b27 0)))] ?_
      refine OJ.nil ?_
      refine SJ.forget (List.Sublist.cons_cons _ (List.Sublist.cons _ (List.Sublist.cons_cons _ List.Sublist.slnil))) ?_
      refine SJ.less [2, 9, 12] (m' := [(2, .pointer (some (pt b1 0))), (9, .pointer (some (pt b27 0))), (12, .pointer (some (pt b13 0)))]) ?_
      exact addr_ParsePrefix.K1_ok b1 r3 j8 b13 (some (pt b27 0))
    · refine SJ.skip ?_
      refine SJ.forget (List.Sublist.cons_cons _ (List.Sublist.cons _ (List.Sublist.cons_cons _ List.Sublist.slnil))) ?_
      refine SJ.less [2, 9, 12] (m' := [(2, .pointer (some (pt b1 0))), (9, .pointer j12), (12, .pointer (some (pt b13 0)))]) ?_
      exact addr_ParsePrefix.K1_ok b1 r3 j8 b13 j12
noncomputable def addr_ParsePrefix.K3 (a0 : ByteArray) (r3 : (api_IP × (Option Addr))) (j7 : (Option Addr)) (j8 : Int) (j9 : Int) : M (api_Prefix × Int × Int) :=
  (if j7 = none then
      pure (decide (j9 < (a0.size : Int)))
    else
      pure false) >>= fun y10 =>
  if y10 = true then
    newv 48 c_addr_fault (⟨41, j9⟩ : addr_fault) >>= fun b29 =>
    addr_ParsePrefix.K2 r3 j8 (some (pt b29 0))
  else
    addr_ParsePrefix.K2 r3 j8 j7
theorem addr_ParsePrefix.K3_ok (a0 : ByteArray) (b1 : Nat) (r3 : (api_IP × (Option Addr))) (b4 : Nat) (j7 : (Option Addr)) (j8 : Int) (j9 : Int) :
    SJ addr_ParsePrefix.cx [.code (c2 (c2 (c2 (c2 (c2 (c2 (c2 addr_ParsePrefix.B)))))))] [(0, .string a0), (2, .pointer (some (pt b1 0))), (8, .pointer (some (pt b4 0))), (9, .pointer j7), (10, .int .i64 j8), (11, .int .i64 j9)] [(b4, c_api_IP.enc r3.1), (b1, c_api_Prefix.enc z_api_Prefix)] (addr_ParsePrefix.K3 a0 r3 j7 j8 j9) addr_ParsePrefix.F0 := by
  unfold addr_ParsePrefix.K3
  refine SJ.seq ?_
  refine SJ.sr 8 ?_
  refine OJ.go 3 [(48, .bool (Option.isNone j7)), (47, .bool (Option.isNone j7)), (46, .pointer j7)] ?_
  refine OJ.join (b := (Option.isNone j7)) [3, 4, 5, 6, 7] [] [2, 8, 9, 10, 11, 53] (fun y10 => [(2, .pointer (some (pt b1 0))), (8, .pointer (some (pt b4 0))), (9, .pointer j7), (10, .int .i64 j8), (11, .int .i64 j9), (53, .bool y10)]) [] [] (t := 48) Option.isNone_iff_eq_none (fun hp_ => ?_) (fun hp_ => ?_) (fun _ _ _ _ _ _ h_ => h_) (fun y10 => ?_)
  · refine OJ.go 5 [(53, .bool (decide (j9 < (a0.size : Int)))), (52, .bool (decide (j9 < (a0.size : Int)))), (51, .int .i64 (a0.size : Int)), (50, .string a0), (49, .int .i64 j9)] ?_
    exact OJ.nil ⟨(Cov.mem Cov.nil), rfl, _, rfl, by kernel_rfl⟩
  · refine OJ.go 5 [(53, .bool false), (52, undef), (51, undef), (50, undef), (49, undef)] ?_
    exact OJ.nil ⟨(Cov.mem Cov.nil), rfl, _, rfl, by kernel_rfl⟩
  · refine OJ.nil ?_
    refine SJ.cond (t := (.tmp 53)) (b := y10) Iff.rfl (fun hc30 => ?_) (fun hc30 => ?_)
    · refine SJ.rg 4 ?_
      refine OJ.go 1 [(54, .int .i64 j9)] ?_
      refine OJ.build (d := 55) (T := 48) (parts := [(0, .const (.int .i64 41)), (1, .tmp 54)]) (ps := [(0, (cI .i64).val 41), (1, (cI .i64).val j9)]) (cd := c_addr_fault) (z0 := z_addr_fault) (⟨41, j9⟩ : addr_fault) Ty48 rfl (Filled.cons (cd := (cI .i64)) (q := 41) (o := 0) (by kernel_rfl) (Up_addr_fault_why z_addr_fault 41) (Filled.cons (cd := (cI .i64)) (q := j9) (o := 1) (by kernel_rfl) (Up_addr_fault_at_ (⟨41, z_addr_fault.at_⟩ : addr_fault) j9) Filled.nil)) ?_
      refine OJ.newOf (d := 56) (op := (.box 48 (.tmp 55))) (cd := c_addr_fault) (u := (⟨41, j9⟩ : addr_fault)) (owed := []) (box_run (by kernel_rfl)) (fun b29 => ?_)
      refine OW.nil ?_
      refine OJ.go 1 [(9, .pointer (some (pt b29 0)))] ?_
      refine OJ.nil ?_
      refine SJ.less [2, 8, 9, 10] (m' := [(2, .pointer (some (pt b1 0))), (8, .pointer (some (pt b4 0))), (9, .pointer (some (pt b29 0))), (10, .int .i64 j8)]) ?_
      exact addr_ParsePrefix.K2_ok b1 r3 b4 j8 (some (pt b29 0))
    · refine SJ.skip ?_
      refine SJ.less [2, 8, 9, 10] (m' := [(2, .pointer (some (pt b1 0))), (8, .pointer (some (pt b4 0))), (9, .pointer j7), (10, .int .i64 j8)]) ?_
      exact addr_ParsePrefix.K2_ok b1 r3 b4 j8 j7
noncomputable def addr_ParsePrefix (a0 : ByteArray) : M (api_Prefix × Int × Int) :=
  slot 38 >>= fun b1 =>
  if (a0.size : Int) > 49 then
    pure (z_api_Prefix, 2, 49)
  else
    strings_Cut a0 str11 >>= fun r2 =>
    if ¬ (r2.2.2 = true) then
      pure (z_api_Prefix, 42, (a0.size : Int))
    else
      addr_parse r2.1 >>= fun r3 =>
      slot 28 >>= fun b4 =>
      if r3.2 = none then
        addr_size r3.1 >>= fun r31 =>
        addr_number a0 (IntKind.wrap .i64 ((r2.1.size : Int) + 1)) r31 45 >>= fun r32 =>
        addr_ParsePrefix.K3 a0 r3 r32.2.2 r32.1 r32.2.1
      else
        addr_ParsePrefix.K3 a0 r3 r3.2 0 0
theorem addr_ParsePrefix_ok (a0 : ByteArray) : Ref Tryz.prog 37 [.string a0] (addr_ParsePrefix a0) addr_ParsePrefix.out := by
  refine Ref.of (cd := addr_ParsePrefix.B) Tryz.func37 ?_
  show SJ addr_ParsePrefix.cx [.code addr_ParsePrefix.B] [(0, .string a0)] [] (addr_ParsePrefix a0) addr_ParsePrefix.F0
  unfold addr_ParsePrefix
  refine SJ.sr 3 ?_
  refine OJ.slotOf (d := 2) (op := (.alloc 38)) (cd := c_api_Prefix) (u := z_api_Prefix) (owed := []) (alloc_run Ty38) (fun b1 => ?_)
  refine OW.nil ?_
  refine OJ.go 2 [(4, .int .i64 0), (3, .int .i64 0)] ?_
  refine OJ.nil ?_
  refine SJ.seq ?_
  refine SJ.sr 3 ?_
  refine OJ.go 3 [(15, .bool (decide ((a0.size : Int) > 49))), (14, .int .i64 (a0.size : Int)), (13, .string a0)] ?_
  refine OJ.nil ?_
  refine SJ.cond (t := (.tmp 15)) (b := decide ((a0.size : Int) > 49)) decide_eq_true_iff (fun hc35 => ?_) (fun hc35 => ?_)
  · refine SJ.sr 4 ?_
    refine OJ.build (d := 16) (T := 38) (parts := []) (ps := []) (cd := c_api_Prefix) (z0 := z_api_Prefix) z_api_Prefix Ty38 rfl Filled.nil ?_
    refine OJ.kst (y := .tmp 2) (z := .tmp 16) (cd := c_api_Prefix) (u := z_api_Prefix) (j := 0) (b := b1) (o := 0) (c_api_Prefix.enc z_api_Prefix) (owed := []) Ty38 rfl (Upd.whole ((Cod.len _ _).trans (Cod.len _ _).symm)) rfl ?_
    refine OW.nil ?_
    refine OJ.go 2 [(4, .int .i64 49), (3, .int .i64 2)] ?_
    refine OJ.nil ?_
    exact SJ.ret rfl (Res.run (ys := [c_api_Prefix.val z_api_Prefix, .int .i64 2, .int .i64 49]) (.cell (j := 0) (b := b1) (cd := c_api_Prefix) (q := z_api_Prefix) (by kernel_rfl) rfl Ty38 (At.whole _) (.tmp (by kernel_rfl) (.tmp (by kernel_rfl) .nil))) rfl)
  · refine SJ.skip ?_
    refine SJ.sr 9 ?_
    refine OJ.go 1 [(18, .string a0)] ?_
    refine OJ.call (d := 19) (g := 69) (ats := #[9, 9]) (args := [.tmp 18, .const (.string str11)]) (owed := []) F69 (strings_Cut_ok a0 str11) (fun r2 => ?_)
    refine OW.nil ?_
    refine OJ.go 7 [(7, .bool r2.2.2), (6, .string r2.2.1), (5, .string r2.1), (22, .bool r2.2.2), (21, .string r2.2.1), (20, .string r2.1), (17, .tuple #[.string r2.1, .string r2.2.1, .bool r2.2.2])] ?_
    refine OJ.nil ?_
    refine SJ.seq ?_
    refine SJ.sr 2 ?_
    refine OJ.go 2 [(24, .bool (!r2.2.2)), (23, .bool r2.2.2)] ?_
    refine OJ.nil ?_
    refine SJ.cond (t := (.tmp 24)) (b := (!r2.2.2)) (bnot_iff Iff.rfl) (fun hc34 => ?_) (fun hc34 => ?_)
    · refine SJ.sr 6 ?_
      refine OJ.build (d := 25) (T := 38) (parts := []) (ps := []) (cd := c_api_Prefix) (z0 := z_api_Prefix) z_api_Prefix Ty38 rfl Filled.nil ?_
      refine OJ.go 2 [(27, .int .i64 (a0.size : Int)), (26, .string a0)] ?_
      refine OJ.kst (y := .tmp 2) (z := .tmp 25) (cd := c_api_Prefix) (u := z_api_Prefix) (j := 0) (b := b1) (o := 0) (c_api_Prefix.enc z_api_Prefix) (owed := []) Ty38 rfl (Upd.whole ((Cod.len _ _).trans (Cod.len _ _).symm)) rfl ?_
      refine OW.nil ?_
      refine OJ.go 2 [(4, .int .i64 (a0.size : Int)), (3, .int .i64 42)] ?_
      refine OJ.nil ?_
      exact SJ.ret rfl (Res.run (ys := [c_api_Prefix.val z_api_Prefix, .int .i64 42, .int .i64 (a0.size : Int)]) (.cell (j := 0) (b := b1) (cd := c_api_Prefix) (q := z_api_Prefix) (by kernel_rfl) rfl Ty38 (At.whole _) (.tmp (by kernel_rfl) (.tmp (by kernel_rfl) .nil))) rfl)
    · refine SJ.skip ?_
      refine SJ.sr 8 ?_
      refine OJ.go 1 [(29, .string r2.1)] ?_
      refine OJ.call (d := 30) (g := 15) (ats := #[9]) (args := [.tmp 29]) (owed := []) F15 (addr_parse_ok r2.1) (fun r3 => ?_)
      refine OW.nil ?_
      refine OJ.go 3 [(32, .pointer r3.2), (31, c_api_IP.val r3.1), (28, .tuple #[c_api_IP.val r3.1, .pointer r3.2])] ?_
      refine OJ.slotOf (d := 8) (op := (.alloc 28)) (cd := c_api_IP) (u := z_api_IP) (owed := []) (alloc_run Ty28) (fun b4 => ?_)
      refine OW.nil ?_
      refine OJ.kst (y := .tmp 8) (z := .tmp 31) (cd := c_api_IP) (u := r3.1) (j := 0) (b := b4) (o := 0) (c_api_IP.enc r3.1) (owed := []) Ty28 rfl (Upd.whole ((Cod.len _ _).trans (Cod.len _ _).symm)) rfl ?_
      refine OW.nil ?_
      refine OJ.go 1 [(9, .pointer r3.2)] ?_
      refine OJ.nil ?_
      refine SJ.sr 2 ?_
      refine OJ.go 2 [(11, .int .i64 0), (10, .int .i64 0)] ?_
      refine OJ.nil ?_
      refine SJ.seq ?_
      refine SJ.sr 2 ?_
      refine OJ.go 2 [(34, .bool (Option.isNone r3.2)), (33, .pointer r3.2)] ?_
      refine OJ.nil ?_
      refine SJ.cond (t := (.tmp 34)) (b := (Option.isNone r3.2)) Option.isNone_iff_eq_none (fun hc33 => ?_) (fun hc33 => ?_)
      · refine SJ.rg 14 ?_
        refine OJ.go 4 [(39, .int .i64 (IntKind.wrap .i64 ((r2.1.size : Int) + 1))), (38, .int .i64 (r2.1.size : Int)), (37, .string r2.1), (36, .string a0)] ?_
        refine OJ.kld (d := 40) (y := .tmp 8) (cd := c_api_IP) (j := 0) (b := b4) (o := 0) r3.1 (pend2 := []) Ty28 rfl (At.whole _) rfl ?_
        refine OJ.call (d := 41) (g := 32) (ats := #[28]) (args := [.tmp 40]) (owed := []) F32 (addr_size_ok r3.1) (fun r31 => ?_)
        refine OW.nil ?_
        refine OJ.call (d := 42) (g := 58) (ats := #[9, 3, 3, 29]) (args := [.tmp 36, .tmp 39, .tmp 41, .const (.int .i64 45)]) (owed := []) F58 (addr_number_ok a0 (IntKind.wrap .i64 ((r2.1.size : Int) + 1)) r31 45) (fun r32 => ?_)
        refine OW.nil ?_
        refine OJ.go 7 [(9, .pointer r32.2.2), (11, .int .i64 r32.2.1), (10, .int .i64 r32.1), (45, .pointer r32.2.2), (44, .int .i64 r32.2.1), (43, .int .i64 r32.1), (35, .tuple #[.int .i64 r32.1, .int .i64 r32.2.1, .pointer r32.2.2])] ?_
        refine OJ.nil ?_
        refine SJ.less [0, 2, 8, 9, 10, 11] (m' := [(0, .string a0), (2, .pointer (some (pt b1 0))), (8, .pointer (some (pt b4 0))), (9, .pointer r32.2.2), (10, .int .i64 r32.1), (11, .int .i64 r32.2.1)]) ?_
        exact addr_ParsePrefix.K3_ok a0 b1 r3 b4 r32.2.2 r32.1 r32.2.1
      · refine SJ.skip ?_
        refine SJ.less [0, 2, 8, 9, 10, 11] (m' := [(0, .string a0), (2, .pointer (some (pt b1 0))), (8, .pointer (some (pt b4 0))), (9, .pointer r3.2), (10, .int .i64 0), (11, .int .i64 0)]) ?_
        exact addr_ParsePrefix.K3_ok a0 b1 r3 b4 r3.2 0 0

/-! ### weir/weirref4.width: function 73 -/
noncomputable def weirref4_width.B : Code := (Tryz.f73.body).getD .skip
noncomputable def weirref4_width.cx : Fx := ⟨Tryz.prog, 73, Tryz.f73⟩
noncomputable def weirref4_width.out (r_ : Int) : Value := .int .i64 r_
noncomputable def weirref4_width.F0 (r_ : Int) : Reach := .ret (weirref4_width.out r_)
noncomputable def weirref4_width (a0 : api_IP) : M Int :=
  slot 28 >>= fun b1 =>
  if a0.V = 4 then
    pure 32
  else
    pure 128
theorem weirref4_width_ok (a0 : api_IP) : Ref Tryz.prog 73 [c_api_IP.val a0] (weirref4_width a0) weirref4_width.out := by
  refine Ref.of (cd := weirref4_width.B) Tryz.func73 ?_
  show SJ weirref4_width.cx [.code weirref4_width.B] [(0, c_api_IP.val a0)] [] (weirref4_width a0) weirref4_width.F0
  unfold weirref4_width
  refine SJ.sr 2 ?_
  refine OJ.slotOf (d := 1) (op := (.box 28 (.tmp 0))) (cd := c_api_IP) (u := a0) (owed := []) (box_run (by kernel_rfl)) (fun b1 => ?_)
  refine OW.nil ?_
  refine OJ.go 1 [(2, .int .i64 0)] ?_
  refine OJ.nil ?_
  refine SJ.seq ?_
  refine SJ.sr 3 ?_
  refine OJ.go 1 [(3, .pointer (some (pt b1 0)))] ?_
  refine OJ.kld (d := 4) (y := .tmp 3) (cd := (cI .i64)) (j := 0) (b := b1) (o := 0) a0.V (pend2 := []) Ty3 rfl (At_api_IP_V a0) rfl ?_
  refine OJ.go 1 [(5, .bool (a0.V == 4))] ?_
  refine OJ.nil ?_
  refine SJ.cond (t := (.tmp 5)) (b := (a0.V == 4)) beq_iff_eq (fun hc2 => ?_) (fun hc2 => ?_)
  · refine SJ.sr 1 ?_
    refine OJ.go 1 [(2, .int .i64 32)] ?_
    refine OJ.nil ?_
    exact SJ.ret rfl (Res.run (ys := [.int .i64 32]) (.tmp (by kernel_rfl) .nil) rfl)
  · refine SJ.skip ?_
    refine SJ.sr 1 ?_
    refine OJ.go 1 [(2, .int .i64 128)] ?_
    refine OJ.nil ?_
    exact SJ.ret rfl (Res.run (ys := [.int .i64 128]) (.tmp (by kernel_rfl) .nil) rfl)

/-! ### weir/weirref4.Valid: function 46 -/
noncomputable def weirref4_Valid.B : Code := (Tryz.f46.body).getD .skip
noncomputable def weirref4_Valid.cx : Fx := ⟨Tryz.prog, 46, Tryz.f46⟩
noncomputable def weirref4_Valid.out (r_ : Bool) : Value := .bool r_
noncomputable def weirref4_Valid.F0 (r_ : Bool) : Reach := .ret (weirref4_Valid.out r_)
noncomputable def weirref4_Valid.F1 (a0 : api_IP) (b1 : Nat) : (LS Int Bool) → Reach := loopF [.inLoop (c1 (c1 (c2 (c1 (c2 (c2 weirref4_Valid.B)))))), .inBlock 0, .code (c2 (c2 (c2 weirref4_Valid.B)))] (fun s_ : Int => [(1, .pointer (some (pt b1 0))), (3, .int .i64 s_)]) (fun s_ : Int => [(b1, c_api_IP.enc a0)]) weirref4_Valid.F0
noncomputable def weirref4_Valid.L1 (a0 : api_IP) (s2 : Int) : M (LS Int Bool) :=
  if s2 < 16 then
    chk ((0 : Int) ≤ s2 ∧ s2 < (16 : Nat)) >>= fun _ =>
    if (Vec.g a0.A s2 0) ≠ 0 then
      pure (LS.done false)
    else
      pure (LS.next (IntKind.wrap .i64 (s2 + 1)))
  else
    pure (LS.done true)
theorem weirref4_Valid.L1_ok (a0 : api_IP) (b1 : Nat) (s2 : Int) :
    SJ weirref4_Valid.cx [.code (c1 (c1 (c2 (c1 (c2 (c2 weirref4_Valid.B)))))), .inLoop (c1 (c1 (c2 (c1 (c2 (c2 weirref4_Valid.B)))))), .inBlock 0, .code (c2 (c2 (c2 weirref4_Valid.B)))] [(1, .pointer (some (pt b1 0))), (3, .int .i64 s2)] [(b1, c_api_IP.enc a0)] (weirref4_Valid.L1 a0 s2) (weirref4_Valid.F1 a0 b1) := by
  unfold weirref4_Valid.L1
  refine SJ.seq ?_
  refine SJ.sr 2 ?_
  refine OJ.go 2 [(11, .bool (decide (s2 < 16))), (10, .int .i64 s2)] ?_
  refine OJ.nil ?_
  refine SJ.cond (t := (.tmp 11)) (b := decide (s2 < 16)) decide_eq_true_iff (fun hc10 => ?_) (fun hc10 => ?_)
  · refine SJ.skip ?_
    refine SJ.seq ?_
    refine SJ.block (id := 1) ?_
    refine SJ.sr 5 ?_
    refine OJ.go 2 [(15, .pointer (some (pt b1 1))), (14, .int .i64 s2)] ?_
    refine OJ.idxK (d := 16) (T := 26) (y := .tmp 15) (j := .tmp 14) (E := 5) (sz := 1) (b := b1) (o := 1) (k := .i64) (fun hb7 hb8 => ?_)
    refine OJ.kld (d := 17) (y := .tmp 16) (cd := (cI .u8)) (j := 0) (b := b1) (o := (1 + s2.toNat * 1)) (Vec.g a0.A s2 0) (pend2 := []) Ty5 rfl (At.trans (At_api_IP_A a0) (At.arr (z := 0) hb7 hb8)) rfl ?_
    refine OJ.go 1 [(18, .bool ((Vec.g a0.A s2 0) != 0))] ?_
    refine OJ.nil ?_
    refine SJ.cond (t := (.tmp 18)) (b := ((Vec.g a0.A s2 0) != 0)) bne_iff_ne (fun hc9 => ?_) (fun hc9 => ?_)
    · refine SJ.sr 1 ?_
      refine OJ.go 1 [(2, .bool false)] ?_
      refine OJ.nil ?_
      exact SJ.ret rfl (Res.run (ys := [.bool false]) (.tmp (by kernel_rfl) .nil) rfl)
    · refine SJ.skip ?_
      refine SJ.inBlock ?_
      refine SJ.rg 3 ?_
      refine OJ.go 3 [(3, .int .i64 (IntKind.wrap .i64 (s2 + 1))), (13, .int .i64 (IntKind.wrap .i64 (s2 + 1))), (12, .int .i64 s2)] ?_
      refine OJ.nil ?_
      exact SJ.at_ [1, 3] rfl
  · refine SJ.exit (id := 0) (by rfl) ?_
    refine SJ.sr 1 ?_
    refine OJ.go 1 [(2, .bool true)] ?_
    refine OJ.nil ?_
    exact SJ.ret rfl (Res.run (ys := [.bool true]) (.tmp (by kernel_rfl) .nil) rfl)
noncomputable def weirref4_Valid (a0 : api_IP) : M Bool :=
  slot 28 >>= fun b1 =>
  if a0.V ≠ 4 then
    pure (a0.V == 6)
  else
    loopM (fun s_ : Int => weirref4_Valid.L1 a0 s_) 4
theorem weirref4_Valid_ok (a0 : api_IP) : Ref Tryz.prog 46 [c_api_IP.val a0] (weirref4_Valid a0) weirref4_Valid.out := by
  refine Ref.of (cd := weirref4_Valid.B) Tryz.func46 ?_
  show SJ weirref4_Valid.cx [.code weirref4_Valid.B] [(0, c_api_IP.val a0)] [] (weirref4_Valid a0) weirref4_Valid.F0
  unfold weirref4_Valid
  refine SJ.sr 2 ?_
  refine OJ.slotOf (d := 1) (op := (.box 28 (.tmp 0))) (cd := c_api_IP) (u := a0) (owed := []) (box_run (by kernel_rfl)) (fun b1 => ?_)
  refine OW.nil ?_
  refine OJ.go 1 [(2, .bool false)] ?_
  refine OJ.nil ?_
  refine SJ.seq ?_
  refine SJ.sr 3 ?_
  refine OJ.go 1 [(4, .pointer (some (pt b1 0)))] ?_
  refine OJ.kld (d := 5) (y := .tmp 4) (cd := (cI .i64)) (j := 0) (b := b1) (o := 0) a0.V (pend2 := []) Ty3 rfl (At_api_IP_V a0) rfl ?_
  refine OJ.go 1 [(6, .bool (a0.V != 4))] ?_
  refine OJ.nil ?_
  refine SJ.cond (t := (.tmp 6)) (b := (a0.V != 4)) bne_iff_ne (fun hc11 => ?_) (fun hc11 => ?_)
  · refine SJ.sr 4 ?_
    refine OJ.go 1 [(7, .pointer (some (pt b1 0)))] ?_
    refine OJ.kld (d := 8) (y := .tmp 7) (cd := (cI .i64)) (j := 0) (b := b1) (o := 0) a0.V (pend2 := []) Ty3 rfl (At_api_IP_V a0) rfl ?_
    refine OJ.go 2 [(2, .bool (a0.V == 6)), (9, .bool (a0.V == 6))] ?_
    refine OJ.nil ?_
    exact SJ.ret rfl (Res.run (ys := [.bool (a0.V == 6)]) (.tmp (by kernel_rfl) .nil) rfl)
  · refine SJ.skip ?_
    refine SJ.seq ?_
    refine SJ.sr 1 ?_
    refine OJ.go 1 [(3, .int .i64 4)] ?_
    refine OJ.nil ?_
    refine SJ.block (id := 0) ?_
    exact SJ.loop (fun s_ : Int => [(1, .pointer (some (pt b1 0))), (3, .int .i64 s_)]) (fun s_ : Int => [(b1, c_api_IP.enc a0)]) [1, 3] rfl (fun _ _ => rfl) (fun s_ => weirref4_Valid.L1_ok a0 b1 s_)

/-! ### weir/weirref4.bit: function 82 -/
noncomputable def weirref4_bit.B : Code := (Tryz.f82.body).getD .skip
noncomputable def weirref4_bit.cx : Fx := ⟨Tryz.prog, 82, Tryz.f82⟩
noncomputable def weirref4_bit.out (r_ : Int) : Value := .int .i64 r_
noncomputable def weirref4_bit.F0 (r_ : Int) : Reach := .ret (weirref4_bit.out r_)
noncomputable def weirref4_bit.F1  : (LS (Int × Int) Int) → Reach := loopF [.inLoop (c1 (c1 (c2 (c1 (c2 (c2 weirref4_bit.B)))))), .inBlock 0, .code (c2 (c2 (c2 weirref4_bit.B)))] (fun s_ : (Int × Int) => [(5, .int .i64 s_.1), (6, .int .i64 s_.2)]) (fun s_ : (Int × Int) => []) weirref4_bit.F0
noncomputable def weirref4_bit.L1 (s4 : Int) (s5 : Int) : M (LS (Int × Int) Int) :=
  if s5 < 7 then
    pure (LS.next (IntKind.wrap .i64 (Int.tdiv s4 2), IntKind.wrap .i64 (s5 + 1)))
  else
    pure (LS.done (Int.tmod s4 2))
theorem weirref4_bit.L1_ok (s4 : Int) (s5 : Int) :
    SJ weirref4_bit.cx [.code (c1 (c1 (c2 (c1 (c2 (c2 weirref4_bit.B)))))), .inLoop (c1 (c1 (c2 (c1 (c2 (c2 weirref4_bit.B)))))), .inBlock 0, .code (c2 (c2 (c2 weirref4_bit.B)))] [(5, .int .i64 s4), (6, .int .i64 s5)] [] (weirref4_bit.L1 s4 s5) weirref4_bit.F1 := by
  unfold weirref4_bit.L1
  refine SJ.seq ?_
  refine SJ.sr 2 ?_
  refine OJ.go 2 [(16, .bool (decide (s5 < 7))), (15, .int .i64 s5)] ?_
  refine OJ.nil ?_
  refine SJ.cond (t := (.tmp 16)) (b := decide (s5 < 7)) decide_eq_true_iff (fun hc7 => ?_) (fun hc7 => ?_)
  · refine SJ.skip ?_
    refine SJ.seq ?_
    refine SJ.block (id := 1) ?_
    refine SJ.rg 3 ?_
    refine OJ.go 3 [(5, .int .i64 (IntKind.wrap .i64 (Int.tdiv s4 2))), (20, .int .i64 (IntKind.wrap .i64 (Int.tdiv s4 2))), (19, .int .i64 s4)] ?_
    refine OJ.nil ?_
    refine SJ.inBlock ?_
    refine SJ.rg 3 ?_
    refine OJ.go 3 [(6, .int .i64 (IntKind.wrap .i64 (s5 + 1))), (18, .int .i64 (IntKind.wrap .i64 (s5 + 1))), (17, .int .i64 s5)] ?_
    refine OJ.nil ?_
    exact SJ.at_ [5, 6] rfl
  · refine SJ.exit (id := 0) (by rfl) ?_
    refine SJ.sr 3 ?_
    refine OJ.go 3 [(4, .int .i64 (Int.tmod s4 2)), (22, .int .i64 (Int.tmod s4 2)), (21, .int .i64 s4)] ?_
    refine OJ.nil ?_
    exact SJ.ret rfl (Res.run (ys := [.int .i64 (Int.tmod s4 2)]) (.tmp (by kernel_rfl) .nil) rfl)
noncomputable def weirref4_bit (a0 : api_IP) (a1 : Int) : M Int :=
  slot 28 >>= fun b1 =>
  chk ((0 : Int) ≤ (IntKind.wrap .i64 (Int.tdiv a1 8)) ∧ (IntKind.wrap .i64 (Int.tdiv a1 8)) < (16 : Nat)) >>= fun _ =>
  loopM (fun s_ : (Int × Int) => weirref4_bit.L1 s_.1 s_.2) (IntKind.wrap .i64 (Vec.g a0.A (IntKind.wrap .i64 (Int.tdiv a1 8)) 0), Int.tmod a1 8)
theorem weirref4_bit_ok (a0 : api_IP) (a1 : Int) : Ref Tryz.prog 82 [c_api_IP.val a0, .int .i64 a1] (weirref4_bit a0 a1) weirref4_bit.out := by
  refine Ref.of (cd := weirref4_bit.B) Tryz.func82 ?_
  show SJ weirref4_bit.cx [.code weirref4_bit.B] [(0, c_api_IP.val a0), (1, .int .i64 a1)] [] (weirref4_bit a0 a1) weirref4_bit.F0
  unfold weirref4_bit
  refine SJ.sr 2 ?_
  refine OJ.slotOf (d := 2) (op := (.box 28 (.tmp 0))) (cd := c_api_IP) (u := a0) (owed := []) (box_run (by kernel_rfl)) (fun b1 => ?_)
  refine OW.nil ?_
  refine OJ.go 1 [(4, .int .i64 0)] ?_
  refine OJ.nil ?_
  refine SJ.sr 7 ?_
  refine OJ.go 3 [(9, .pointer (some (pt b1 1))), (8, .int .i64 (IntKind.wrap .i64 (Int.tdiv a1 8))), (7, .int .i64 a1)] ?_
  refine OJ.idxK (d := 10) (T := 26) (y := .tmp 9) (j := .tmp 8) (E := 5) (sz := 1) (b := b1) (o := 1) (k := .i64) (fun hb2 hb3 => ?_)
  refine OJ.kld (d := 11) (y := .tmp 10) (cd := (cI .u8)) (j := 0) (b := b1) (o := (1 + (IntKind.wrap .i64 (Int.tdiv a1 8)).toNat * 1)) (Vec.g a0.A (IntKind.wrap .i64 (Int.tdiv a1 8)) 0) (pend2 := []) Ty5 rfl (At.trans (At_api_IP_A a0) (At.arr (z := 0) hb2 hb3)) rfl ?_
  refine OJ.go 2 [(5, .int .i64 (IntKind.wrap .i64 (Vec.g a0.A (IntKind.wrap .i64 (Int.tdiv a1 8)) 0))), (12, .int .i64 (IntKind.wrap .i64 (Vec.g a0.A (IntKind.wrap .i64 (Int.tdiv a1 8)) 0)))] ?_
  refine OJ.nil ?_
  refine SJ.seq ?_
  refine SJ.sr 3 ?_
  refine OJ.go 3 [(6, .int .i64 (Int.tmod a1 8)), (14, .int .i64 (Int.tmod a1 8)), (13, .int .i64 a1)] ?_
  refine OJ.nil ?_
  refine SJ.block (id := 0) ?_
  refine SJ.forget (List.Sublist.cons _ List.Sublist.slnil) ?_
  exact SJ.loop (fun s_ : (Int × Int) => [(5, .int .i64 s_.1), (6, .int .i64 s_.2)]) (fun s_ : (Int × Int) => []) [5, 6] rfl (fun _ _ => rfl) (fun s_ => weirref4_bit.L1_ok s_.1 s_.2)

/-! ### weir/weirref4.ValidPrefix: function 48 -/
noncomputable def weirref4_ValidPrefix.B : Code := (Tryz.f48.body).getD .skip
noncomputable def weirref4_ValidPrefix.cx : Fx := ⟨Tryz.prog, 48, Tryz.f48⟩
noncomputable def weirref4_ValidPrefix.out (r_ : Int) : Value := .int .i64 r_
noncomputable def weirref4_ValidPrefix.F0 (r_ : Int) : Reach := .ret (weirref4_ValidPrefix.out r_)
noncomputable def weirref4_ValidPrefix.F1 (a0 : api_Prefix) (b1 : Nat) (r3 : Int) : (LS Int Int) → Reach := loopF [.inLoop (c1 (c1 (c2 (c1 (c2 (c2 (c2 (c2 (c2 weirref4_ValidPrefix.B))))))))), .inBlock 0, .code (c2 (c2 (c2 (c2 (c2 (c2 weirref4_ValidPrefix.B))))))] (fun s_ : Int => [(1, .pointer (some (pt b1 0))), (4, .int .i64 r3), (5, .int .i64 s_)]) (fun s_ : Int => [(b1, c_api_Prefix.enc a0)]) weirref4_ValidPrefix.F0
noncomputable def weirref4_ValidPrefix.L1 (a0 : api_Prefix) (r3 : Int) (s5 : Int) : M (LS Int Int) :=
  if s5 < r3 then
    weirref4_bit a0.IP s5 >>= fun r9 =>
    if r9 = 1 then
      pure (LS.done 46)
    else
      pure (LS.next (IntKind.wrap .i64 (s5 + 1)))
  else
    pure (LS.done 0)
theorem weirref4_ValidPrefix.L1_ok (a0 : api_Prefix) (b1 : Nat) (r3 : Int) (s5 : Int) :
    SJ weirref4_ValidPrefix.cx [.code (c1 (c1 (c2 (c1 (c2 (c2 (c2 (c2 (c2 weirref4_ValidPrefix.B))))))))), .inLoop (c1 (c1 (c2 (c1 (c2 (c2 (c2 (c2 (c2 weirref4_ValidPrefix.B))))))))), .inBlock 0, .code (c2 (c2 (c2 (c2 (c2 (c2 weirref4_ValidPrefix.B))))))] [(1, .pointer (some (pt b1 0))), (4, .int .i64 r3), (5, .int .i64 s5)] [(b1, c_api_Prefix.enc a0)] (weirref4_ValidPrefix.L1 a0 r3 s5) (weirref4_ValidPrefix.F1 a0 b1 r3) := by
  unfold weirref4_ValidPrefix.L1
  refine SJ.seq ?_
  refine SJ.sr 3 ?_
  refine OJ.go 3 [(27, .bool (decide (s5 < r3))), (26, .int .i64 r3), (25, .int .i64 s5)] ?_
  refine OJ.nil ?_
  refine SJ.cond (t := (.tmp 27)) (b := decide (s5 < r3)) decide_eq_true_iff (fun hc11 => ?_) (fun hc11 => ?_)
  · refine SJ.skip ?_
    refine SJ.seq ?_
    refine SJ.block (id := 1) ?_
    refine SJ.sr 5 ?_
    refine OJ.go 1 [(30, .pointer (some (pt b1 0)))] ?_
    refine OJ.kld (d := 31) (y := .tmp 30) (cd := c_api_IP) (j := 0) (b := b1) (o := 0) a0.IP (pend2 := []) Ty28 rfl (At_api_Prefix_IP a0) rfl ?_
    refine OJ.go 1 [(32, .int .i64 s5)] ?_
    refine OJ.call (d := 33) (g := 82) (ats := #[28, 3]) (args := [.tmp 31, .tmp 32]) (owed := []) F82 (weirref4_bit_ok a0.IP s5) (fun r9 => ?_)
    refine OW.nil ?_
    refine OJ.go 1 [(34, .bool (r9 == 1))] ?_
    refine OJ.nil ?_
    refine SJ.cond (t := (.tmp 34)) (b := (r9 == 1)) beq_iff_eq (fun hc10 => ?_) (fun hc10 => ?_)
    · refine SJ.sr 1 ?_
      refine OJ.go 1 [(2, .int .i64 46)] ?_
      refine OJ.nil ?_
      exact SJ.ret rfl (Res.run (ys := [.int .i64 46]) (.tmp (by kernel_rfl) .nil) rfl)
    · refine SJ.skip ?_
      refine SJ.inBlock ?_
      refine SJ.rg 3 ?_
      refine OJ.go 3 [(5, .int .i64 (IntKind.wrap .i64 (s5 + 1))), (29, .int .i64 (IntKind.wrap .i64 (s5 + 1))), (28, .int .i64 s5)] ?_
      refine OJ.nil ?_
      exact SJ.at_ [1, 4, 5] rfl
  · refine SJ.exit (id := 0) (by rfl) ?_
    refine SJ.sr 1 ?_
    refine OJ.go 1 [(2, .int .i64 0)] ?_
    refine OJ.nil ?_
    exact SJ.ret rfl (Res.run (ys := [.int .i64 0]) (.tmp (by kernel_rfl) .nil) rfl)
noncomputable def weirref4_ValidPrefix (a0 : api_Prefix) : M Int :=
  slot 38 >>= fun b1 =>
  weirref4_Valid a0.IP >>= fun r2 =>
  if ¬ (r2 = true) then
    pure 40
  else
    weirref4_width a0.IP >>= fun r3 =>
    (if a0.Len < 0 then
        pure true
      else
        pure (decide (a0.Len > r3))) >>= fun y4 =>
    if y4 = true then
      pure 45
    else
      loopM (fun s_ : Int => weirref4_ValidPrefix.L1 a0 r3 s_) a0.Len
theorem weirref4_ValidPrefix_ok (a0 : api_Prefix) : Ref Tryz.prog 48 [c_api_Prefix.val a0] (weirref4_ValidPrefix a0) weirref4_ValidPrefix.out := by
  refine Ref.of (cd := weirref4_ValidPrefix.B) Tryz.func48 ?_
  show SJ weirref4_ValidPrefix.cx [.code weirref4_ValidPrefix.B] [(0, c_api_Prefix.val a0)] [] (weirref4_ValidPrefix a0) weirref4_ValidPrefix.F0
  unfold weirref4_ValidPrefix
  refine SJ.sr 2 ?_
  refine OJ.slotOf (d := 1) (op := (.box 38 (.tmp 0))) (cd := c_api_Prefix) (u := a0) (owed := []) (box_run (by kernel_rfl)) (fun b1 => ?_)
  refine OW.nil ?_
  refine OJ.go 1 [(2, .int .i64 0)] ?_
  refine OJ.nil ?_
  refine SJ.sr 4 ?_
  refine OJ.go 1 [(6, .pointer (some (pt b1 0)))] ?_
  refine OJ.kld (d := 7) (y := .tmp 6) (cd := c_api_IP) (j := 0) (b := b1) (o := 0) a0.IP (pend2 := []) Ty28 rfl (At_api_Prefix_IP a0) rfl ?_
  refine OJ.call (d := 8) (g := 46) (ats := #[28]) (args := [.tmp 7]) (owed := []) F46 (weirref4_Valid_ok a0.IP) (fun r2 => ?_)
  refine OW.nil ?_
  refine OJ.go 1 [(3, .bool r2)] ?_
  refine OJ.nil ?_
  refine SJ.seq ?_
  refine SJ.sr 2 ?_
  refine OJ.go 2 [(10, .bool (!r2)), (9, .bool r2)] ?_
  refine OJ.nil ?_
  refine SJ.cond (t := (.tmp 10)) (b := (!r2)) (bnot_iff Iff.rfl) (fun hc13 => ?_) (fun hc13 => ?_)
  · refine SJ.sr 1 ?_
    refine OJ.go 1 [(2, .int .i64 40)] ?_
    refine OJ.nil ?_
    exact SJ.ret rfl (Res.run (ys := [.int .i64 40]) (.tmp (by kernel_rfl) .nil) rfl)
  · refine SJ.skip ?_
    refine SJ.sr 4 ?_
    refine OJ.go 1 [(11, .pointer (some (pt b1 0)))] ?_
    refine OJ.kld (d := 12) (y := .tmp 11) (cd := c_api_IP) (j := 0) (b := b1) (o := 0) a0.IP (pend2 := []) Ty28 rfl (At_api_Prefix_IP a0) rfl ?_
    refine OJ.call (d := 13) (g := 73) (ats := #[28]) (args := [.tmp 12]) (owed := []) F73 (weirref4_width_ok a0.IP) (fun r3 => ?_)
    refine OW.nil ?_
    refine OJ.go 1 [(4, .int .i64 r3)] ?_
    refine OJ.nil ?_
    refine SJ.seq ?_
    refine SJ.sr 9 ?_
    refine OJ.go 1 [(14, .pointer (some (pt b1 17)))] ?_
    refine OJ.kld (d := 15) (y := .tmp 14) (cd := (cI .i64)) (j := 0) (b := b1) (o := 17) a0.Len (pend2 := []) Ty3 rfl (At_api_Prefix_Len a0) rfl ?_
    refine OJ.go 2 [(17, .bool (decide (a0.Len < 0))), (16, .bool (decide (a0.Len < 0)))] ?_
    refine OJ.join (b := decide (a0.Len < 0)) [4, 5, 6, 7, 8] [] [1, 4, 22] (fun y4 => [(1, .pointer (some (pt b1 0))), (4, .int .i64 r3), (22, .bool y4)]) [] [] (t := 17) decide_eq_true_iff (fun hp_ => ?_) (fun hp_ => ?_) (fun _ _ _ _ _ _ h_ => h_) (fun y4 => ?_)
    · refine OJ.go 5 [(22, .bool true), (21, undef), (20, undef), (19, undef), (18, undef)] ?_
      exact OJ.nil ⟨(Cov.mem Cov.nil), rfl, _, rfl, by kernel_rfl⟩
    · refine OJ.go 1 [(18, .pointer (some (pt b1 17)))] ?_
      refine OJ.kld (d := 19) (y := .tmp 18) (cd := (cI .i64)) (j := 0) (b := b1) (o := 17) a0.Len (pend2 := []) Ty3 rfl (At_api_Prefix_Len a0) rfl ?_
      refine OJ.go 3 [(22, .bool (decide (a0.Len > r3))), (21, .bool (decide (a0.Len > r3))), (20, .int .i64 r3)] ?_
      exact OJ.nil ⟨(Cov.mem Cov.nil), rfl, _, rfl, by kernel_rfl⟩
    · refine OJ.nil ?_
      refine SJ.cond (t := (.tmp 22)) (b := y4) Iff.rfl (fun hc12 => ?_) (fun hc12 => ?_)
      · refine SJ.sr 1 ?_
        refine OJ.go 1 [(2, .int .i64 45)] ?_
        refine OJ.nil ?_
        exact SJ.ret rfl (Res.run (ys := [.int .i64 45]) (.tmp (by kernel_rfl) .nil) rfl)
      · refine SJ.skip ?_
        refine SJ.seq ?_
        refine SJ.sr 3 ?_
        refine OJ.go 1 [(23, .pointer (some (pt b1 17)))] ?_
        refine OJ.kld (d := 24) (y := .tmp 23) (cd := (cI .i64)) (j := 0) (b := b1) (o := 17) a0.Len (pend2 := []) Ty3 rfl (At_api_Prefix_Len a0) rfl ?_
        refine OJ.go 1 [(5, .int .i64 a0.Len)] ?_
        refine OJ.nil ?_
        refine SJ.block (id := 0) ?_
        exact SJ.loop (fun s_ : Int => [(1, .pointer (some (pt b1 0))), (4, .int .i64 r3), (5, .int .i64 s_)]) (fun s_ : Int => [(b1, c_api_Prefix.enc a0)]) [1, 4, 5] rfl (fun _ _ => rfl) (fun s_ => weirref4_ValidPrefix.L1_ok a0 b1 r3 s_)

/-! ### weir/weirref4.ParsePrefix: function 38 -/
noncomputable def weirref4_ParsePrefix.B : Code := (Tryz.f38.body).getD .skip
noncomputable def weirref4_ParsePrefix.cx : Fx := ⟨Tryz.prog, 38, Tryz.f38⟩
noncomputable def weirref4_ParsePrefix.out (r_ : (api_Prefix × Int × Int)) : Value := .tuple #[c_api_Prefix.val r_.1, .int .i64 r_.2.1, .int .i64 r_.2.2]
noncomputable def weirref4_ParsePrefix.F0 (r_ : (api_Prefix × Int × Int)) : Reach := .ret (weirref4_ParsePrefix.out r_)
noncomputable def weirref4_ParsePrefix.K1 (a0 : ByteArray) (s2 : Int) (r7 : (api_IP × Int × Int)) (s9 : Int) : M (api_Prefix × Int × Int) :=
  if s9 = (IntKind.wrap .i64 (s2 + 1)) then
    weirref4_here a0 s9 >>= fun r16 =>
    pure (z_api_Prefix, r16.1, r16.2)
  else
    weirref4_width r7.1 >>= fun r17 =>
    weirref4_decimal a0 (IntKind.wrap .i64 (s2 + 1)) s9 r17 >>= fun r18 =>
    if r18 < 0 then
      pure (z_api_Prefix, 45, IntKind.wrap .i64 (s2 + 1))
    else
      if s9 < (a0.size : Int) then
        pure (z_api_Prefix, 41, s9)
      else
        slot 38 >>= fun b19 =>
        weirref4_ValidPrefix (⟨r7.1, r18⟩ : api_Prefix) >>= fun r20 =>
        if r20 ≠ 0 then
          pure (z_api_Prefix, 46, 0)
        else
          pure ((⟨r7.1, r18⟩ : api_Prefix), 0, 0)
theorem weirref4_ParsePrefix.K1_ok (a0 : ByteArray) (b1 : Nat) (s2 : Int) (r7 : (api_IP × Int × Int)) (b8 : Nat) (s9 : Int) :
    SJ weirref4_ParsePrefix.cx [.code (c2 (c2 (c2 (c2 (c2 (c2 (c2 (c2 (c2 weirref4_ParsePrefix.B)))))))))] [(0, .string a0), (2, .pointer (some (pt b1 0))), (5, .int .i64 s2), (6, .pointer (some (pt b8 0))), (9, .int .i64 s9)] [(b8, c_api_IP.enc r7.1), (b1, c_api_Prefix.enc z_api_Prefix)] (weirref4_ParsePrefix.K1 a0 s2 r7 s9) weirref4_ParsePrefix.F0 := by
  unfold weirref4_ParsePrefix.K1
  refine SJ.seq ?_
  refine SJ.sr 4 ?_
  refine OJ.go 4 [(67, .bool (s9 == (IntKind.wrap .i64 (s2 + 1)))), (66, .int .i64 (IntKind.wrap .i64 (s2 + 1))), (65, .int .i64 s2), (64, .int .i64 s9)] ?_
  refine OJ.nil ?_
  refine SJ.cond (t := (.tmp 67)) (b := (s9 == (IntKind.wrap .i64 (s2 + 1)))) beq_iff_eq (fun hc24 => ?_) (fun hc24 => ?_)
  · refine SJ.sr 8 ?_
    refine OJ.go 2 [(70, .int .i64 s9), (69, .string a0)] ?_
    refine OJ.call (d := 71) (g := 71) (ats := #[9, 3]) (args := [.tmp 69, .tmp 70]) (owed := []) F71 (weirref4_here_ok a0 s9) (fun r16 => ?_)
    refine OW.nil ?_
    refine OJ.go 5 [(11, .int .i64 r16.2), (10, .int .i64 r16.1), (73, .int .i64 r16.2), (72, .int .i64 r16.1), (68, .tuple #[.int .i64 r16.1, .int .i64 r16.2])] ?_
    refine OJ.nil ?_
    refine SJ.sr 6 ?_
    refine OJ.build (d := 74) (T := 38) (parts := []) (ps := []) (cd := c_api_Prefix) (z0 := z_api_Prefix) z_api_Prefix Ty38 rfl Filled.nil ?_
    refine OJ.go 2 [(76, .int .i64 r16.2), (75, .int .i64 r16.1)] ?_
    refine OJ.kst (y := .tmp 2) (z := .tmp 74) (cd := c_api_Prefix) (u := z_api_Prefix) (j := 1) (b := b1) (o := 0) (c_api_Prefix.enc z_api_Prefix) (owed := []) Ty38 rfl (Upd.whole ((Cod.len _ _).trans (Cod.len _ _).symm)) rfl ?_
    refine OW.nil ?_
    refine OJ.go 2 [(4, .int .i64 r16.2), (3, .int .i64 r16.1)] ?_
    refine OJ.nil ?_
    exact SJ.ret rfl (Res.run (ys := [c_api_Prefix.val z_api_Prefix, .int .i64 r16.1, .int .i64 r16.2]) (.cell (j := 1) (b := b1) (cd := c_api_Prefix) (q := z_api_Prefix) (by kernel_rfl) rfl Ty38 (At.whole _) (.tmp (by kernel_rfl) (.tmp (by kernel_rfl) .nil))) rfl)
  · refine SJ.skip ?_
    refine SJ.sr 8 ?_
    refine OJ.go 4 [(80, .int .i64 s9), (79, .int .i64 (IntKind.wrap .i64 (s2 + 1))), (78, .int .i64 s2), (77, .string a0)] ?_
    refine OJ.kld (d := 81) (y := .tmp 6) (cd := c_api_IP) (j := 0) (b := b8) (o := 0) r7.1 (pend2 := []) Ty28 rfl (At.whole _) rfl ?_
    refine OJ.call (d := 82) (g := 73) (ats := #[28]) (args := [.tmp 81]) (owed := []) F73 (weirref4_width_ok r7.1) (fun r17 => ?_)
    refine OW.nil ?_
    refine OJ.call (d := 83) (g := 72) (ats := #[9, 3, 3, 3]) (args := [.tmp 77, .tmp 79, .tmp 80, .tmp 82]) (owed := []) F72 (weirref4_decimal_ok a0 (IntKind.wrap .i64 (s2 + 1)) s9 r17) (fun r18 => ?_)
    refine OW.nil ?_
    refine OJ.go 1 [(12, .int .i64 r18)] ?_
    refine OJ.nil ?_
    refine SJ.seq ?_
    refine SJ.sr 2 ?_
    refine OJ.go 2 [(85, .bool (decide (r18 < 0))), (84, .int .i64 r18)] ?_
    refine OJ.nil ?_
    refine SJ.cond (t := (.tmp 85)) (b := decide (r18 < 0)) decide_eq_true_iff (fun hc23 => ?_) (fun hc23 => ?_)
    · refine SJ.sr 6 ?_
      refine OJ.build (d := 86) (T := 38) (parts := []) (ps := []) (cd := c_api_Prefix) (z0 := z_api_Prefix) z_api_Prefix Ty38 rfl Filled.nil ?_
      refine OJ.go 2 [(88, .int .i64 (IntKind.wrap .i64 (s2 + 1))), (87, .int .i64 s2)] ?_
      refine OJ.kst (y := .tmp 2) (z := .tmp 86) (cd := c_api_Prefix) (u := z_api_Prefix) (j := 1) (b := b1) (o := 0) (c_api_Prefix.enc z_api_Prefix) (owed := []) Ty38 rfl (Upd.whole ((Cod.len _ _).trans (Cod.len _ _).symm)) rfl ?_
      refine OW.nil ?_
      refine OJ.go 2 [(4, .int .i64 (IntKind.wrap .i64 (s2 + 1))), (3, .int .i64 45)] ?_
      refine OJ.nil ?_
      exact SJ.ret rfl (Res.run (ys := [c_api_Prefix.val z_api_Prefix, .int .i64 45, .int .i64 (IntKind.wrap .i64 (s2 + 1))]) (.cell (j := 1) (b := b1) (cd := c_api_Prefix) (q := z_api_Prefix) (by kernel_rfl) rfl Ty38 (At.whole _) (.tmp (by kernel_rfl) (.tmp (by kernel_rfl) .nil))) rfl)
    · refine SJ.skip ?_
      refine SJ.seq ?_
      refine SJ.sr 4 ?_
      refine OJ.go 4 [(92, .bool (decide (s9 < (a0.size : Int)))), (91, .int .i64 (a0.size : Int)), (90, .string a0), (89, .int .i64 s9)] ?_
      refine OJ.nil ?_
      refine SJ.cond (t := (.tmp 92)) (b := decide (s9 < (a0.size : Int))) decide_eq_true_iff (fun hc22 => ?_) (fun hc22 => ?_)
      · refine SJ.sr 5 ?_
        refine OJ.build (d := 93) (T := 38) (parts := []) (ps := []) (cd := c_api_Prefix) (z0 := z_api_Prefix) z_api_Prefix Ty38 rfl Filled.nil ?_
        refine OJ.go 1 [(94, .int .i64 s9)] ?_
        refine OJ.kst (y := .tmp 2) (z := .tmp 93) (cd := c_api_Prefix) (u := z_api_Prefix) (j := 1) (b := b1) (o := 0) (c_api_Prefix.enc z_api_Prefix) (owed := []) Ty38 rfl (Upd.whole ((Cod.len _ _).trans (Cod.len _ _).symm)) rfl ?_
        refine OW.nil ?_
        refine OJ.go 2 [(4, .int .i64 s9), (3, .int .i64 41)] ?_
        refine OJ.nil ?_
        exact SJ.ret rfl (Res.run (ys := [c_api_Prefix.val z_api_Prefix, .int .i64 41, .int .i64 s9]) (.cell (j := 1) (b := b1) (cd := c_api_Prefix) (q := z_api_Prefix) (by kernel_rfl) rfl Ty38 (At.whole _) (.tmp (by kernel_rfl) (.tmp (by kernel_rfl) .nil))) rfl)
      · refine SJ.skip ?_
        refine SJ.sr 5 ?_
        refine OJ.kld (d := 95) (y := .tmp 6) (cd := c_api_IP) (j := 0) (b := b8) (o := 0) r7.1 (pend2 := []) Ty28 rfl (At.whole _) rfl ?_
        refine OJ.go 1 [(96, .int .i64 r18)] ?_
        refine OJ.build (d := 97) (T := 38) (parts := [(0, .tmp 95), (1, .tmp 96)]) (ps := [(0, c_api_IP.val r7.1), (1, (cI .i64).val r18)]) (cd := c_api_Prefix) (z0 := z_api_Prefix) (⟨r7.1, r18⟩ : api_Prefix) Ty38 rfl (Filled.cons (cd := c_api_IP) (q := r7.1) (o := 0) (by kernel_rfl) (Up_api_Prefix_IP z_api_Prefix r7.1) (Filled.cons (cd := (cI .i64)) (q := r18) (o := 17) (by kernel_rfl) (Up_api_Prefix_Len (⟨r7.1, z_api_Prefix.Len⟩ : api_Prefix) r18) Filled.nil)) ?_
        refine OJ.slotOf (d := 13) (op := (.alloc 38)) (cd := c_api_Prefix) (u := z_api_Prefix) (owed := []) (alloc_run Ty38) (fun b19 => ?_)
        refine OW.nil ?_
        refine OJ.kst (y := .tmp 13) (z := .tmp 97) (cd := c_api_Prefix) (u := (⟨r7.1, r18⟩ : api_Prefix)) (j := 0) (b := b19) (o := 0) (c_api_Prefix.enc (⟨r7.1, r18⟩ : api_Prefix)) (owed := []) Ty38 rfl (Upd.whole ((Cod.len _ _).trans (Cod.len _ _).symm)) rfl ?_
        refine OW.nil ?_
        refine OJ.nil ?_
        refine SJ.seq ?_
        refine SJ.sr 3 ?_
        refine OJ.kld (d := 98) (y := .tmp 13) (cd := c_api_Prefix) (j := 0) (b := b19) (o := 0) (⟨r7.1, r18⟩ : api_Prefix) (pend2 := []) Ty38 rfl (At.whole _) rfl ?_
        refine OJ.call (d := 99) (g := 48) (ats := #[38]) (args := [.tmp 98]) (owed := []) F48 (weirref4_ValidPrefix_ok (⟨r7.1, r18⟩ : api_Prefix)) (fun r20 => ?_)
        refine OW.nil ?_
        refine OJ.go 1 [(100, .bool (r20 != 0))] ?_
        refine OJ.nil ?_
        refine SJ.cond (t := (.tmp 100)) (b := (r20 != 0)) bne_iff_ne (fun hc21 => ?_) (fun hc21 => ?_)
        · refine SJ.sr 4 ?_
          refine OJ.build (d := 101) (T := 38) (parts := []) (ps := []) (cd := c_api_Prefix) (z0 := z_api_Prefix) z_api_Prefix Ty38 rfl Filled.nil ?_
          refine OJ.kst (y := .tmp 2) (z := .tmp 101) (cd := c_api_Prefix) (u := z_api_Prefix) (j := 2) (b := b1) (o := 0) (c_api_Prefix.enc z_api_Prefix) (owed := []) Ty38 rfl (Upd.whole ((Cod.len _ _).trans (Cod.len _ _).symm)) rfl ?_
          refine OW.nil ?_
          refine OJ.go 2 [(4, .int .i64 0), (3, .int .i64 46)] ?_
          refine OJ.nil ?_
          exact SJ.ret rfl (Res.run (ys := [c_api_Prefix.val z_api_Prefix, .int .i64 46, .int .i64 0]) (.cell (j := 2) (b := b1) (cd := c_api_Prefix) (q := z_api_Prefix) (by kernel_rfl) rfl Ty38 (At.whole _) (.tmp (by kernel_rfl) (.tmp (by kernel_rfl) .nil))) rfl)
        · refine SJ.skip ?_
          refine SJ.sr 4 ?_
          refine OJ.kld (d := 102) (y := .tmp 13) (cd := c_api_Prefix) (j := 0) (b := b19) (o := 0) (⟨r7.1, r18⟩ : api_Prefix) (pend2 := []) Ty38 rfl (At.whole _) rfl ?_
          refine OJ.kst (y := .tmp 2) (z := .tmp 102) (cd := c_api_Prefix) (u := (⟨r7.1, r18⟩ : api_Prefix)) (j := 2) (b := b1) (o := 0) (c_api_Prefix.enc (⟨r7.1, r18⟩ : api_Prefix)) (owed := []) Ty38 rfl (Upd.whole ((Cod.len _ _).trans (Cod.len _ _).symm)) rfl ?_
          refine OW.nil ?_
          refine OJ.go 2 [(4, .int .i64 0), (3, .int .i64 0)] ?_
          refine OJ.nil ?_
          exact SJ.ret rfl (Res.run (ys := [c_api_Prefix.val (⟨r7.1, r18⟩ : api_Prefix), .int .i64 0, .int .i64 0]) (.cell (j := 2) (b := b1) (cd := c_api_Prefix) (q := (⟨r7.1, r18⟩ : api_Prefix)) (by kernel_rfl) rfl Ty38 (At.whole _) (.tmp (by kernel_rfl) (.tmp (by kernel_rfl) .nil))) rfl)
noncomputable def weirref4_ParsePrefix.F1 (a0 : ByteArray) (b1 : Nat) (s2 : Int) (r7 : (api_IP × Int × Int)) (b8 : Nat) : (LS Int (api_Prefix × Int × Int)) → Reach := loopF [.inLoop (c1 (c1 (c1 (c2 (c2 (c2 (c2 (c2 (c2 (c2 (c2 weirref4_ParsePrefix.B))))))))))), .inBlock 2, .code (c2 (c2 (c2 (c2 (c2 (c2 (c2 (c2 (c2 weirref4_ParsePrefix.B)))))))))] (fun s_ : Int => [(0, .string a0), (2, .pointer (some (pt b1 0))), (5, .int .i64 s2), (6, .pointer (some (pt b8 0))), (9, .int .i64 s_)]) (fun s_ : Int => [(b8, c_api_IP.enc r7.1), (b1, c_api_Prefix.enc z_api_Prefix)]) weirref4_ParsePrefix.F0
noncomputable def weirref4_ParsePrefix.L1 (a0 : ByteArray) (s2 : Int) (r7 : (api_IP × Int × Int)) (s9 : Int) : M (LS Int (api_Prefix × Int × Int)) :=
  (if s9 < (a0.size : Int) then
      chk ((0 : Int) ≤ s9 ∧ s9 < (a0.size : Int)) >>= fun _ =>
      weirref4_digit (sb a0 s9) >>= fun r27 =>
      pure r27
    else
      pure false) >>= fun y28 =>
  if y28 = true then
    pure (LS.next (IntKind.wrap .i64 (s9 + 1)))
  else
    (weirref4_ParsePrefix.K1 a0 s2 r7 s9) >>= fun b => pure (LS.done b)
theorem weirref4_ParsePrefix.L1_ok (a0 : ByteArray) (b1 : Nat) (s2 : Int) (r7 : (api_IP × Int × Int)) (b8 : Nat) (s9 : Int) :
    SJ weirref4_ParsePrefix.cx [.code (c1 (c1 (c1 (c2 (c2 (c2 (c2 (c2 (c2 (c2 (c2 weirref4_ParsePrefix.B))))))))))), .inLoop (c1 (c1 (c1 (c2 (c2 (c2 (c2 (c2 (c2 (c2 (c2 weirref4_ParsePrefix.B))))))))))), .inBlock 2, .code (c2 (c2 (c2 (c2 (c2 (c2 (c2 (c2 (c2 weirref4_ParsePrefix.B)))))))))] [(0, .string a0), (2, .pointer (some (pt b1 0))), (5, .int .i64 s2), (6, .pointer (some (pt b8 0))), (9, .int .i64 s9)] [(b8, c_api_IP.enc r7.1), (b1, c_api_Prefix.enc z_api_Prefix)] (weirref4_ParsePrefix.L1 a0 s2 r7 s9) (weirref4_ParsePrefix.F1 a0 b1 s2 r7 b8) := by
  unfold weirref4_ParsePrefix.L1
  refine SJ.seq ?_
  refine SJ.sr 10 ?_
  refine OJ.go 5 [(56, .bool (decide (s9 < (a0.size : Int)))), (55, .bool (decide (s9 < (a0.size : Int)))), (54, .int .i64 (a0.size : Int)), (53, .string a0), (52, .int .i64 s9)] ?_
  refine OJ.join (b := decide (s9 < (a0.size : Int))) [5, 6, 7, 8, 9] [] [0, 2, 5, 6, 9, 61] (fun y28 => [(0, .string a0), (2, .pointer (some (pt b1 0))), (5, .int .i64 s2), (6, .pointer (some (pt b8 0))), (9, .int .i64 s9), (61, .bool y28)]) [] [] (t := 56) decide_eq_true_iff (fun hp_ => ?_) (fun hp_ => ?_) (fun _ _ _ _ _ _ h_ => h_) (fun y28 => ?_)
  · refine OJ.go 2 [(58, .int .i64 s9), (57, .string a0)] ?_
    refine OJ.idxT (d := 59) (T := 9) (y := .tmp 57) (j := .tmp 58) (k := .i64) (fun hb25 hb26 => ?_)
    refine OJ.call (d := 60) (g := 70) (ats := #[5]) (args := [.tmp 59]) (owed := []) F70 (weirref4_digit_ok (sb a0 s9)) (fun r27 => ?_)
    refine OW.nil ?_
    refine OJ.go 1 [(61, .bool r27)] ?_
    exact OJ.nil ⟨(Cov.mem Cov.nil), rfl, _, rfl, by kernel_rfl⟩
  · refine OJ.go 5 [(61, .bool false), (60, undef), (59, undef), (58, undef), (57, undef)] ?_
    exact OJ.nil ⟨(Cov.mem Cov.nil), rfl, _, rfl, by kernel_rfl⟩
  · refine OJ.nil ?_
    refine SJ.cond (t := (.tmp 61)) (b := y28) Iff.rfl (fun hc29 => ?_) (fun hc29 => ?_)
    · refine SJ.skip ?_
      refine SJ.block (id := 3) ?_
      refine SJ.rg 3 ?_
      refine OJ.go 3 [(9, .int .i64 (IntKind.wrap .i64 (s9 + 1))), (63, .int .i64 (IntKind.wrap .i64 (s9 + 1))), (62, .int .i64 s9)] ?_
      refine OJ.nil ?_
      refine SJ.inBlock ?_
      exact SJ.at_ [0, 2, 5, 6, 9] rfl
    · refine SJ.exit (id := 2) (by rfl) ?_
      refine SJ.less [0, 2, 5, 6, 9] (m' := [(0, .string a0), (2, .pointer (some (pt b1 0))), (5, .int .i64 s2), (6, .pointer (some (pt b8 0))), (9, .int .i64 s9)]) ?_
      refine SJ.done ?_
      exact weirref4_ParsePrefix.K1_ok a0 b1 s2 r7 b8 s9
noncomputable def weirref4_ParsePrefix.K2 (a0 : ByteArray) (s2 : Int) : M (api_Prefix × Int × Int) :=
  if s2 = (a0.size : Int) then
    pure (z_api_Prefix, 42, (a0.size : Int))
  else
    chk (0 ≤ (0 : Int) ∧ (0 : Int) ≤ s2 ∧ s2 ≤ (a0.size : Int)) >>= fun _ =>
    weirref4_ParseIP (ByteArray.extract a0 (Int.toNat 0) (Int.toNat s2)) >>= fun r7 =>
    slot 28 >>= fun b8 =>
    if r7.2.1 ≠ 0 then
      pure (z_api_Prefix, r7.2.1, r7.2.2)
    else
      loopM (fun s_ : Int => weirref4_ParsePrefix.L1 a0 s2 r7 s_) (IntKind.wrap .i64 (s2 + 1))
theorem weirref4_ParsePrefix.K2_ok (a0 : ByteArray) (b1 : Nat) (s2 : Int) :
    SJ weirref4_ParsePrefix.cx [.code (c2 (c2 (c2 (c2 weirref4_ParsePrefix.B))))] [(0, .string a0), (2, .pointer (some (pt b1 0))), (5, .int .i64 s2)] [(b1, c_api_Prefix.enc z_api_Prefix)] (weirref4_ParsePrefix.K2 a0 s2) weirref4_ParsePrefix.F0 := by
  unfold weirref4_ParsePrefix.K2
  refine SJ.seq ?_
  refine SJ.sr 4 ?_
  refine OJ.go 4 [(33, .bool (s2 == (a0.size : Int))), (32, .int .i64 (a0.size : Int)), (31, .string a0), (30, .int .i64 s2)] ?_
  refine OJ.nil ?_
  refine SJ.cond (t := (.tmp 33)) (b := (s2 == (a0.size : Int))) beq_iff_eq (fun hc31 => ?_) (fun hc31 => ?_)
  · refine SJ.sr 6 ?_
    refine OJ.build (d := 34) (T := 38) (parts := []) (ps := []) (cd := c_api_Prefix) (z0 := z_api_Prefix) z_api_Prefix Ty38 rfl Filled.nil ?_
    refine OJ.go 2 [(36, .int .i64 (a0.size : Int)), (35, .string a0)] ?_
    refine OJ.kst (y := .tmp 2) (z := .tmp 34) (cd := c_api_Prefix) (u := z_api_Prefix) (j := 0) (b := b1) (o := 0) (c_api_Prefix.enc z_api_Prefix) (owed := []) Ty38 rfl (Upd.whole ((Cod.len _ _).trans (Cod.len _ _).symm)) rfl ?_
    refine OW.nil ?_
    refine OJ.go 2 [(4, .int .i64 (a0.size : Int)), (3, .int .i64 42)] ?_
    refine OJ.nil ?_
    exact SJ.ret rfl (Res.run (ys := [c_api_Prefix.val z_api_Prefix, .int .i64 42, .int .i64 (a0.size : Int)]) (.cell (j := 0) (b := b1) (cd := c_api_Prefix) (q := z_api_Prefix) (by kernel_rfl) rfl Ty38 (At.whole _) (.tmp (by kernel_rfl) (.tmp (by kernel_rfl) .nil))) rfl)
  · refine SJ.skip ?_
    refine SJ.sr 12 ?_
    refine OJ.go 2 [(39, .int .i64 s2), (38, .string a0)] ?_
    refine OJ.cutT (d := 40) (t := 9) (y := .tmp 38) (lo := none) (hi := (some (.tmp 39))) (lo' := none) (hi' := some (.i64, s2)) ?_
    refine OJ.call (d := 41) (g := 36) (ats := #[9]) (args := [.tmp 40]) (owed := []) F36 (weirref4_ParseIP_ok (ByteArray.extract a0 (Int.toNat 0) (Int.toNat s2))) (fun r7 => ?_)
    refine OW.nil ?_
    refine OJ.go 4 [(44, .int .i64 r7.2.2), (43, .int .i64 r7.2.1), (42, c_api_IP.val r7.1), (37, .tuple #[c_api_IP.val r7.1, .int .i64 r7.2.1, .int .i64 r7.2.2])] ?_
    refine OJ.slotOf (d := 6) (op := (.alloc 28)) (cd := c_api_IP) (u := z_api_IP) (owed := []) (alloc_run Ty28) (fun b8 => ?_)
    refine OW.nil ?_
    refine OJ.kst (y := .tmp 6) (z := .tmp 42) (cd := c_api_IP) (u := r7.1) (j := 0) (b := b8) (o := 0) (c_api_IP.enc r7.1) (owed := []) Ty28 rfl (Upd.whole ((Cod.len _ _).trans (Cod.len _ _).symm)) rfl ?_
    refine OW.nil ?_
    refine OJ.go 2 [(8, .int .i64 r7.2.2), (7, .int .i64 r7.2.1)] ?_
    refine OJ.nil ?_
    refine SJ.seq ?_
    refine SJ.sr 2 ?_
    refine OJ.go 2 [(46, .bool (r7.2.1 != 0)), (45, .int .i64 r7.2.1)] ?_
    refine OJ.nil ?_
    refine SJ.cond (t := (.tmp 46)) (b := (r7.2.1 != 0)) bne_iff_ne (fun hc30 => ?_) (fun hc30 => ?_)
    · refine SJ.sr 6 ?_
      refine OJ.build (d := 47) (T := 38) (parts := []) (ps := []) (cd := c_api_Prefix) (z0 := z_api_Prefix) z_api_Prefix Ty38 rfl Filled.nil ?_
      refine OJ.go 2 [(49, .int .i64 r7.2.2), (48, .int .i64 r7.2.1)] ?_
      refine OJ.kst (y := .tmp 2) (z := .tmp 47) (cd := c_api_Prefix) (u := z_api_Prefix) (j := 1) (b := b1) (o := 0) (c_api_Prefix.enc z_api_Prefix) (owed := []) Ty38 rfl (Upd.whole ((Cod.len _ _).trans (Cod.len _ _).symm)) rfl ?_
      refine OW.nil ?_
      refine OJ.go 2 [(4, .int .i64 r7.2.2), (3, .int .i64 r7.2.1)] ?_
      refine OJ.nil ?_
      exact SJ.ret rfl (Res.run (ys := [c_api_Prefix.val z_api_Prefix, .int .i64 r7.2.1, .int .i64 r7.2.2]) (.cell (j := 1) (b := b1) (cd := c_api_Prefix) (q := z_api_Prefix) (by kernel_rfl) rfl Ty38 (At.whole _) (.tmp (by kernel_rfl) (.tmp (by kernel_rfl) .nil))) rfl)
    · refine SJ.skip ?_
      refine SJ.sr 3 ?_
      refine OJ.go 3 [(9, .int .i64 (IntKind.wrap .i64 (s2 + 1))), (51, .int .i64 (IntKind.wrap .i64 (s2 + 1))), (50, .int .i64 s2)] ?_
      refine OJ.nil ?_
      refine SJ.seq ?_
      refine SJ.block (id := 2) ?_
      exact SJ.loop (fun s_ : Int => [(0, .string a0), (2, .pointer (some (pt b1 0))), (5, .int .i64 s2), (6, .pointer (some (pt b8 0))), (9, .int .i64 s_)]) (fun s_ : Int => [(b8, c_api_IP.enc r7.1), (b1, c_api_Prefix.enc z_api_Prefix)]) [0, 2, 5, 6, 9] rfl (fun _ _ => rfl) (fun s_ => weirref4_ParsePrefix.L1_ok a0 b1 s2 r7 b8 s_)
noncomputable def weirref4_ParsePrefix.F2 (a0 : ByteArray) (b1 : Nat) : (LS Int (api_Prefix × Int × Int)) → Reach := loopF [.inLoop (c1 (c1 (c1 (c2 (c2 (c2 weirref4_ParsePrefix.B)))))), .inBlock 0, .code (c2 (c2 (c2 (c2 weirref4_ParsePrefix.B))))] (fun s_ : Int => [(0, .string a0), (2, .pointer (some (pt b1 0))), (5, .int .i64 s_)]) (fun s_ : Int => [(b1, c_api_Prefix.enc z_api_Prefix)]) weirref4_ParsePrefix.F0
noncomputable def weirref4_ParsePrefix.L2 (a0 : ByteArray) (s2 : Int) : M (LS Int (api_Prefix × Int × Int)) :=
  (if s2 < (a0.size : Int) then
      chk ((0 : Int) ≤ s2 ∧ s2 < (a0.size : Int)) >>= fun _ =>
      pure ((sb a0 s2) != 47)
    else
      pure false) >>= fun y34 =>
  if y34 = true then
    pure (LS.next (IntKind.wrap .i64 (s2 + 1)))
  else
    (weirref4_ParsePrefix.K2 a0 s2) >>= fun b => pure (LS.done b)
theorem weirref4_ParsePrefix.L2_ok (a0 : ByteArray) (b1 : Nat) (s2 : Int) :
    SJ weirref4_ParsePrefix.cx [.code (c1 (c1 (c1 (c2 (c2 (c2 weirref4_ParsePrefix.B)))))), .inLoop (c1 (c1 (c1 (c2 (c2 (c2 weirref4_ParsePrefix.B)))))), .inBlock 0, .code (c2 (c2 (c2 (c2 weirref4_ParsePrefix.B))))] [(0, .string a0), (2, .pointer (some (pt b1 0))), (5, .int .i64 s2)] [(b1, c_api_Prefix.enc z_api_Prefix)] (weirref4_ParsePrefix.L2 a0 s2) (weirref4_ParsePrefix.F2 a0 b1) := by
  unfold weirref4_ParsePrefix.L2
  refine SJ.seq ?_
  refine SJ.sr 10 ?_
  refine OJ.go 5 [(22, .bool (decide (s2 < (a0.size : Int)))), (21, .bool (decide (s2 < (a0.size : Int)))), (20, .int .i64 (a0.size : Int)), (19, .string a0), (18, .int .i64 s2)] ?_
  refine OJ.join (b := decide (s2 < (a0.size : Int))) [5, 6, 7, 8, 9] [] [0, 2, 5, 27] (fun y34 => [(0, .string a0), (2, .pointer (some (pt b1 0))), (5, .int .i64 s2), (27, .bool y34)]) [] [] (t := 22) decide_eq_true_iff (fun hp_ => ?_) (fun hp_ => ?_) (fun _ _ _ _ _ _ h_ => h_) (fun y34 => ?_)
  · refine OJ.go 2 [(24, .int .i64 s2), (23, .string a0)] ?_
    refine OJ.idxT (d := 25) (T := 9) (y := .tmp 23) (j := .tmp 24) (k := .i64) (fun hb32 hb33 => ?_)
    refine OJ.go 2 [(27, .bool ((sb a0 s2) != 47)), (26, .bool ((sb a0 s2) != 47))] ?_
    exact OJ.nil ⟨(Cov.mem Cov.nil), rfl, _, rfl, by kernel_rfl⟩
  · refine OJ.go 5 [(27, .bool false), (26, undef), (25, undef), (24, undef), (23, undef)] ?_
    exact OJ.nil ⟨(Cov.mem Cov.nil), rfl, _, rfl, by kernel_rfl⟩
  · refine OJ.nil ?_
    refine SJ.cond (t := (.tmp 27)) (b := y34) Iff.rfl (fun hc35 => ?_) (fun hc35 => ?_)
    · refine SJ.skip ?_
      refine SJ.block (id := 1) ?_
      refine SJ.rg 3 ?_
      refine OJ.go 3 [(5, .int .i64 (IntKind.wrap .i64 (s2 + 1))), (29, .int .i64 (IntKind.wrap .i64 (s2 + 1))), (28, .int .i64 s2)] ?_
      refine OJ.nil ?_
      refine SJ.inBlock ?_
      exact SJ.at_ [0, 2, 5] rfl
    · refine SJ.exit (id := 0) (by rfl) ?_
      refine SJ.less [0, 2, 5] (m' := [(0, .string a0), (2, .pointer (some (pt b1 0))), (5, .int .i64 s2)]) ?_
      refine SJ.done ?_
      exact weirref4_ParsePrefix.K2_ok a0 b1 s2
noncomputable def weirref4_ParsePrefix (a0 : ByteArray) : M (api_Prefix × Int × Int) :=
  slot 38 >>= fun b1 =>
  if (a0.size : Int) > 49 then
    pure (z_api_Prefix, 2, 49)
  else
    loopM (fun s_ : Int => weirref4_ParsePrefix.L2 a0 s_) 0
theorem weirref4_ParsePrefix_ok (a0 : ByteArray) : Ref Tryz.prog 38 [.string a0] (weirref4_ParsePrefix a0) weirref4_ParsePrefix.out := by
  refine Ref.of (cd := weirref4_ParsePrefix.B) Tryz.func38 ?_
  show SJ weirref4_ParsePrefix.cx [.code weirref4_ParsePrefix.B] [(0, .string a0)] [] (weirref4_ParsePrefix a0) weirref4_ParsePrefix.F0
  unfold weirref4_ParsePrefix
  refine SJ.sr 3 ?_
  refine OJ.slotOf (d := 2) (op := (.alloc 38)) (cd := c_api_Prefix) (u := z_api_Prefix) (owed := []) (alloc_run Ty38) (fun b1 => ?_)
  refine OW.nil ?_
  refine OJ.go 2 [(4, .int .i64 0), (3, .int .i64 0)] ?_
  refine OJ.nil ?_
  refine SJ.seq ?_
  refine SJ.sr 3 ?_
  refine OJ.go 3 [(16, .bool (decide ((a0.size : Int) > 49))), (15, .int .i64 (a0.size : Int)), (14, .string a0)] ?_
  refine OJ.nil ?_
  refine SJ.cond (t := (.tmp 16)) (b := decide ((a0.size : Int) > 49)) decide_eq_true_iff (fun hc36 => ?_) (fun hc36 => ?_)
  · refine SJ.sr 4 ?_
    refine OJ.build (d := 17) (T := 38) (parts := []) (ps := []) (cd := c_api_Prefix) (z0 := z_api_Prefix) z_api_Prefix Ty38 rfl Filled.nil ?_
    refine OJ.kst (y := .tmp 2) (z := .tmp 17) (cd := c_api_Prefix) (u := z_api_Prefix) (j := 0) (b := b1) (o := 0) (c_api_Prefix.enc z_api_Prefix) (owed := []) Ty38 rfl (Upd.whole ((Cod.len _ _).trans (Cod.len _ _).symm)) rfl ?_
    refine OW.nil ?_
    refine OJ.go 2 [(4, .int .i64 49), (3, .int .i64 2)] ?_
    refine OJ.nil ?_
    exact SJ.ret rfl (Res.run (ys := [c_api_Prefix.val z_api_Prefix, .int .i64 2, .int .i64 49]) (.cell (j := 0) (b := b1) (cd := c_api_Prefix) (q := z_api_Prefix) (by kernel_rfl) rfl Ty38 (At.whole _) (.tmp (by kernel_rfl) (.tmp (by kernel_rfl) .nil))) rfl)
  · refine SJ.skip ?_
    refine SJ.sr 1 ?_
    refine OJ.go 1 [(5, .int .i64 0)] ?_
    refine OJ.nil ?_
    refine SJ.seq ?_
    refine SJ.block (id := 0) ?_
    exact SJ.loop (fun s_ : Int => [(0, .string a0), (2, .pointer (some (pt b1 0))), (5, .int .i64 s_)]) (fun s_ : Int => [(b1, c_api_Prefix.enc z_api_Prefix)]) [0, 2, 5] rfl (fun _ _ => rfl) (fun s_ => weirref4_ParsePrefix.L2_ok a0 b1 s_)

/-! ### weir/addr.ParseMac: function 39 -/
noncomputable def addr_ParseMac.B : Code := (Tryz.f39.body).getD .skip
noncomputable def addr_ParseMac.cx : Fx := ⟨Tryz.prog, 39, Tryz.f39⟩
noncomputable def addr_ParseMac.out (r_ : ((Vec Int 6) × Int × Int)) : Value := .tuple #[((cI .u8).arr 6).val r_.1, .int .i64 r_.2.1, .int .i64 r_.2.2]
noncomputable def addr_ParseMac.F0 (r_ : ((Vec Int 6) × Int × Int)) : Reach := .ret (addr_ParseMac.out r_)
noncomputable def addr_ParseMac.F1 (a0 : ByteArray) (b1 : Nat) (b2 : Nat) : (LS (Int × (Vec Int 6) × (Vec Int 6)) ((Vec Int 6) × Int × Int)) → Reach := loopF [.inLoop (c1 (c1 (c2 (c1 (c2 (c2 (c2 addr_ParseMac.B))))))), .inBlock 0, .code (c2 (c2 (c2 (c2 addr_ParseMac.B))))] (fun s_ : (Int × (Vec Int 6) × (Vec Int 6)) => [(0, .string a0), (2, .pointer (some (pt b1 0))), (5, .pointer (some (pt b2 0))), (12, .int .i64 s_.1)]) (fun s_ : (Int × (Vec Int 6) × (Vec Int 6)) => [(b2, ((cI .u8).arr 6).enc s_.2.1), (b1, ((cI .u8).arr 6).enc s_.2.2)]) addr_ParseMac.F0
noncomputable def addr_ParseMac.L1 (a0 : ByteArray) (s3 : Int) (s4 : (Vec Int 6)) (s5 : (Vec Int 6)) : M (LS (Int × (Vec Int 6) × (Vec Int 6)) ((Vec Int 6) × Int × Int)) :=
  if s3 < 17 then
    if s3 = (a0.size : Int) then
      pure (LS.done ((⟨[0, 0, 0, 0, 0, 0], rfl⟩ : (Vec Int 6)), 42, s3))
    else
      if (Int.tmod s3 3) = 2 then
        chk ((0 : Int) ≤ s3 ∧ s3 < (a0.size : Int)) >>= fun _ =>
        if (sb a0 s3) ≠ 58 then
          pure (LS.done ((⟨[0, 0, 0, 0, 0, 0], rfl⟩ : (Vec Int 6)), 41, s3))
        else
          pure (LS.next (IntKind.wrap .i64 (s3 + 1), s4, s5))
      else
        chk ((0 : Int) ≤ s3 ∧ s3 < (a0.size : Int)) >>= fun _ =>
        addr_hexa (sb a0 s3) >>= fun r31 =>
        if r31 < 0 then
          pure (LS.done ((⟨[0, 0, 0, 0, 0, 0], rfl⟩ : (Vec Int 6)), 41, s3))
        else
          chk ((0 : Int) ≤ (IntKind.wrap .i64 (Int.tdiv s3 3)) ∧ (IntKind.wrap .i64 (Int.tdiv s3 3)) < (6 : Nat)) >>= fun _ =>
          chk ((0 : Int) ≤ (IntKind.wrap .i64 (Int.tdiv s3 3)) ∧ (IntKind.wrap .i64 (Int.tdiv s3 3)) < (6 : Nat)) >>= fun _ =>
          pure (LS.next (IntKind.wrap .i64 (s3 + 1), (Vec.s s4 (IntKind.wrap .i64 (Int.tdiv s3 3)) (bor .u8 (IntKind.wrap .u8 ((Vec.g s4 (IntKind.wrap .i64 (Int.tdiv s3 3)) 0) * 2 ^ 4)) (IntKind.wrap .u8 r31))), s5))
  else
    pure (LS.done (s4, 0, 0))
theorem addr_ParseMac.L1_ok (a0 : ByteArray) (b1 : Nat) (b2 : Nat) (s3 : Int) (s4 : (Vec Int 6)) (s5 : (Vec Int 6)) :
    SJ addr_ParseMac.cx [.code (c1 (c1 (c2 (c1 (c2 (c2 (c2 addr_ParseMac.B))))))), .inLoop (c1 (c1 (c2 (c1 (c2 (c2 (c2 addr_ParseMac.B))))))), .inBlock 0, .code (c2 (c2 (c2 (c2 addr_ParseMac.B))))] [(0, .string a0), (2, .pointer (some (pt b1 0))), (5, .pointer (some (pt b2 0))), (12, .int .i64 s3)] [(b2, ((cI .u8).arr 6).enc s4), (b1, ((cI .u8).arr 6).enc s5)] (addr_ParseMac.L1 a0 s3 s4 s5) (addr_ParseMac.F1 a0 b1 b2) := by
  unfold addr_ParseMac.L1
  refine SJ.sr 1 ?_
  refine OJ.go 1 [(13, .bool (decide (s3 < 17)))] ?_
  refine OJ.nil ?_
  refine SJ.seq ?_
  refine SJ.cond (t := (.tmp 13)) (b := decide (s3 < 17)) decide_eq_true_iff (fun hc39 => ?_) (fun hc39 => ?_)
  · refine SJ.skip ?_
    refine SJ.seq ?_
    refine SJ.block (id := 1) ?_
    refine SJ.sr 2 ?_
    refine OJ.go 2 [(6, .int .i64 s3), (14, .int .i64 s3)] ?_
    refine OJ.nil ?_
    refine SJ.seq ?_
    refine SJ.sr 4 ?_
    refine OJ.go 4 [(18, .bool (s3 == (a0.size : Int))), (17, .int .i64 (a0.size : Int)), (16, .string a0), (15, .int .i64 s3)] ?_
    refine OJ.nil ?_
    refine SJ.cond (t := (.tmp 18)) (b := (s3 == (a0.size : Int))) beq_iff_eq (fun hc38 => ?_) (fun hc38 => ?_)
    · refine SJ.sr 5 ?_
      refine OJ.build (d := 19) (T := 40) (parts := []) (ps := []) (cd := ((cI .u8).arr 6)) (z0 := (Vec.rep 6 0)) (⟨[0, 0, 0, 0, 0, 0], rfl⟩ : (Vec Int 6)) Ty40 rfl Filled.nil ?_
      refine OJ.go 1 [(20, .int .i64 s3)] ?_
      refine OJ.kst (y := .tmp 2) (z := .tmp 19) (cd := ((cI .u8).arr 6)) (u := (⟨[0, 0, 0, 0, 0, 0], rfl⟩ : (Vec Int 6))) (j := 1) (b := b1) (o := 0) (((cI .u8).arr 6).enc (⟨[0, 0, 0, 0, 0, 0], rfl⟩ : (Vec Int 6))) (owed := []) Ty40 rfl (Upd.whole ((Cod.len _ _).trans (Cod.len _ _).symm)) rfl ?_
      refine OW.nil ?_
      refine OJ.go 2 [(4, .int .i64 s3), (3, .int .i64 42)] ?_
      refine OJ.nil ?_
      exact SJ.ret rfl (Res.run (ys := [((cI .u8).arr 6).val (⟨[0, 0, 0, 0, 0, 0], rfl⟩ : (Vec Int 6)), .int .i64 42, .int .i64 s3]) (.cell (j := 1) (b := b1) (cd := ((cI .u8).arr 6)) (q := (⟨[0, 0, 0, 0, 0, 0], rfl⟩ : (Vec Int 6))) (by kernel_rfl) rfl Ty40 (At.whole _) (.tmp (by kernel_rfl) (.tmp (by kernel_rfl) .nil))) rfl)
    · refine SJ.skip ?_
      refine SJ.seq ?_
      refine SJ.sr 3 ?_
      refine OJ.go 3 [(23, .bool ((Int.tmod s3 3) == 2)), (22, .int .i64 (Int.tmod s3 3)), (21, .int .i64 s3)] ?_
      refine OJ.nil ?_
      refine SJ.cond (t := (.tmp 23)) (b := ((Int.tmod s3 3) == 2)) beq_iff_eq (fun hc37 => ?_) (fun hc37 => ?_)
      · refine SJ.seq ?_
        refine SJ.sr 4 ?_
        refine OJ.go 2 [(25, .int .i64 s3), (24, .string a0)] ?_
        refine OJ.idxT (d := 26) (T := 9) (y := .tmp 24) (j := .tmp 25) (k := .i64) (fun hb26 hb27 => ?_)
        refine OJ.go 1 [(27, .bool ((sb a0 s3) != 58))] ?_
        refine OJ.nil ?_
        refine SJ.cond (t := (.tmp 27)) (b := ((sb a0 s3) != 58)) bne_iff_ne (fun hc28 => ?_) (fun hc28 => ?_)
        · refine SJ.sr 5 ?_
          refine OJ.build (d := 28) (T := 40) (parts := []) (ps := []) (cd := ((cI .u8).arr 6)) (z0 := (Vec.rep 6 0)) (⟨[0, 0, 0, 0, 0, 0], rfl⟩ : (Vec Int 6)) Ty40 rfl Filled.nil ?_
          refine OJ.go 1 [(29, .int .i64 s3)] ?_
          refine OJ.kst (y := .tmp 2) (z := .tmp 28) (cd := ((cI .u8).arr 6)) (u := (⟨[0, 0, 0, 0, 0, 0], rfl⟩ : (Vec Int 6))) (j := 1) (b := b1) (o := 0) (((cI .u8).arr 6).enc (⟨[0, 0, 0, 0, 0, 0], rfl⟩ : (Vec Int 6))) (owed := []) Ty40 rfl (Upd.whole ((Cod.len _ _).trans (Cod.len _ _).symm)) rfl ?_
          refine OW.nil ?_
          refine OJ.go 2 [(4, .int .i64 s3), (3, .int .i64 41)] ?_
          refine OJ.nil ?_
          exact SJ.ret rfl (Res.run (ys := [((cI .u8).arr 6).val (⟨[0, 0, 0, 0, 0, 0], rfl⟩ : (Vec Int 6)), .int .i64 41, .int .i64 s3]) (.cell (j := 1) (b := b1) (cd := ((cI .u8).arr 6)) (q := (⟨[0, 0, 0, 0, 0, 0], rfl⟩ : (Vec Int 6))) (by kernel_rfl) rfl Ty40 (At.whole _) (.tmp (by kernel_rfl) (.tmp (by kernel_rfl) .nil))) rfl)
        · refine SJ.skip ?_
          refine SJ.exit (id := 1) (by rfl) ?_
          refine SJ.rg 2 ?_
          refine OJ.go 2 [(12, .int .i64 (IntKind.wrap .i64 (s3 + 1))), (49, .int .i64 (IntKind.wrap .i64 (s3 + 1)))] ?_
          refine OJ.nil ?_
          exact SJ.at_ [0, 2, 5, 12] rfl
      · refine SJ.skip ?_
        refine SJ.sr 5 ?_
        refine OJ.go 2 [(31, .int .i64 s3), (30, .string a0)] ?_
        refine OJ.idxT (d := 32) (T := 9) (y := .tmp 30) (j := .tmp 31) (k := .i64) (fun hb29 hb30 => ?_)
        refine OJ.call (d := 33) (g := 74) (ats := #[5]) (args := [.tmp 32]) (owed := []) F74 (addr_hexa_ok (sb a0 s3)) (fun r31 => ?_)
        refine OW.nil ?_
        refine OJ.go 1 [(7, .int .i64 r31)] ?_
        refine OJ.nil ?_
        refine SJ.seq ?_
        refine SJ.sr 2 ?_
        refine OJ.go 2 [(35, .bool (decide (r31 < 0))), (34, .int .i64 r31)] ?_
        refine OJ.nil ?_
        refine SJ.cond (t := (.tmp 35)) (b := decide (r31 < 0)) decide_eq_true_iff (fun hc36 => ?_) (fun hc36 => ?_)
        · refine SJ.sr 5 ?_
          refine OJ.build (d := 36) (T := 40) (parts := []) (ps := []) (cd := ((cI .u8).arr 6)) (z0 := (Vec.rep 6 0)) (⟨[0, 0, 0, 0, 0, 0], rfl⟩ : (Vec Int 6)) Ty40 rfl Filled.nil ?_
          refine OJ.go 1 [(37, .int .i64 s3)] ?_
          refine OJ.kst (y := .tmp 2) (z := .tmp 36) (cd := ((cI .u8).arr 6)) (u := (⟨[0, 0, 0, 0, 0, 0], rfl⟩ : (Vec Int 6))) (j := 1) (b := b1) (o := 0) (((cI .u8).arr 6).enc (⟨[0, 0, 0, 0, 0, 0], rfl⟩ : (Vec Int 6))) (owed := []) Ty40 rfl (Upd.whole ((Cod.len _ _).trans (Cod.len _ _).symm)) rfl ?_
          refine OW.nil ?_
          refine OJ.go 2 [(4, .int .i64 s3), (3, .int .i64 41)] ?_
          refine OJ.nil ?_
          exact SJ.ret rfl (Res.run (ys := [((cI .u8).arr 6).val (⟨[0, 0, 0, 0, 0, 0], rfl⟩ : (Vec Int 6)), .int .i64 41, .int .i64 s3]) (.cell (j := 1) (b := b1) (cd := ((cI .u8).arr 6)) (q := (⟨[0, 0, 0, 0, 0, 0], rfl⟩ : (Vec Int 6))) (by kernel_rfl) rfl Ty40 (At.whole _) (.tmp (by kernel_rfl) (.tmp (by kernel_rfl) .nil))) rfl)
        · refine SJ.skip ?_
          refine SJ.rg 12 ?_
          refine OJ.go 4 [(41, .int .i64 (IntKind.wrap .i64 (Int.tdiv s3 3))), (40, .int .i64 s3), (39, .int .i64 (IntKind.wrap .i64 (Int.tdiv s3 3))), (38, .int .i64 s3)] ?_
          refine OJ.idxK (d := 42) (T := 40) (y := .tmp 5) (j := .tmp 41) (E := 5) (sz := 1) (b := b2) (o := 0) (k := .i64) (fun hb32 hb33 => ?_)
          refine OJ.kld (d := 43) (y := .tmp 42) (cd := (cI .u8)) (j := 0) (b := b2) (o := (0 + (IntKind.wrap .i64 (Int.tdiv s3 3)).toNat * 1)) (Vec.g s4 (IntKind.wrap .i64 (Int.tdiv s3 3)) 0) (pend2 := []) Ty5 rfl (At.zero (At.arr (z := 0) hb32 hb33)) rfl ?_
          refine OJ.go 4 [(47, .int .u8 (bor .u8 (IntKind.wrap .u8 ((Vec.g s4 (IntKind.wrap .i64 (Int.tdiv s3 3)) 0) * 2 ^ 4)) (IntKind.wrap .u8 r31))), (46, .int .u8 (IntKind.wrap .u8 r31)), (45, .int .i64 r31), (44, .int .u8 (IntKind.wrap .u8 ((Vec.g s4 (IntKind.wrap .i64 (Int.tdiv s3 3)) 0) * 2 ^ 4)))] ?_
          refine OJ.idxK (d := 48) (T := 40) (y := .tmp 5) (j := .tmp 39) (E := 5) (sz := 1) (b := b2) (o := 0) (k := .i64) (fun hb34 hb35 => ?_)
          refine OJ.kst (y := .tmp 48) (z := .tmp 47) (cd := (cI .u8)) (u := (bor .u8 (IntKind.wrap .u8 ((Vec.g s4 (IntKind.wrap .i64 (Int.tdiv s3 3)) 0) * 2 ^ 4)) (IntKind.wrap .u8 r31))) (j := 0) (b := b2) (o := (0 + (IntKind.wrap .i64 (Int.tdiv s3 3)).toNat * 1)) (((cI .u8).arr 6).enc (Vec.s s4 (IntKind.wrap .i64 (Int.tdiv s3 3)) (bor .u8 (IntKind.wrap .u8 ((Vec.g s4 (IntKind.wrap .i64 (Int.tdiv s3 3)) 0) * 2 ^ 4)) (IntKind.wrap .u8 r31)))) (owed := []) Ty5 rfl (Upd.zero (Upd.arr hb34 hb35)) rfl ?_
          refine OW.nil ?_
          refine OJ.nil ?_
          refine SJ.inBlock ?_
          refine SJ.rg 2 ?_
          refine OJ.go 2 [(12, .int .i64 (IntKind.wrap .i64 (s3 + 1))), (49, .int .i64 (IntKind.wrap .i64 (s3 + 1)))] ?_
          refine OJ.nil ?_
          exact SJ.at_ [0, 2, 5, 12] rfl
  · refine SJ.exit (id := 0) (by rfl) ?_
    refine SJ.sr 4 ?_
    refine OJ.kld (d := 50) (y := .tmp 5) (cd := ((cI .u8).arr 6)) (j := 0) (b := b2) (o := 0) s4 (pend2 := []) Ty40 rfl (At.whole _) rfl ?_
    refine OJ.kst (y := .tmp 2) (z := .tmp 50) (cd := ((cI .u8).arr 6)) (u := s4) (j := 1) (b := b1) (o := 0) (((cI .u8).arr 6).enc s4) (owed := []) Ty40 rfl (Upd.whole ((Cod.len _ _).trans (Cod.len _ _).symm)) rfl ?_
    refine OW.nil ?_
    refine OJ.go 2 [(4, .int .i64 0), (3, .int .i64 0)] ?_
    refine OJ.nil ?_
    exact SJ.ret rfl (Res.run (ys := [((cI .u8).arr 6).val s4, .int .i64 0, .int .i64 0]) (.cell (j := 1) (b := b1) (cd := ((cI .u8).arr 6)) (q := s4) (by kernel_rfl) rfl Ty40 (At.whole _) (.tmp (by kernel_rfl) (.tmp (by kernel_rfl) .nil))) rfl)
noncomputable def addr_ParseMac (a0 : ByteArray) : M ((Vec Int 6) × Int × Int) :=
  slot 40 >>= fun b1 =>
  if (a0.size : Int) > 17 then
    pure ((⟨[0, 0, 0, 0, 0, 0], rfl⟩ : (Vec Int 6)), 2, 17)
  else
    slot 40 >>= fun b2 =>
    loopM (fun s_ : (Int × (Vec Int 6) × (Vec Int 6)) => addr_ParseMac.L1 a0 s_.1 s_.2.1 s_.2.2) (0, (Vec.rep 6 0), (Vec.rep 6 0))
theorem addr_ParseMac_ok (a0 : ByteArray) : Ref Tryz.prog 39 [.string a0] (addr_ParseMac a0) addr_ParseMac.out := by
  refine Ref.of (cd := addr_ParseMac.B) Tryz.func39 ?_
  show SJ addr_ParseMac.cx [.code addr_ParseMac.B] [(0, .string a0)] [] (addr_ParseMac a0) addr_ParseMac.F0
  unfold addr_ParseMac
  refine SJ.sr 3 ?_
  refine OJ.slotOf (d := 2) (op := (.alloc 40)) (cd := ((cI .u8).arr 6)) (u := (Vec.rep 6 0)) (owed := []) (alloc_run Ty40) (fun b1 => ?_)
  refine OW.nil ?_
  refine OJ.go 2 [(4, .int .i64 0), (3, .int .i64 0)] ?_
  refine OJ.nil ?_
  refine SJ.seq ?_
  refine SJ.sr 3 ?_
  refine OJ.go 3 [(10, .bool (decide ((a0.size : Int) > 17))), (9, .int .i64 (a0.size : Int)), (8, .string a0)] ?_
  refine OJ.nil ?_
  refine SJ.cond (t := (.tmp 10)) (b := decide ((a0.size : Int) > 17)) decide_eq_true_iff (fun hc40 => ?_) (fun hc40 => ?_)
  · refine SJ.sr 4 ?_
    refine OJ.build (d := 11) (T := 40) (parts := []) (ps := []) (cd := ((cI .u8).arr 6)) (z0 := (Vec.rep 6 0)) (⟨[0, 0, 0, 0, 0, 0], rfl⟩ : (Vec Int 6)) Ty40 rfl Filled.nil ?_
    refine OJ.kst (y := .tmp 2) (z := .tmp 11) (cd := ((cI .u8).arr 6)) (u := (⟨[0, 0, 0, 0, 0, 0], rfl⟩ : (Vec Int 6))) (j := 0) (b := b1) (o := 0) (((cI .u8).arr 6).enc (⟨[0, 0, 0, 0, 0, 0], rfl⟩ : (Vec Int 6))) (owed := []) Ty40 rfl (Upd.whole ((Cod.len _ _).trans (Cod.len _ _).symm)) rfl ?_
    refine OW.nil ?_
    refine OJ.go 2 [(4, .int .i64 17), (3, .int .i64 2)] ?_
    refine OJ.nil ?_
    exact SJ.ret rfl (Res.run (ys := [((cI .u8).arr 6).val (⟨[0, 0, 0, 0, 0, 0], rfl⟩ : (Vec Int 6)), .int .i64 2, .int .i64 17]) (.cell (j := 0) (b := b1) (cd := ((cI .u8).arr 6)) (q := (⟨[0, 0, 0, 0, 0, 0], rfl⟩ : (Vec Int 6))) (by kernel_rfl) rfl Ty40 (At.whole _) (.tmp (by kernel_rfl) (.tmp (by kernel_rfl) .nil))) rfl)
  · refine SJ.skip ?_
    refine SJ.sr 1 ?_
    refine OJ.slotOf (d := 5) (op := (.alloc 40)) (cd := ((cI .u8).arr 6)) (u := (Vec.rep 6 0)) (owed := []) (alloc_run Ty40) (fun b2 => ?_)
    refine OW.nil ?_
    refine OJ.nil ?_
    refine SJ.seq ?_
    refine SJ.sr 1 ?_
    refine OJ.go 1 [(12, .int .i64 0)] ?_
    refine OJ.nil ?_
    refine SJ.block (id := 0) ?_
    exact SJ.loop (fun s_ : (Int × (Vec Int 6) × (Vec Int 6)) => [(0, .string a0), (2, .pointer (some (pt b1 0))), (5, .pointer (some (pt b2 0))), (12, .int .i64 s_.1)]) (fun s_ : (Int × (Vec Int 6) × (Vec Int 6)) => [(b2, ((cI .u8).arr 6).enc s_.2.1), (b1, ((cI .u8).arr 6).enc s_.2.2)]) [0, 2, 5, 12] rfl (fun _ _ => rfl) (fun s_ => addr_ParseMac.L1_ok a0 b1 b2 s_.1 s_.2.1 s_.2.2)

/-! ### weir/weirref4.ParseMac: function 40 -/
noncomputable def weirref4_ParseMac.B : Code := (Tryz.f40.body).getD .skip
noncomputable def weirref4_ParseMac.cx : Fx := ⟨Tryz.prog, 40, Tryz.f40⟩
noncomputable def weirref4_ParseMac.out (r_ : ((Vec Int 6) × Int × Int)) : Value := .tuple #[((cI .u8).arr 6).val r_.1, .int .i64 r_.2.1, .int .i64 r_.2.2]
noncomputable def weirref4_ParseMac.F0 (r_ : ((Vec Int 6) × Int × Int)) : Reach := .ret (weirref4_ParseMac.out r_)
noncomputable def weirref4_ParseMac.F1 (a0 : ByteArray) (b1 : Nat) (b2 : Nat) : (LS (Int × (Vec Int 6) × (Vec Int 6)) ((Vec Int 6) × Int × Int)) → Reach := loopF [.inLoop (c1 (c1 (c2 (c1 (c2 (c2 (c2 weirref4_ParseMac.B))))))), .inBlock 0, .code (c2 (c2 (c2 (c2 weirref4_ParseMac.B))))] (fun s_ : (Int × (Vec Int 6) × (Vec Int 6)) => [(0, .string a0), (2, .pointer (some (pt b1 0))), (5, .pointer (some (pt b2 0))), (6, .int .i64 s_.1)]) (fun s_ : (Int × (Vec Int 6) × (Vec Int 6)) => [(b2, ((cI .u8).arr 6).enc s_.2.1), (b1, ((cI .u8).arr 6).enc s_.2.2)]) weirref4_ParseMac.F0
noncomputable def weirref4_ParseMac.L1 (a0 : ByteArray) (s3 : Int) (s4 : (Vec Int 6)) (s5 : (Vec Int 6)) : M (LS (Int × (Vec Int 6) × (Vec Int 6)) ((Vec Int 6) × Int × Int)) :=
  if s3 < 17 then
    if s3 = (a0.size : Int) then
      pure (LS.done ((⟨[0, 0, 0, 0, 0, 0], rfl⟩ : (Vec Int 6)), 42, s3))
    else
      chk ((0 : Int) ≤ s3 ∧ s3 < (a0.size : Int)) >>= fun _ =>
      (if ¬ (((Int.tmod s3 3) == 2) = ((sb a0 s3) == 58)) then
          pure true
        else
          (if (Int.tmod s3 3) < 2 then
              chk ((0 : Int) ≤ s3 ∧ s3 < (a0.size : Int)) >>= fun _ =>
              weirref4_worth (sb a0 s3) >>= fun r35 =>
              pure (decide (r35 < 0))
            else
              pure false) >>= fun y36 =>
          pure y36) >>= fun y37 =>
      if y37 = true then
        pure (LS.done ((⟨[0, 0, 0, 0, 0, 0], rfl⟩ : (Vec Int 6)), 41, s3))
      else
        if (Int.tmod s3 3) < 2 then
          draw >>= fun _ =>
          chk ((0 : Int) ≤ (IntKind.wrap .i64 (Int.tdiv s3 3)) ∧ (IntKind.wrap .i64 (Int.tdiv s3 3)) < (6 : Nat)) >>= fun _ =>
          chk ((0 : Int) ≤ s3 ∧ s3 < (a0.size : Int)) >>= fun _ =>
          weirref4_worth (sb a0 s3) >>= fun r49 =>
          chk ((0 : Int) ≤ (IntKind.wrap .i64 (Int.tdiv s3 3)) ∧ (IntKind.wrap .i64 (Int.tdiv s3 3)) < (6 : Nat)) >>= fun _ =>
          pure (LS.next (IntKind.wrap .i64 (s3 + 1), (Vec.s s4 (IntKind.wrap .i64 (Int.tdiv s3 3)) (IntKind.wrap .u8 ((IntKind.wrap .u8 ((Vec.g s4 (IntKind.wrap .i64 (Int.tdiv s3 3)) 0) * 16)) + (IntKind.wrap .u8 r49)))), s5))
        else
          pure (LS.next (IntKind.wrap .i64 (s3 + 1), s4, s5))
  else
    pure (LS.done (s4, 0, 0))
theorem weirref4_ParseMac.L1_ok (a0 : ByteArray) (b1 : Nat) (b2 : Nat) (s3 : Int) (s4 : (Vec Int 6)) (s5 : (Vec Int 6)) :
    SJ weirref4_ParseMac.cx [.code (c1 (c1 (c2 (c1 (c2 (c2 (c2 weirref4_ParseMac.B))))))), .inLoop (c1 (c1 (c2 (c1 (c2 (c2 (c2 weirref4_ParseMac.B))))))), .inBlock 0, .code (c2 (c2 (c2 (c2 weirref4_ParseMac.B))))] [(0, .string a0), (2, .pointer (some (pt b1 0))), (5, .pointer (some (pt b2 0))), (6, .int .i64 s3)] [(b2, ((cI .u8).arr 6).enc s4), (b1, ((cI .u8).arr 6).enc s5)] (weirref4_ParseMac.L1 a0 s3 s4 s5) (weirref4_ParseMac.F1 a0 b1 b2) := by
  unfold weirref4_ParseMac.L1
  refine SJ.seq ?_
  refine SJ.sr 2 ?_
  refine OJ.go 2 [(12, .bool (decide (s3 < 17))), (11, .int .i64 s3)] ?_
  refine OJ.nil ?_
  refine SJ.cond (t := (.tmp 12)) (b := decide (s3 < 17)) decide_eq_true_iff (fun hc55 => ?_) (fun hc55 => ?_)
  · refine SJ.skip ?_
    refine SJ.seq ?_
    refine SJ.block (id := 1) ?_
    refine SJ.seq ?_
    refine SJ.sr 4 ?_
    refine OJ.go 4 [(18, .bool (s3 == (a0.size : Int))), (17, .int .i64 (a0.size : Int)), (16, .string a0), (15, .int .i64 s3)] ?_
    refine OJ.nil ?_
    refine SJ.cond (t := (.tmp 18)) (b := (s3 == (a0.size : Int))) beq_iff_eq (fun hc54 => ?_) (fun hc54 => ?_)
    · refine SJ.sr 5 ?_
      refine OJ.build (d := 19) (T := 40) (parts := []) (ps := []) (cd := ((cI .u8).arr 6)) (z0 := (Vec.rep 6 0)) (⟨[0, 0, 0, 0, 0, 0], rfl⟩ : (Vec Int 6)) Ty40 rfl Filled.nil ?_
      refine OJ.go 1 [(20, .int .i64 s3)] ?_
      refine OJ.kst (y := .tmp 2) (z := .tmp 19) (cd := ((cI .u8).arr 6)) (u := (⟨[0, 0, 0, 0, 0, 0], rfl⟩ : (Vec Int 6))) (j := 1) (b := b1) (o := 0) (((cI .u8).arr 6).enc (⟨[0, 0, 0, 0, 0, 0], rfl⟩ : (Vec Int 6))) (owed := []) Ty40 rfl (Upd.whole ((Cod.len _ _).trans (Cod.len _ _).symm)) rfl ?_
      refine OW.nil ?_
      refine OJ.go 2 [(4, .int .i64 s3), (3, .int .i64 42)] ?_
      refine OJ.nil ?_
      exact SJ.ret rfl (Res.run (ys := [((cI .u8).arr 6).val (⟨[0, 0, 0, 0, 0, 0], rfl⟩ : (Vec Int 6)), .int .i64 42, .int .i64 s3]) (.cell (j := 1) (b := b1) (cd := ((cI .u8).arr 6)) (q := (⟨[0, 0, 0, 0, 0, 0], rfl⟩ : (Vec Int 6))) (by kernel_rfl) rfl Ty40 (At.whole _) (.tmp (by kernel_rfl) (.tmp (by kernel_rfl) .nil))) rfl)
    · refine SJ.skip ?_
      refine SJ.seq ?_
      refine SJ.sr 20 ?_
      refine OJ.go 5 [(25, .int .i64 s3), (24, .string a0), (23, .bool ((Int.tmod s3 3) == 2)), (22, .int .i64 (Int.tmod s3 3)), (21, .int .i64 s3)] ?_
      refine OJ.idxT (d := 26) (T := 9) (y := .tmp 24) (j := .tmp 25) (k := .i64) (fun hb31 hb32 => ?_)
      refine OJ.go 3 [(29, .bool (!(((Int.tmod s3 3) == 2) == ((sb a0 s3) == 58)))), (28, .bool (!(((Int.tmod s3 3) == 2) == ((sb a0 s3) == 58)))), (27, .bool ((sb a0 s3) == 58))] ?_
      refine OJ.join (b := (!(((Int.tmod s3 3) == 2) == ((sb a0 s3) == 58)))) [9, 10, 11, 12, 13, 14, 15, 16, 17, 18, 19] [] [0, 2, 5, 6, 40] (fun y37 => [(0, .string a0), (2, .pointer (some (pt b1 0))), (5, .pointer (some (pt b2 0))), (6, .int .i64 s3), (40, .bool y37)]) [] [] (t := 29) (bnot_iff beq_iff_eq) (fun hp_ => ?_) (fun hp_ => ?_) (fun _ _ _ _ _ _ h_ => h_) (fun y37 => ?_)
      · refine OJ.go 11 [(40, .bool true), (39, undef), (38, undef), (37, undef), (36, undef), (35, undef), (34, undef), (33, undef), (32, undef), (31, undef), (30, undef)] ?_
        exact OJ.nil ⟨(Cov.mem Cov.nil), rfl, _, rfl, by kernel_rfl⟩
      · refine OJ.go 4 [(33, .bool (decide ((Int.tmod s3 3) < 2))), (32, .bool (decide ((Int.tmod s3 3) < 2))), (31, .int .i64 (Int.tmod s3 3)), (30, .int .i64 s3)] ?_
        refine OJ.join (b := decide ((Int.tmod s3 3) < 2)) [13, 14, 15, 16, 17, 18] [19] [0, 2, 5, 6, 29, 39] (fun y36 => [(0, .string a0), (2, .pointer (some (pt b1 0))), (5, .pointer (some (pt b2 0))), (6, .int .i64 s3), (29, .bool false), (39, .bool y36)]) [] [] (t := 33) decide_eq_true_iff (fun hp_ => ?_) (fun hp_ => ?_) (fun _ _ _ _ _ hq_ h_ => ⟨fun e_ he_ => (hq_ e_ he_).elim (fun h => h_.1 e_ h) (fun h => nomatch h), h_.2⟩) (fun y36 => ?_)
        · refine OJ.go 2 [(35, .int .i64 s3), (34, .string a0)] ?_
          refine OJ.idxT (d := 36) (T := 9) (y := .tmp 34) (j := .tmp 35) (k := .i64) (fun hb33 hb34 => ?_)
          refine OJ.call (d := 37) (g := 75) (ats := #[5]) (args := [.tmp 36]) (owed := []) F75 (weirref4_worth_ok (sb a0 s3)) (fun r35 => ?_)
          refine OW.nil ?_
          refine OJ.go 2 [(39, .bool (decide (r35 < 0))), (38, .bool (decide (r35 < 0)))] ?_
          exact OJ.nil ⟨(Cov.mem Cov.nil), rfl, _, rfl, by kernel_rfl⟩
        · refine OJ.go 6 [(39, .bool false), (38, undef), (37, undef), (36, undef), (35, undef), (34, undef)] ?_
          exact OJ.nil ⟨(Cov.mem Cov.nil), rfl, _, rfl, by kernel_rfl⟩
        · refine OJ.go 1 [(40, .bool y36)] ?_
          exact OJ.nil ⟨(Cov.mem Cov.nil), rfl, _, rfl, by kernel_rfl⟩
      · refine OJ.nil ?_
        refine SJ.cond (t := (.tmp 40)) (b := y37) Iff.rfl (fun hc53 => ?_) (fun hc53 => ?_)
        · refine SJ.sr 5 ?_
          refine OJ.build (d := 41) (T := 40) (parts := []) (ps := []) (cd := ((cI .u8).arr 6)) (z0 := (Vec.rep 6 0)) (⟨[0, 0, 0, 0, 0, 0], rfl⟩ : (Vec Int 6)) Ty40 rfl Filled.nil ?_
          refine OJ.go 1 [(42, .int .i64 s3)] ?_
          refine OJ.kst (y := .tmp 2) (z := .tmp 41) (cd := ((cI .u8).arr 6)) (u := (⟨[0, 0, 0, 0, 0, 0], rfl⟩ : (Vec Int 6))) (j := 1) (b := b1) (o := 0) (((cI .u8).arr 6).enc (⟨[0, 0, 0, 0, 0, 0], rfl⟩ : (Vec Int 6))) (owed := []) Ty40 rfl (Upd.whole ((Cod.len _ _).trans (Cod.len _ _).symm)) rfl ?_
          refine OW.nil ?_
          refine OJ.go 2 [(4, .int .i64 s3), (3, .int .i64 41)] ?_
          refine OJ.nil ?_
          exact SJ.ret rfl (Res.run (ys := [((cI .u8).arr 6).val (⟨[0, 0, 0, 0, 0, 0], rfl⟩ : (Vec Int 6)), .int .i64 41, .int .i64 s3]) (.cell (j := 1) (b := b1) (cd := ((cI .u8).arr 6)) (q := (⟨[0, 0, 0, 0, 0, 0], rfl⟩ : (Vec Int 6))) (by kernel_rfl) rfl Ty40 (At.whole _) (.tmp (by kernel_rfl) (.tmp (by kernel_rfl) .nil))) rfl)
        · refine SJ.skip ?_
          refine SJ.sr 3 ?_
          refine OJ.go 3 [(45, .bool (decide ((Int.tmod s3 3) < 2))), (44, .int .i64 (Int.tmod s3 3)), (43, .int .i64 s3)] ?_
          refine OJ.nil ?_
          refine SJ.cond (t := (.tmp 45)) (b := decide ((Int.tmod s3 3) < 2)) decide_eq_true_iff (fun hc52 => ?_) (fun hc52 => ?_)
          · refine SJ.draw (id := 12) (kd := [0, 0, 0, 0, 0, 1, 0, 0, 0, 0, 2, 0, 0, 0, 2]) (bef := [0, 1, 0, 4, 12, 28, 60, 0, 0, 384, 896, 1920, 4092, 8191, 16383]) (ord := [0, 1, 2, 3, 4, 5, 6, 7, 8, 9, 10, 11, 12, 13, 14]) mixed ?_
            refine OJ.go 4 [(49, .int .i64 (IntKind.wrap .i64 (Int.tdiv s3 3))), (48, .int .i64 s3), (47, .int .i64 (IntKind.wrap .i64 (Int.tdiv s3 3))), (46, .int .i64 s3)] ?_
            refine OJ.idxK (d := 50) (T := 40) (y := .tmp 5) (j := .tmp 49) (E := 5) (sz := 1) (b := b2) (o := 0) (k := .i64) (fun hb45 hb46 => ?_)
            refine OJ.kld (d := 51) (y := .tmp 50) (cd := (cI .u8)) (j := 0) (b := b2) (o := (0 + (IntKind.wrap .i64 (Int.tdiv s3 3)).toNat * 1)) (Vec.g s4 (IntKind.wrap .i64 (Int.tdiv s3 3)) 0) (pend2 := [⟨5, 5, (pt b2 (0 + (IntKind.wrap .i64 (Int.tdiv s3 3)).toNat * 1)), (cI .u8).val (Vec.g s4 (IntKind.wrap .i64 (Int.tdiv s3 3)) 0)⟩]) Ty5 rfl (At.zero (At.arr (z := 0) hb45 hb46)) rfl ?_
            refine OJ.go 3 [(54, .int .i64 s3), (53, .string a0), (52, .int .u8 (IntKind.wrap .u8 ((Vec.g s4 (IntKind.wrap .i64 (Int.tdiv s3 3)) 0) * 16)))] ?_
            refine OJ.idxT (d := 55) (T := 9) (y := .tmp 53) (j := .tmp 54) (k := .i64) (fun hb47 hb48 => ?_)
            refine OJ.call (d := 56) (g := 75) (ats := #[5]) (args := [.tmp 55]) (owed := [⟨5, 5, (pt b2 (0 + (IntKind.wrap .i64 (Int.tdiv s3 3)).toNat * 1)), (cI .u8).val (Vec.g s4 (IntKind.wrap .i64 (Int.tdiv s3 3)) 0)⟩]) F75 (weirref4_worth_ok (sb a0 s3)) (fun r49 => ?_)
            refine OW.known (j := 0) (q := (Vec.g s4 (IntKind.wrap .i64 (Int.tdiv s3 3)) 0)) Ty5 rfl (At.zero (At.arr (z := 0) hb45 hb46)) ?_
            refine OW.nil ?_
            refine OJ.go 2 [(58, .int .u8 (IntKind.wrap .u8 ((IntKind.wrap .u8 ((Vec.g s4 (IntKind.wrap .i64 (Int.tdiv s3 3)) 0) * 16)) + (IntKind.wrap .u8 r49)))), (57, .int .u8 (IntKind.wrap .u8 r49))] ?_
            refine OJ.idxK (d := 59) (T := 40) (y := .tmp 5) (j := .tmp 47) (E := 5) (sz := 1) (b := b2) (o := 0) (k := .i64) (fun hb50 hb51 => ?_)
            refine OJ.kst (y := .tmp 59) (z := .tmp 58) (cd := (cI .u8)) (u := (IntKind.wrap .u8 ((IntKind.wrap .u8 ((Vec.g s4 (IntKind.wrap .i64 (Int.tdiv s3 3)) 0) * 16)) + (IntKind.wrap .u8 r49)))) (j := 0) (b := b2) (o := (0 + (IntKind.wrap .i64 (Int.tdiv s3 3)).toNat * 1)) (((cI .u8).arr 6).enc (Vec.s s4 (IntKind.wrap .i64 (Int.tdiv s3 3)) (IntKind.wrap .u8 ((IntKind.wrap .u8 ((Vec.g s4 (IntKind.wrap .i64 (Int.tdiv s3 3)) 0) * 16)) + (IntKind.wrap .u8 r49))))) (owed := []) Ty5 rfl (Upd.zero (Upd.arr hb50 hb51)) rfl ?_
            refine OW.nil ?_
            refine OJ.nil ?_
            refine SJ.inBlock ?_
            refine SJ.rg 3 ?_
            refine OJ.go 3 [(6, .int .i64 (IntKind.wrap .i64 (s3 + 1))), (14, .int .i64 (IntKind.wrap .i64 (s3 + 1))), (13, .int .i64 s3)] ?_
            refine OJ.nil ?_
            exact SJ.at_ [0, 2, 5, 6] rfl
          · refine SJ.skip ?_
            refine SJ.inBlock ?_
            refine SJ.rg 3 ?_
            refine OJ.go 3 [(6, .int .i64 (IntKind.wrap .i64 (s3 + 1))), (14, .int .i64 (IntKind.wrap .i64 (s3 + 1))), (13, .int .i64 s3)] ?_
            refine OJ.nil ?_
            exact SJ.at_ [0, 2, 5, 6] rfl
  · refine SJ.exit (id := 0) (by rfl) ?_
    refine SJ.sr 4 ?_
    refine OJ.kld (d := 60) (y := .tmp 5) (cd := ((cI .u8).arr 6)) (j := 0) (b := b2) (o := 0) s4 (pend2 := []) Ty40 rfl (At.whole _) rfl ?_
    refine OJ.kst (y := .tmp 2) (z := .tmp 60) (cd := ((cI .u8).arr 6)) (u := s4) (j := 1) (b := b1) (o := 0) (((cI .u8).arr 6).enc s4) (owed := []) Ty40 rfl (Upd.whole ((Cod.len _ _).trans (Cod.len _ _).symm)) rfl ?_
    refine OW.nil ?_
    refine OJ.go 2 [(4, .int .i64 0), (3, .int .i64 0)] ?_
    refine OJ.nil ?_
    exact SJ.ret rfl (Res.run (ys := [((cI .u8).arr 6).val s4, .int .i64 0, .int .i64 0]) (.cell (j := 1) (b := b1) (cd := ((cI .u8).arr 6)) (q := s4) (by kernel_rfl) rfl Ty40 (At.whole _) (.tmp (by kernel_rfl) (.tmp (by kernel_rfl) .nil))) rfl)
noncomputable def weirref4_ParseMac (a0 : ByteArray) : M ((Vec Int 6) × Int × Int) :=
  slot 40 >>= fun b1 =>
  if (a0.size : Int) > 17 then
    pure ((⟨[0, 0, 0, 0, 0, 0], rfl⟩ : (Vec Int 6)), 2, 17)
  else
    slot 40 >>= fun b2 =>
    loopM (fun s_ : (Int × (Vec Int 6) × (Vec Int 6)) => weirref4_ParseMac.L1 a0 s_.1 s_.2.1 s_.2.2) (0, (Vec.rep 6 0), (Vec.rep 6 0))
theorem weirref4_ParseMac_ok (a0 : ByteArray) : Ref Tryz.prog 40 [.string a0] (weirref4_ParseMac a0) weirref4_ParseMac.out := by
  refine Ref.of (cd := weirref4_ParseMac.B) Tryz.func40 ?_
  show SJ weirref4_ParseMac.cx [.code weirref4_ParseMac.B] [(0, .string a0)] [] (weirref4_ParseMac a0) weirref4_ParseMac.F0
  unfold weirref4_ParseMac
  refine SJ.sr 3 ?_
  refine OJ.slotOf (d := 2) (op := (.alloc 40)) (cd := ((cI .u8).arr 6)) (u := (Vec.rep 6 0)) (owed := []) (alloc_run Ty40) (fun b1 => ?_)
  refine OW.nil ?_
  refine OJ.go 2 [(4, .int .i64 0), (3, .int .i64 0)] ?_
  refine OJ.nil ?_
  refine SJ.seq ?_
  refine SJ.sr 3 ?_
  refine OJ.go 3 [(9, .bool (decide ((a0.size : Int) > 17))), (8, .int .i64 (a0.size : Int)), (7, .string a0)] ?_
  refine OJ.nil ?_
  refine SJ.cond (t := (.tmp 9)) (b := decide ((a0.size : Int) > 17)) decide_eq_true_iff (fun hc56 => ?_) (fun hc56 => ?_)
  · refine SJ.sr 4 ?_
    refine OJ.build (d := 10) (T := 40) (parts := []) (ps := []) (cd := ((cI .u8).arr 6)) (z0 := (Vec.rep 6 0)) (⟨[0, 0, 0, 0, 0, 0], rfl⟩ : (Vec Int 6)) Ty40 rfl Filled.nil ?_
    refine OJ.kst (y := .tmp 2) (z := .tmp 10) (cd := ((cI .u8).arr 6)) (u := (⟨[0, 0, 0, 0, 0, 0], rfl⟩ : (Vec Int 6))) (j := 0) (b := b1) (o := 0) (((cI .u8).arr 6).enc (⟨[0, 0, 0, 0, 0, 0], rfl⟩ : (Vec Int 6))) (owed := []) Ty40 rfl (Upd.whole ((Cod.len _ _).trans (Cod.len _ _).symm)) rfl ?_
    refine OW.nil ?_
    refine OJ.go 2 [(4, .int .i64 17), (3, .int .i64 2)] ?_
    refine OJ.nil ?_
    exact SJ.ret rfl (Res.run (ys := [((cI .u8).arr 6).val (⟨[0, 0, 0, 0, 0, 0], rfl⟩ : (Vec Int 6)), .int .i64 2, .int .i64 17]) (.cell (j := 0) (b := b1) (cd := ((cI .u8).arr 6)) (q := (⟨[0, 0, 0, 0, 0, 0], rfl⟩ : (Vec Int 6))) (by kernel_rfl) rfl Ty40 (At.whole _) (.tmp (by kernel_rfl) (.tmp (by kernel_rfl) .nil))) rfl)
  · refine SJ.skip ?_
    refine SJ.sr 1 ?_
    refine OJ.slotOf (d := 5) (op := (.alloc 40)) (cd := ((cI .u8).arr 6)) (u := (Vec.rep 6 0)) (owed := []) (alloc_run Ty40) (fun b2 => ?_)
    refine OW.nil ?_
    refine OJ.nil ?_
    refine SJ.seq ?_
    refine SJ.sr 1 ?_
    refine OJ.go 1 [(6, .int .i64 0)] ?_
    refine OJ.nil ?_
    refine SJ.block (id := 0) ?_
    exact SJ.loop (fun s_ : (Int × (Vec Int 6) × (Vec Int 6)) => [(0, .string a0), (2, .pointer (some (pt b1 0))), (5, .pointer (some (pt b2 0))), (6, .int .i64 s_.1)]) (fun s_ : (Int × (Vec Int 6) × (Vec Int 6)) => [(b2, ((cI .u8).arr 6).enc s_.2.1), (b1, ((cI .u8).arr 6).enc s_.2.2)]) [0, 2, 5, 6] rfl (fun _ _ => rfl) (fun s_ => weirref4_ParseMac.L1_ok a0 b1 b2 s_.1 s_.2.1 s_.2.2)

/-! ### weir/weirlaw4.parsed: function 21 -/
noncomputable def weirlaw4_parsed.B : Code := (Tryz.f21.body).getD .skip
noncomputable def weirlaw4_parsed.cx : Fx := ⟨Tryz.prog, 21, Tryz.f21⟩
noncomputable def weirlaw4_parsed.out (r_ : Bool) : Value := .bool r_
noncomputable def weirlaw4_parsed.F0 (r_ : Bool) : Reach := .ret (weirlaw4_parsed.out r_)
noncomputable def weirlaw4_parsed (a0 : weirlaw4_Op) : M Bool :=
  slot 42 >>= fun b1 =>
  if a0.Kind = 1 then
    addr_ParseIP a0.S >>= fun r24 =>
    slot 28 >>= fun b25 =>
    weirref4_ParseIP a0.S >>= fun r26 =>
    slot 28 >>= fun b27 =>
    (if r24.1 = r26.1 then
        weirlaw4_num r24.2.1 >>= fun r28 =>
        pure (r28 == r26.2.1)
      else
        pure false) >>= fun y29 =>
    (if y29 = true then
        pure (r24.2.2 == r26.2.2)
      else
        pure false) >>= fun y30 =>
    pure y30
  else
    if a0.Kind = 2 then
      addr_ParsePrefix a0.S >>= fun r38 =>
      slot 38 >>= fun b39 =>
      weirref4_ParsePrefix a0.S >>= fun r40 =>
      slot 38 >>= fun b41 =>
      (if r38.1 = r40.1 then
          weirlaw4_num r38.2.1 >>= fun r42 =>
          pure (r42 == r40.2.1)
        else
          pure false) >>= fun y43 =>
      (if y43 = true then
          pure (r38.2.2 == r40.2.2)
        else
          pure false) >>= fun y44 =>
      pure y44
    else
      addr_ParseMac a0.S >>= fun r45 =>
      slot 40 >>= fun b46 =>
      weirref4_ParseMac a0.S >>= fun r47 =>
      slot 40 >>= fun b48 =>
      (if r45.1 = r47.1 then
          weirlaw4_num r45.2.1 >>= fun r49 =>
          pure (r49 == r47.2.1)
        else
          pure false) >>= fun y50 =>
      (if y50 = true then
          pure (r45.2.2 == r47.2.2)
        else
          pure false) >>= fun y51 =>
      pure y51
theorem weirlaw4_parsed_ok (a0 : weirlaw4_Op) : Ref Tryz.prog 21 [c_weirlaw4_Op.val a0] (weirlaw4_parsed a0) weirlaw4_parsed.out := by
  refine Ref.of (cd := weirlaw4_parsed.B) Tryz.func21 ?_
  show SJ weirlaw4_parsed.cx [.code weirlaw4_parsed.B] [(0, c_weirlaw4_Op.val a0)] [] (weirlaw4_parsed a0) weirlaw4_parsed.F0
  unfold weirlaw4_parsed
  refine SJ.sr 2 ?_
  refine OJ.slotOf (d := 1) (op := (.box 42 (.tmp 0))) (cd := c_weirlaw4_Op) (u := a0) (owed := []) (box_run (by kernel_rfl)) (fun b1 => ?_)
  refine OW.nil ?_
  refine OJ.go 1 [(2, .bool false)] ?_
  refine OJ.nil ?_
  refine SJ.seq ?_
  refine SJ.sr 2 ?_
  refine OJ.go 1 [(21, .pointer (some (pt b1 0)))] ?_
  refine OJ.kld (d := 22) (y := .tmp 21) (cd := (cI .i64)) (j := 0) (b := b1) (o := 0) a0.Kind (pend2 := []) Ty3 rfl (At_weirlaw4_Op_Kind a0) rfl ?_
  refine OJ.nil ?_
  refine SJ.block (id := 0) ?_
  refine SJ.sr 2 ?_
  refine OJ.go 2 [(23, .bool (a0.Kind == 1)), (24, .bool (a0.Kind == 1))] ?_
  refine OJ.nil ?_
  refine SJ.cond (t := (.tmp 23)) (b := (a0.Kind == 1)) beq_iff_eq (fun hc53 => ?_) (fun hc53 => ?_)
  · refine SJ.sr 11 ?_
    refine OJ.go 1 [(26, .pointer (some (pt b1 1)))] ?_
    refine OJ.kld (d := 27) (y := .tmp 26) (cd := cS) (j := 0) (b := b1) (o := 1) a0.S (pend2 := []) Ty9 rfl (At_weirlaw4_Op_S a0) rfl ?_
    refine OJ.call (d := 28) (g := 9) (ats := #[9]) (args := [.tmp 27]) (owed := []) F9 (addr_ParseIP_ok a0.S) (fun r24 => ?_)
    refine OW.nil ?_
    refine OJ.go 4 [(31, .int .i64 r24.2.2), (30, .int .i64 r24.2.1), (29, c_api_IP.val r24.1), (25, .tuple #[c_api_IP.val r24.1, .int .i64 r24.2.1, .int .i64 r24.2.2])] ?_
    refine OJ.slotOf (d := 3) (op := (.alloc 28)) (cd := c_api_IP) (u := z_api_IP) (owed := []) (alloc_run Ty28) (fun b25 => ?_)
    refine OW.nil ?_
    refine OJ.kst (y := .tmp 3) (z := .tmp 29) (cd := c_api_IP) (u := r24.1) (j := 0) (b := b25) (o := 0) (c_api_IP.enc r24.1) (owed := []) Ty28 rfl (Upd.whole ((Cod.len _ _).trans (Cod.len _ _).symm)) rfl ?_
    refine OW.nil ?_
    refine OJ.go 2 [(5, .int .i64 r24.2.2), (4, .int .i64 r24.2.1)] ?_
    refine OJ.nil ?_
    refine SJ.sr 11 ?_
    refine OJ.go 1 [(33, .pointer (some (pt b1 1)))] ?_
    refine OJ.kld (d := 34) (y := .tmp 33) (cd := cS) (j := 1) (b := b1) (o := 1) a0.S (pend2 := []) Ty9 rfl (At_weirlaw4_Op_S a0) rfl ?_
    refine OJ.call (d := 35) (g := 36) (ats := #[9]) (args := [.tmp 34]) (owed := []) F36 (weirref4_ParseIP_ok a0.S) (fun r26 => ?_)
    refine OW.nil ?_
    refine OJ.go 4 [(38, .int .i64 r26.2.2), (37, .int .i64 r26.2.1), (36, c_api_IP.val r26.1), (32, .tuple #[c_api_IP.val r26.1, .int .i64 r26.2.1, .int .i64 r26.2.2])] ?_
    refine OJ.slotOf (d := 6) (op := (.alloc 28)) (cd := c_api_IP) (u := z_api_IP) (owed := []) (alloc_run Ty28) (fun b27 => ?_)
    refine OW.nil ?_
    refine OJ.kst (y := .tmp 6) (z := .tmp 36) (cd := c_api_IP) (u := r26.1) (j := 0) (b := b27) (o := 0) (c_api_IP.enc r26.1) (owed := []) Ty28 rfl (Upd.whole ((Cod.len _ _).trans (Cod.len _ _).symm)) rfl ?_
    refine OW.nil ?_
    refine OJ.go 2 [(8, .int .i64 r26.2.2), (7, .int .i64 r26.2.1)] ?_
    refine OJ.nil ?_
    refine SJ.sr 15 ?_
    refine OJ.kld (d := 39) (y := .tmp 3) (cd := c_api_IP) (j := 1) (b := b25) (o := 0) r24.1 (pend2 := []) Ty28 rfl (At.whole _) rfl ?_
    refine OJ.kld (d := 40) (y := .tmp 6) (cd := c_api_IP) (j := 0) (b := b27) (o := 0) r26.1 (pend2 := []) Ty28 rfl (At.whole _) rfl ?_
    refine OJ.eql (d := 41) (T := 28) (yT := 28) (y := .tmp 39) (z := .tmp 40) (cd := c_api_IP) (p := r24.1) (q := r26.1) rfl Eq28 ?_
    refine OJ.go 1 [(42, .bool (eqv r24.1 r26.1))] ?_
    refine OJ.join (b := (eqv r24.1 r26.1)) [4, 5, 6, 7, 8] [9, 10, 11, 12, 13, 14] [5, 8, 47] (fun y29 => [(5, .int .i64 r24.2.2), (8, .int .i64 r26.2.2), (47, .bool y29)]) [] [] (t := 42) eqv_iff (fun hp_ => ?_) (fun hp_ => ?_) (fun _ _ _ _ _ _ h_ => h_) (fun y29 => ?_)
    · refine OJ.go 1 [(43, .int .i64 r24.2.1)] ?_
      refine OJ.call (d := 44) (g := 13) (ats := #[29]) (args := [.tmp 43]) (owed := []) F13 (weirlaw4_num_ok r24.2.1) (fun r28 => ?_)
      refine OW.nil ?_
      refine OJ.go 3 [(47, .bool (r28 == r26.2.1)), (46, .bool (r28 == r26.2.1)), (45, .int .i64 r26.2.1)] ?_
      exact OJ.nil ⟨(Cov.mem Cov.nil), rfl, _, rfl, by kernel_rfl⟩
    · refine OJ.go 5 [(47, .bool false), (46, undef), (45, undef), (44, undef), (43, undef)] ?_
      exact OJ.nil ⟨(Cov.mem Cov.nil), rfl, _, rfl, by kernel_rfl⟩
    · refine OJ.go 1 [(48, .bool y29)] ?_
      refine OJ.join (b := y29) [10, 11, 12, 13] [14] [52] (fun y30 => [(52, .bool y30)]) [] [] (t := 48) Iff.rfl (fun hp_ => ?_) (fun hp_ => ?_) (fun _ _ _ _ _ _ h_ => h_) (fun y30 => ?_)
      · refine OJ.go 4 [(52, .bool (r24.2.2 == r26.2.2)), (51, .bool (r24.2.2 == r26.2.2)), (50, .int .i64 r26.2.2), (49, .int .i64 r24.2.2)] ?_
        exact OJ.nil ⟨(Cov.mem Cov.nil), rfl, _, rfl, by kernel_rfl⟩
      · refine OJ.go 4 [(52, .bool false), (51, undef), (50, undef), (49, undef)] ?_
        exact OJ.nil ⟨(Cov.mem Cov.nil), rfl, _, rfl, by kernel_rfl⟩
      · refine OJ.go 1 [(2, .bool y30)] ?_
        refine OJ.nil ?_
        exact SJ.ret rfl (Res.run (ys := [.bool y30]) (.tmp (by kernel_rfl) .nil) rfl)
  · refine SJ.sr 2 ?_
    refine OJ.go 2 [(53, .bool (a0.Kind == 2)), (54, .bool (a0.Kind == 2))] ?_
    refine OJ.nil ?_
    refine SJ.cond (t := (.tmp 53)) (b := (a0.Kind == 2)) beq_iff_eq (fun hc52 => ?_) (fun hc52 => ?_)
    · refine SJ.sr 11 ?_
      refine OJ.go 1 [(56, .pointer (some (pt b1 1)))] ?_
      refine OJ.kld (d := 57) (y := .tmp 56) (cd := cS) (j := 0) (b := b1) (o := 1) a0.S (pend2 := []) Ty9 rfl (At_weirlaw4_Op_S a0) rfl ?_
      refine OJ.call (d := 58) (g := 37) (ats := #[9]) (args := [.tmp 57]) (owed := []) F37 (addr_ParsePrefix_ok a0.S) (fun r38 => ?_)
      refine OW.nil ?_
      refine OJ.go 4 [(61, .int .i64 r38.2.2), (60, .int .i64 r38.2.1), (59, c_api_Prefix.val r38.1), (55, .tuple #[c_api_Prefix.val r38.1, .int .i64 r38.2.1, .int .i64 r38.2.2])] ?_
      refine OJ.slotOf (d := 9) (op := (.alloc 38)) (cd := c_api_Prefix) (u := z_api_Prefix) (owed := []) (alloc_run Ty38) (fun b39 => ?_)
      refine OW.nil ?_
      refine OJ.kst (y := .tmp 9) (z := .tmp 59) (cd := c_api_Prefix) (u := r38.1) (j := 0) (b := b39) (o := 0) (c_api_Prefix.enc r38.1) (owed := []) Ty38 rfl (Upd.whole ((Cod.len _ _).trans (Cod.len _ _).symm)) rfl ?_
      refine OW.nil ?_
      refine OJ.go 2 [(11, .int .i64 r38.2.2), (10, .int .i64 r38.2.1)] ?_
      refine OJ.nil ?_
      refine SJ.sr 11 ?_
      refine OJ.go 1 [(63, .pointer (some (pt b1 1)))] ?_
      refine OJ.kld (d := 64) (y := .tmp 63) (cd := cS) (j := 1) (b := b1) (o := 1) a0.S (pend2 := []) Ty9 rfl (At_weirlaw4_Op_S a0) rfl ?_
      refine OJ.call (d := 65) (g := 38) (ats := #[9]) (args := [.tmp 64]) (owed := []) F38 (weirref4_ParsePrefix_ok a0.S) (fun r40 => ?_)
      refine OW.nil ?_
      refine OJ.go 4 [(68, .int .i64 r40.2.2), (67, .int .i64 r40.2.1), (66, c_api_Prefix.val r40.1), (62, .tuple #[c_api_Prefix.val r40.1, .int .i64 r40.2.1, .int .i64 r40.2.2])] ?_
      refine OJ.slotOf (d := 12) (op := (.alloc 38)) (cd := c_api_Prefix) (u := z_api_Prefix) (owed := []) (alloc_run Ty38) (fun b41 => ?_)
      refine OW.nil ?_
      refine OJ.kst (y := .tmp 12) (z := .tmp 66) (cd := c_api_Prefix) (u := r40.1) (j := 0) (b := b41) (o := 0) (c_api_Prefix.enc r40.1) (owed := []) Ty38 rfl (Upd.whole ((Cod.len _ _).trans (Cod.len _ _).symm)) rfl ?_
      refine OW.nil ?_
      refine OJ.go 2 [(14, .int .i64 r40.2.2), (13, .int .i64 r40.2.1)] ?_
      refine OJ.nil ?_
      refine SJ.sr 15 ?_
      refine OJ.kld (d := 69) (y := .tmp 9) (cd := c_api_Prefix) (j := 1) (b := b39) (o := 0) r38.1 (pend2 := []) Ty38 rfl (At.whole _) rfl ?_
      refine OJ.kld (d := 70) (y := .tmp 12) (cd := c_api_Prefix) (j := 0) (b := b41) (o := 0) r40.1 (pend2 := []) Ty38 rfl (At.whole _) rfl ?_
      refine OJ.eql (d := 71) (T := 38) (yT := 38) (y := .tmp 69) (z := .tmp 70) (cd := c_api_Prefix) (p := r38.1) (q := r40.1) rfl Eq38 ?_
      refine OJ.go 1 [(72, .bool (eqv r38.1 r40.1))] ?_
      refine OJ.join (b := (eqv r38.1 r40.1)) [4, 5, 6, 7, 8] [9, 10, 11, 12, 13, 14] [11, 14, 77] (fun y43 => [(11, .int .i64 r38.2.2), (14, .int .i64 r40.2.2), (77, .bool y43)]) [] [] (t := 72) eqv_iff (fun hp_ => ?_) (fun hp_ => ?_) (fun _ _ _ _ _ _ h_ => h_) (fun y43 => ?_)
      · refine OJ.go 1 [(73, .int .i64 r38.2.1)] ?_
        refine OJ.call (d := 74) (g := 13) (ats := #[29]) (args := [.tmp 73]) (owed := []) F13 (weirlaw4_num_ok r38.2.1) (fun r42 => ?_)
        refine OW.nil ?_
        refine OJ.go 3 [(77, .bool (r42 == r40.2.1)), (76, .bool (r42 == r40.2.1)), (75, .int .i64 r40.2.1)] ?_
        exact OJ.nil ⟨(Cov.mem Cov.nil), rfl, _, rfl, by kernel_rfl⟩
      · refine OJ.go 5 [(77, .bool false), (76, undef), (75, undef), (74, undef), (73, undef)] ?_
        exact OJ.nil ⟨(Cov.mem Cov.nil), rfl, _, rfl, by kernel_rfl⟩
      · refine OJ.go 1 [(78, .bool y43)] ?_
        refine OJ.join (b := y43) [10, 11, 12, 13] [14] [82] (fun y44 => [(82, .bool y44)]) [] [] (t := 78) Iff.rfl (fun hp_ => ?_) (fun hp_ => ?_) (fun _ _ _ _ _ _ h_ => h_) (fun y44 => ?_)
        · refine OJ.go 4 [(82, .bool (r38.2.2 == r40.2.2)), (81, .bool (r38.2.2 == r40.2.2)), (80, .int .i64 r40.2.2), (79, .int .i64 r38.2.2)] ?_
          exact OJ.nil ⟨(Cov.mem Cov.nil), rfl, _, rfl, by kernel_rfl⟩
        · refine OJ.go 4 [(82, .bool false), (81, undef), (80, undef), (79, undef)] ?_
          exact OJ.nil ⟨(Cov.mem Cov.nil), rfl, _, rfl, by kernel_rfl⟩
        · refine OJ.go 1 [(2, .bool y44)] ?_
          refine OJ.nil ?_
          exact SJ.ret rfl (Res.run (ys := [.bool y44]) (.tmp (by kernel_rfl) .nil) rfl)
    · refine SJ.skip ?_
      refine SJ.inBlock ?_
      refine SJ.sr 11 ?_
      refine OJ.go 1 [(84, .pointer (some (pt b1 1)))] ?_
      refine OJ.kld (d := 85) (y := .tmp 84) (cd := cS) (j := 0) (b := b1) (o := 1) a0.S (pend2 := []) Ty9 rfl (At_weirlaw4_Op_S a0) rfl ?_
      refine OJ.call (d := 86) (g := 39) (ats := #[9]) (args := [.tmp 85]) (owed := []) F39 (addr_ParseMac_ok a0.S) (fun r45 => ?_)
      refine OW.nil ?_
      refine OJ.go 4 [(89, .int .i64 r45.2.2), (88, .int .i64 r45.2.1), (87, ((cI .u8).arr 6).val r45.1), (83, .tuple #[((cI .u8).arr 6).val r45.1, .int .i64 r45.2.1, .int .i64 r45.2.2])] ?_
      refine OJ.slotOf (d := 15) (op := (.alloc 40)) (cd := ((cI .u8).arr 6)) (u := (Vec.rep 6 0)) (owed := []) (alloc_run Ty40) (fun b46 => ?_)
      refine OW.nil ?_
      refine OJ.kst (y := .tmp 15) (z := .tmp 87) (cd := ((cI .u8).arr 6)) (u := r45.1) (j := 0) (b := b46) (o := 0) (((cI .u8).arr 6).enc r45.1) (owed := []) Ty40 rfl (Upd.whole ((Cod.len _ _).trans (Cod.len _ _).symm)) rfl ?_
      refine OW.nil ?_
      refine OJ.go 2 [(17, .int .i64 r45.2.2), (16, .int .i64 r45.2.1)] ?_
      refine OJ.nil ?_
      refine SJ.sr 11 ?_
      refine OJ.go 1 [(91, .pointer (some (pt b1 1)))] ?_
      refine OJ.kld (d := 92) (y := .tmp 91) (cd := cS) (j := 1) (b := b1) (o := 1) a0.S (pend2 := []) Ty9 rfl (At_weirlaw4_Op_S a0) rfl ?_
      refine OJ.call (d := 93) (g := 40) (ats := #[9]) (args := [.tmp 92]) (owed := []) F40 (weirref4_ParseMac_ok a0.S) (fun r47 => ?_)
      refine OW.nil ?_
      refine OJ.go 4 [(96, .int .i64 r47.2.2), (95, .int .i64 r47.2.1), (94, ((cI .u8).arr 6).val r47.1), (90, .tuple #[((cI .u8).arr 6).val r47.1, .int .i64 r47.2.1, .int .i64 r47.2.2])] ?_
      refine OJ.slotOf (d := 18) (op := (.alloc 40)) (cd := ((cI .u8).arr 6)) (u := (Vec.rep 6 0)) (owed := []) (alloc_run Ty40) (fun b48 => ?_)
      refine OW.nil ?_
      refine OJ.kst (y := .tmp 18) (z := .tmp 94) (cd := ((cI .u8).arr 6)) (u := r47.1) (j := 0) (b := b48) (o := 0) (((cI .u8).arr 6).enc r47.1) (owed := []) Ty40 rfl (Upd.whole ((Cod.len _ _).trans (Cod.len _ _).symm)) rfl ?_
      refine OW.nil ?_
      refine OJ.go 2 [(20, .int .i64 r47.2.2), (19, .int .i64 r47.2.1)] ?_
      refine OJ.nil ?_
      refine SJ.sr 15 ?_
      refine OJ.kld (d := 97) (y := .tmp 15) (cd := ((cI .u8).arr 6)) (j := 1) (b := b46) (o := 0) r45.1 (pend2 := []) Ty40 rfl (At.whole _) rfl ?_
      refine OJ.kld (d := 98) (y := .tmp 18) (cd := ((cI .u8).arr 6)) (j := 0) (b := b48) (o := 0) r47.1 (pend2 := []) Ty40 rfl (At.whole _) rfl ?_
      refine OJ.eql (d := 99) (T := 40) (yT := 40) (y := .tmp 97) (z := .tmp 98) (cd := ((cI .u8).arr 6)) (p := r45.1) (q := r47.1) rfl Eq40 ?_
      refine OJ.go 1 [(100, .bool (eqv r45.1 r47.1))] ?_
      refine OJ.join (b := (eqv r45.1 r47.1)) [4, 5, 6, 7, 8] [9, 10, 11, 12, 13, 14] [17, 20, 105] (fun y50 => [(17, .int .i64 r45.2.2), (20, .int .i64 r47.2.2), (105, .bool y50)]) [] [] (t := 100) eqv_iff (fun hp_ => ?_) (fun hp_ => ?_) (fun _ _ _ _ _ _ h_ => h_) (fun y50 => ?_)
      · refine OJ.go 1 [(101, .int .i64 r45.2.1)] ?_
        refine OJ.call (d := 102) (g := 13) (ats := #[29]) (args := [.tmp 101]) (owed := []) F13 (weirlaw4_num_ok r45.2.1) (fun r49 => ?_)
        refine OW.nil ?_
        refine OJ.go 3 [(105, .bool (r49 == r47.2.1)), (104, .bool (r49 == r47.2.1)), (103, .int .i64 r47.2.1)] ?_
        exact OJ.nil ⟨(Cov.mem Cov.nil), rfl, _, rfl, by kernel_rfl⟩
      · refine OJ.go 5 [(105, .bool false), (104, undef), (103, undef), (102, undef), (101, undef)] ?_
        exact OJ.nil ⟨(Cov.mem Cov.nil), rfl, _, rfl, by kernel_rfl⟩
      · refine OJ.go 1 [(106, .bool y50)] ?_
        refine OJ.join (b := y50) [10, 11, 12, 13] [14] [110] (fun y51 => [(110, .bool y51)]) [] [] (t := 106) Iff.rfl (fun hp_ => ?_) (fun hp_ => ?_) (fun _ _ _ _ _ _ h_ => h_) (fun y51 => ?_)
        · refine OJ.go 4 [(110, .bool (r45.2.2 == r47.2.2)), (109, .bool (r45.2.2 == r47.2.2)), (108, .int .i64 r47.2.2), (107, .int .i64 r45.2.2)] ?_
          exact OJ.nil ⟨(Cov.mem Cov.nil), rfl, _, rfl, by kernel_rfl⟩
        · refine OJ.go 4 [(110, .bool false), (109, undef), (108, undef), (107, undef)] ?_
          exact OJ.nil ⟨(Cov.mem Cov.nil), rfl, _, rfl, by kernel_rfl⟩
        · refine OJ.go 1 [(2, .bool y51)] ?_
          refine OJ.nil ?_
          exact SJ.ret rfl (Res.run (ys := [.bool y51]) (.tmp (by kernel_rfl) .nil) rfl)

/-! ### (*strings.Builder).WriteByte: function 81 -/
noncomputable def strings_Builder_WriteByte.B : Code := (Tryz.f81.body).getD .skip
noncomputable def strings_Builder_WriteByte.cx : Fx := ⟨Tryz.prog, 81, Tryz.f81⟩
noncomputable def strings_Builder_WriteByte.out (r_ : Any) : Value := r_.v
noncomputable def strings_Builder_WriteByte.F0 (r_ : Any) : Reach := .ret (strings_Builder_WriteByte.out r_)
noncomputable def strings_Builder_WriteByte (a0 : (Option Addr)) (a1 : Int) : M Any :=
  strings_Builder_copyCheck a0 >>= fun r1 =>
  nilck a0 >>= fun p2 =>
  ld cL (Addr.add p2 1) >>= fun x3 =>
  slot 5 >>= fun b4 =>
  appl (cI .u8) 5 1 0 x3 [a1] >>= fun r5 =>
  nilck a0 >>= fun p6 =>
  st cL (Addr.add p6 1) r5 >>= fun _ =>
  pure (⟨.nilIface, rfl⟩ : Any)
theorem strings_Builder_WriteByte_ok (a0 : (Option Addr)) (a1 : Int) : Ref Tryz.prog 81 [.pointer a0, .int .u8 a1] (strings_Builder_WriteByte a0 a1) strings_Builder_WriteByte.out := by
  refine Ref.of (cd := strings_Builder_WriteByte.B) Tryz.func81 ?_
  show SJ strings_Builder_WriteByte.cx [.code strings_Builder_WriteByte.B] [(0, .pointer a0), (1, .int .u8 a1)] [] (strings_Builder_WriteByte a0 a1) strings_Builder_WriteByte.F0
  unfold strings_Builder_WriteByte
  refine SJ.sr 1 ?_
  refine OJ.go 1 [(4, (⟨.nilIface, rfl⟩ : Any).v)] ?_
  refine OJ.nil ?_
  refine SJ.sr 2 ?_
  refine OJ.go 1 [(5, .pointer a0)] ?_
  refine OJ.call (d := 6) (g := 88) (ats := #[111]) (args := [.tmp 5]) (owed := []) F88 (strings_Builder_copyCheck_ok a0) (fun r1 => ?_)
  refine OW.nil ?_
  refine OJ.nil ?_
  refine SJ.sr 11 ?_
  refine OJ.go 2 [(8, .pointer a0), (7, .pointer a0)] ?_
  refine OJ.nilck (d := 9) (y := .tmp 8) (fun p2 => ?_)
  refine OJ.go 1 [(10, .pointer (some (Addr.add p2 1)))] ?_
  refine OJ.ld (d := 11) (y := .tmp 10) (pend2 := fun x3 => []) Ty51 (fun _ => rfl) (fun x3 => ?_)
  refine OJ.go 1 [(12, .int .u8 a1)] ?_
  refine OJ.rowSlot (d := 13) (t := 51) (parts := [(0, .tmp 12)]) (ps := [(0, (cI .u8).val a1)]) (cd := (cI .u8)) (⟨[a1], rfl⟩ : Vec Int 1) (owed := []) Ty5 (Filled.cons (cd := (cI .u8)) (q := a1) (o := 0) rfl (Upd.arr (i := 0) (by decide) (by decide)) Filled.nil) (fun b4 => ?_)
  refine OW.nil ?_
  refine OJ.appl (d := 14) (t := 51) (u := 51) (so := .tmp 11) (xo := .tmp 13) (j := 0) (b := b4) (l := ((cI .u8).arr 1).enc (⟨[a1], rfl⟩ : Vec Int 1)) (n := 1) (k := 1) [a1] (owed := []) Ty5 (by rfl) (Cod.arr_enc _ _ _) (by rfl) (fun r5 => ?_)
  refine OW.nil ?_
  refine OJ.nilck (d := 15) (y := .tmp 7) (fun p6 => ?_)
  refine OJ.go 1 [(16, .pointer (some (Addr.add p6 1)))] ?_
  refine OJ.st (y := .tmp 16) (z := .tmp 14) (owed := []) Ty51 ?_
  refine OW.nil ?_
  refine OJ.nil ?_
  refine SJ.sr 1 ?_
  refine OJ.go 1 [(4, (⟨.nilIface, rfl⟩ : Any).v)] ?_
  refine OJ.nil ?_
  exact SJ.ret rfl (Res.run (ys := [(⟨.nilIface, rfl⟩ : Any).v]) (.tmp (by kernel_rfl) .nil) rfl)

/-! ### weir/weirlaw4.plays: function 14 -/
noncomputable def weirlaw4_plays.B : Code := (Tryz.f14.body).getD .skip
noncomputable def weirlaw4_plays.cx : Fx := ⟨Tryz.prog, 14, Tryz.f14⟩
noncomputable def weirlaw4_plays.out (r_ : Bool) : Value := .bool r_
noncomputable def weirlaw4_plays.F0 (r_ : Bool) : Reach := .ret (weirlaw4_plays.out r_)
noncomputable def weirlaw4_plays.K1 (a0 : weirlaw4_Op) (j4 : Bool) : M Bool :=
  if j4 = true then
    weirlaw4_parsed a0 >>= fun r6 =>
    pure r6
  else
    fail
theorem weirlaw4_plays.K1_ok (a0 : weirlaw4_Op) (b1 : Nat) (j4 : Bool) :
    SJ weirlaw4_plays.cx [.code (c2 (c1 (c2 (c1 (c2 weirlaw4_plays.B))))), .inBlock 0, .code (c2 (c2 weirlaw4_plays.B))] [(1, .pointer (some (pt b1 0))), (12, .int .i64 a0.Kind), (13, .bool j4)] [(b1, c_weirlaw4_Op.enc a0)] (weirlaw4_plays.K1 a0 j4) weirlaw4_plays.F0 := by
  unfold weirlaw4_plays.K1
  refine SJ.cond (t := (.tmp 13)) (b := j4) Iff.rfl (fun hc7 => ?_) (fun hc7 => ?_)
  · refine SJ.sr 3 ?_
    refine OJ.kld (d := 17) (y := .tmp 1) (cd := c_weirlaw4_Op) (j := 0) (b := b1) (o := 0) a0 (pend2 := []) Ty42 rfl (At.whole _) rfl ?_
    refine OJ.call (d := 18) (g := 21) (ats := #[42]) (args := [.tmp 17]) (owed := []) F21 (weirlaw4_parsed_ok a0) (fun r6 => ?_)
    refine OW.nil ?_
    refine OJ.go 1 [(2, .bool r6)] ?_
    refine OJ.nil ?_
    exact SJ.ret rfl (Res.run (ys := [.bool r6]) (.tmp (by kernel_rfl) .nil) rfl)
  · exact SJ.fail
noncomputable def weirlaw4_plays.K2 (a0 : weirlaw4_Op) (j8 : Bool) : M Bool :=
  weirlaw4_plays.K1 a0 j8
theorem weirlaw4_plays.K2_ok (a0 : weirlaw4_Op) (b1 : Nat) (j8 : Bool) :
    SJ weirlaw4_plays.cx [.code (c2 (c1 (c2 (c1 (c2 weirlaw4_plays.B))))), .inBlock 0, .code (c2 (c2 weirlaw4_plays.B))] [(1, .pointer (some (pt b1 0))), (12, .int .i64 a0.Kind), (13, .bool j8)] [(b1, c_weirlaw4_Op.enc a0)] (weirlaw4_plays.K2 a0 j8) weirlaw4_plays.F0 := by
  unfold weirlaw4_plays.K2
  refine SJ.less [1, 12, 13] (m' := [(1, .pointer (some (pt b1 0))), (12, .int .i64 a0.Kind), (13, .bool j8)]) ?_
  exact weirlaw4_plays.K1_ok a0 b1 j8
noncomputable def weirlaw4_plays (a0 : weirlaw4_Op) : M Bool :=
  slot 42 >>= fun b1 =>
  if a0.Kind = 1 then
    weirlaw4_plays.K1 a0 (a0.Kind == 1)
  else
    if a0.Kind = 2 then
      weirlaw4_plays.K2 a0 (a0.Kind == 2)
    else
      weirlaw4_plays.K2 a0 (a0.Kind == 3)
theorem weirlaw4_plays_ok (a0 : weirlaw4_Op) : Ref Tryz.prog 14 [c_weirlaw4_Op.val a0] (weirlaw4_plays a0) weirlaw4_plays.out := by
  refine Ref.of (cd := weirlaw4_plays.B) Tryz.func14 ?_
  show SJ weirlaw4_plays.cx [.code weirlaw4_plays.B] [(0, c_weirlaw4_Op.val a0)] [] (weirlaw4_plays a0) weirlaw4_plays.F0
  unfold weirlaw4_plays
  refine SJ.sr 2 ?_
  refine OJ.slotOf (d := 1) (op := (.box 42 (.tmp 0))) (cd := c_weirlaw4_Op) (u := a0) (owed := []) (box_run (by kernel_rfl)) (fun b1 => ?_)
  refine OW.nil ?_
  refine OJ.go 1 [(2, .bool false)] ?_
  refine OJ.nil ?_
  refine SJ.seq ?_
  refine SJ.sr 2 ?_
  refine OJ.go 1 [(11, .pointer (some (pt b1 0)))] ?_
  refine OJ.kld (d := 12) (y := .tmp 11) (cd := (cI .i64)) (j := 0) (b := b1) (o := 0) a0.Kind (pend2 := []) Ty3 rfl (At_weirlaw4_Op_Kind a0) rfl ?_
  refine OJ.nil ?_
  refine SJ.block (id := 0) ?_
  refine SJ.seq ?_
  refine SJ.sr 2 ?_
  refine OJ.go 2 [(13, .bool (a0.Kind == 1)), (14, .bool (a0.Kind == 1))] ?_
  refine OJ.nil ?_
  refine SJ.cond (t := (.tmp 13)) (b := (a0.Kind == 1)) beq_iff_eq (fun hc10 => ?_) (fun hc10 => ?_)
  · refine SJ.skip ?_
    refine SJ.less [1, 12, 13] (m' := [(1, .pointer (some (pt b1 0))), (12, .int .i64 a0.Kind), (13, .bool (a0.Kind == 1))]) ?_
    exact weirlaw4_plays.K1_ok a0 b1 (a0.Kind == 1)
  · refine SJ.sr 2 ?_
    refine OJ.go 2 [(13, .bool (a0.Kind == 2)), (15, .bool (a0.Kind == 2))] ?_
    refine OJ.nil ?_
    refine SJ.cond (t := (.tmp 13)) (b := (a0.Kind == 2)) beq_iff_eq (fun hc9 => ?_) (fun hc9 => ?_)
    · refine SJ.skip ?_
      refine SJ.less [1, 12, 13] (m' := [(1, .pointer (some (pt b1 0))), (12, .int .i64 a0.Kind), (13, .bool (a0.Kind == 2))]) ?_
      exact weirlaw4_plays.K2_ok a0 b1 (a0.Kind == 2)
    · refine SJ.rg 2 ?_
      refine OJ.go 2 [(13, .bool (a0.Kind == 3)), (16, .bool (a0.Kind == 3))] ?_
      refine OJ.nil ?_
      refine SJ.less [1, 12, 13] (m' := [(1, .pointer (some (pt b1 0))), (12, .int .i64 a0.Kind), (13, .bool (a0.Kind == 3))]) ?_
      exact weirlaw4_plays.K2_ok a0 b1 (a0.Kind == 3)

/-! ### weir/weirlaw4.upTo: function 8 -/
noncomputable def weirlaw4_upTo.B : Code := (Tryz.f8.body).getD .skip
noncomputable def weirlaw4_upTo.cx : Fx := ⟨Tryz.prog, 8, Tryz.f8⟩
noncomputable def weirlaw4_upTo.out (r_ : Bool) : Value := .bool r_
noncomputable def weirlaw4_upTo.F0 (r_ : Bool) : Reach := .ret (weirlaw4_upTo.out r_)
noncomputable def weirlaw4_upTo.F1 (a0 : Sl) (a1 : Int) (a2 : Int) : (LS Int Bool) → Reach := loopF [.inLoop (c1 (c1 (c2 (c1 (c2 weirlaw4_upTo.B))))), .inBlock 0, .code (c2 (c2 weirlaw4_upTo.B))] (fun s_ : Int => [(0, Sl.v a0), (1, .int .i64 a1), (2, .int .i64 a2), (7, .int .i64 s_)]) (fun s_ : Int => []) weirlaw4_upTo.F0
noncomputable def weirlaw4_upTo.L1 (a0 : Sl) (a1 : Int) (a2 : Int) (s1 : Int) : M (LS Int Bool) :=
  if s1 < (a0.len : Int) then
    idx a0.a a0.len s1 61 >>= fun p17 =>
    ld (cI .i64) p17 >>= fun x18 =>
    (if x18 ≥ a1 then
        idx a0.a a0.len s1 61 >>= fun p19 =>
        ld (cI .i64) p19 >>= fun x20 =>
        pure (decide (x20 ≤ a2))
      else
        pure false) >>= fun y21 =>
    if y21 = true then
      idx a0.a a0.len s1 61 >>= fun p26 =>
      ld c_weirlaw4_Op p26 >>= fun x27 =>
      weirlaw4_plays x27 >>= fun r28 =>
      if ¬ (r28 = true) then
        pure (LS.done false)
      else
        pure (LS.next (IntKind.wrap .i64 (s1 + 1)))
    else
      pure (LS.next (IntKind.wrap .i64 (s1 + 1)))
  else
    pure (LS.done true)
theorem weirlaw4_upTo.L1_ok (a0 : Sl) (a1 : Int) (a2 : Int) (s1 : Int) :
    SJ weirlaw4_upTo.cx [.code (c1 (c1 (c2 (c1 (c2 weirlaw4_upTo.B))))), .inLoop (c1 (c1 (c2 (c1 (c2 weirlaw4_upTo.B))))), .inBlock 0, .code (c2 (c2 weirlaw4_upTo.B))] [(0, Sl.v a0), (1, .int .i64 a1), (2, .int .i64 a2), (7, .int .i64 s1)] [] (weirlaw4_upTo.L1 a0 a1 a2 s1) (weirlaw4_upTo.F1 a0 a1 a2) := by
  unfold weirlaw4_upTo.L1
  refine SJ.seq ?_
  refine SJ.sr 4 ?_
  refine OJ.go 4 [(12, .bool (decide (s1 < (a0.len : Int)))), (11, .int .i64 (a0.len : Int)), (10, Sl.v a0), (9, .int .i64 s1)] ?_
  refine OJ.nil ?_
  refine SJ.cond (t := (.tmp 12)) (b := decide (s1 < (a0.len : Int))) decide_eq_true_iff (fun hc31 => ?_) (fun hc31 => ?_)
  · refine SJ.skip ?_
    refine SJ.seq ?_
    refine SJ.block (id := 1) ?_
    refine SJ.sr 16 ?_
    refine OJ.go 2 [(16, .int .i64 s1), (15, Sl.v a0)] ?_
    refine OJ.idxS (d := 17) (T := 22) (y := .tmp 15) (j := .tmp 16) (E := 42) (cap := a0.cap) (k := .i64) (fun p17 => ?_)
    refine OJ.go 1 [(18, .pointer (some p17))] ?_
    refine OJ.ld (d := 19) (y := .tmp 18) (pend2 := fun x18 => []) Ty3 (fun _ => rfl) (fun x18 => ?_)
    refine OJ.go 3 [(22, .bool (decide (x18 ≥ a1))), (21, .bool (decide (x18 ≥ a1))), (20, .int .i64 a1)] ?_
    refine OJ.join (b := decide (x18 ≥ a1)) [8, 9, 10, 11, 12, 13, 14, 15] [] [0, 1, 2, 7, 30] (fun y21 => [(0, Sl.v a0), (1, .int .i64 a1), (2, .int .i64 a2), (7, .int .i64 s1), (30, .bool y21)]) [] [] (t := 22) decide_eq_true_iff (fun hp_ => ?_) (fun hp_ => ?_) (fun _ _ _ _ _ _ h_ => h_) (fun y21 => ?_)
    · refine OJ.go 2 [(24, .int .i64 s1), (23, Sl.v a0)] ?_
      refine OJ.idxS (d := 25) (T := 22) (y := .tmp 23) (j := .tmp 24) (E := 42) (cap := a0.cap) (k := .i64) (fun p19 => ?_)
      refine OJ.go 1 [(26, .pointer (some p19))] ?_
      refine OJ.ld (d := 27) (y := .tmp 26) (pend2 := fun x20 => []) Ty3 (fun _ => rfl) (fun x20 => ?_)
      refine OJ.go 3 [(30, .bool (decide (x20 ≤ a2))), (29, .bool (decide (x20 ≤ a2))), (28, .int .i64 a2)] ?_
      exact OJ.nil ⟨(Cov.mem Cov.nil), rfl, _, rfl, by kernel_rfl⟩
    · refine OJ.go 8 [(30, .bool false), (29, undef), (28, undef), (27, undef), (26, undef), (25, undef), (24, undef), (23, undef)] ?_
      exact OJ.nil ⟨(Cov.mem Cov.nil), rfl, _, rfl, by kernel_rfl⟩
    · refine OJ.nil ?_
      refine SJ.cond (t := (.tmp 30)) (b := y21) Iff.rfl (fun hc30 => ?_) (fun hc30 => ?_)
      · refine SJ.sr 6 ?_
        refine OJ.go 2 [(32, .int .i64 s1), (31, Sl.v a0)] ?_
        refine OJ.idxS (d := 33) (T := 22) (y := .tmp 31) (j := .tmp 32) (E := 42) (cap := a0.cap) (k := .i64) (fun p26 => ?_)
        refine OJ.ld (d := 34) (y := .tmp 33) (pend2 := fun x27 => []) Ty42 (fun _ => rfl) (fun x27 => ?_)
        refine OJ.call (d := 35) (g := 14) (ats := #[42]) (args := [.tmp 34]) (owed := []) F14 (weirlaw4_plays_ok x27) (fun r28 => ?_)
        refine OW.nil ?_
        refine OJ.go 1 [(8, .bool r28)] ?_
        refine OJ.nil ?_
        refine SJ.sr 2 ?_
        refine OJ.go 2 [(37, .bool (!r28)), (36, .bool r28)] ?_
        refine OJ.nil ?_
        refine SJ.cond (t := (.tmp 37)) (b := (!r28)) (bnot_iff Iff.rfl) (fun hc29 => ?_) (fun hc29 => ?_)
        · refine SJ.sr 1 ?_
          refine OJ.go 1 [(6, .bool false)] ?_
          refine OJ.nil ?_
          exact SJ.ret rfl (Res.run (ys := [.bool false]) (.tmp (by kernel_rfl) .nil) rfl)
        · refine SJ.skip ?_
          refine SJ.inBlock ?_
          refine SJ.rg 3 ?_
          refine OJ.go 3 [(7, .int .i64 (IntKind.wrap .i64 (s1 + 1))), (14, .int .i64 (IntKind.wrap .i64 (s1 + 1))), (13, .int .i64 s1)] ?_
          refine OJ.nil ?_
          exact SJ.at_ [0, 1, 2, 7] rfl
      · refine SJ.skip ?_
        refine SJ.inBlock ?_
        refine SJ.rg 3 ?_
        refine OJ.go 3 [(7, .int .i64 (IntKind.wrap .i64 (s1 + 1))), (14, .int .i64 (IntKind.wrap .i64 (s1 + 1))), (13, .int .i64 s1)] ?_
        refine OJ.nil ?_
        exact SJ.at_ [0, 1, 2, 7] rfl
  · refine SJ.exit (id := 0) (by rfl) ?_
    refine SJ.sr 1 ?_
    refine OJ.go 1 [(6, .bool true)] ?_
    refine OJ.nil ?_
    exact SJ.ret rfl (Res.run (ys := [.bool true]) (.tmp (by kernel_rfl) .nil) rfl)
noncomputable def weirlaw4_upTo (a0 : Sl) (a1 : Int) (a2 : Int) : M Bool :=
  loopM (fun s_ : Int => weirlaw4_upTo.L1 a0 a1 a2 s_) 0
theorem weirlaw4_upTo_ok (a0 : Sl) (a1 : Int) (a2 : Int) : Ref Tryz.prog 8 [Sl.v a0, .int .i64 a1, .int .i64 a2] (weirlaw4_upTo a0 a1 a2) weirlaw4_upTo.out := by
  refine Ref.of (cd := weirlaw4_upTo.B) Tryz.func8 ?_
  show SJ weirlaw4_upTo.cx [.code weirlaw4_upTo.B] [(0, Sl.v a0), (1, .int .i64 a1), (2, .int .i64 a2)] [] (weirlaw4_upTo a0 a1 a2) weirlaw4_upTo.F0
  unfold weirlaw4_upTo
  refine SJ.sr 1 ?_
  refine OJ.go 1 [(6, .bool false)] ?_
  refine OJ.nil ?_
  refine SJ.seq ?_
  refine SJ.sr 1 ?_
  refine OJ.go 1 [(7, .int .i64 0)] ?_
  refine OJ.nil ?_
  refine SJ.block (id := 0) ?_
  exact SJ.loop (fun s_ : Int => [(0, Sl.v a0), (1, .int .i64 a1), (2, .int .i64 a2), (7, .int .i64 s_)]) (fun s_ : Int => []) [0, 1, 2, 7] rfl (fun _ _ => rfl) (fun s_ => weirlaw4_upTo.L1_ok a0 a1 a2 s_)

/-! ### weir/weirlaw4.AddrParses: function 3 -/
noncomputable def weirlaw4_AddrParses.B : Code := (Tryz.f3.body).getD .skip
noncomputable def weirlaw4_AddrParses.cx : Fx := ⟨Tryz.prog, 3, Tryz.f3⟩
noncomputable def weirlaw4_AddrParses.out (r_ : Bool) : Value := .bool r_
noncomputable def weirlaw4_AddrParses.F0 (r_ : Bool) : Reach := .ret (weirlaw4_AddrParses.out r_)
noncomputable def weirlaw4_AddrParses (a0 : Sl) : M Bool :=
  weirlaw4_started >>= fun r1 =>
  (if r1 = true then
      weirlaw4_upTo a0 1 3 >>= fun r2 =>
      pure r2
    else
      pure false) >>= fun y3 =>
  pure y3
theorem weirlaw4_AddrParses_ok (a0 : Sl) : Ref Tryz.prog 3 [Sl.v a0] (weirlaw4_AddrParses a0) weirlaw4_AddrParses.out := by
  refine Ref.of (cd := weirlaw4_AddrParses.B) Tryz.func3 ?_
  show SJ weirlaw4_AddrParses.cx [.code weirlaw4_AddrParses.B] [(0, Sl.v a0)] [] (weirlaw4_AddrParses a0) weirlaw4_AddrParses.F0
  unfold weirlaw4_AddrParses
  refine SJ.sr 1 ?_
  refine OJ.go 1 [(2, .bool false)] ?_
  refine OJ.nil ?_
  refine SJ.sr 6 ?_
  refine OJ.call (d := 3) (g := 7) (ats := #[]) (args := []) (owed := []) F7 (weirlaw4_started_ok ) (fun r1 => ?_)
  refine OW.nil ?_
  refine OJ.go 1 [(4, .bool r1)] ?_
  refine OJ.join (b := r1) [2, 3, 4] [5] [7] (fun y3 => [(7, .bool y3)]) [] [] (t := 4) Iff.rfl (fun hp_ => ?_) (fun hp_ => ?_) (fun _ _ _ _ _ _ h_ => h_) (fun y3 => ?_)
  · refine OJ.go 1 [(5, Sl.v a0)] ?_
    refine OJ.call (d := 6) (g := 8) (ats := #[22, 3, 3]) (args := [.tmp 5, .const (.int .i64 1), .const (.int .i64 3)]) (owed := []) F8 (weirlaw4_upTo_ok a0 1 3) (fun r2 => ?_)
    refine OW.nil ?_
    refine OJ.go 1 [(7, .bool r2)] ?_
    exact OJ.nil ⟨(Cov.mem Cov.nil), rfl, _, rfl, by kernel_rfl⟩
  · refine OJ.go 3 [(7, .bool false), (6, undef), (5, undef)] ?_
    exact OJ.nil ⟨(Cov.mem Cov.nil), rfl, _, rfl, by kernel_rfl⟩
  · refine OJ.go 1 [(2, .bool y3)] ?_
    refine OJ.nil ?_
    exact SJ.ret rfl (Res.run (ys := [.bool y3]) (.tmp (by kernel_rfl) .nil) rfl)
end Go.Proofs.YtddmmgcfanpmmaaGreatDoor.Lx
