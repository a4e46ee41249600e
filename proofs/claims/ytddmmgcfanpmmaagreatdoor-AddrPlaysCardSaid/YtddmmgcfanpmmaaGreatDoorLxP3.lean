/- Programs of the M-world for Go functions, each with the proof that the Go text does what it says. Printed by lxgen.py. -/
import Derived.Test.YtddmmgcfanpmmaaGreatDoorLxT
import Derived.Test.YtddmmgcfanpmmaaGreatDoorLxP0
import Derived.Test.YtddmmgcfanpmmaaGreatDoorLxP1
import Derived.Test.YtddmmgcfanpmmaaGreatDoorLxP2
set_option linter.unusedVariables false
set_option linter.unusedSimpArgs false
namespace Go.Proofs.YtddmmgcfanpmmaaGreatDoor.Lx
open Go Go.Proofs
/-! ### weir/addr.ParsePrefix: function 37 -/
noncomputable def addr_ParsePrefix.B : Code := (Tryz.f37.body).getD .skip
noncomputable def addr_ParsePrefix.cx : Fx := ⟨Tryz.prog, 37, Tryz.f37⟩
noncomputable def addr_ParsePrefix.out (r_ : (api_Prefix × Int × Int)) : Value := .tuple #[c_api_Prefix.val r_.1, .int .i64 r_.2.1, .int .i64 r_.2.2]
noncomputable def addr_ParsePrefix.F0 (r_ : (api_Prefix × Int × Int)) : Reach := .ret (addr_ParsePrefix.out r_)
noncomputable def addr_ParsePrefix.K1 (r3 : (api_IP × (Option Addr))) (j8 : Int) (j17 : (Option Addr)) : M (api_Prefix × Int × Int) :=
 if ¬ (j17 = none) then
  draw >>= fun _ =>
  nilck j17 >>= fun p22 =>
  ld (cI .i64) p22 >>= fun x23 =>
  nilck j17 >>= fun p24 =>
  ld (cI .i64) (Addr.add p24 1) >>= fun x25 =>
  same (cI .i64) (Addr.add p24 1) x25 >>= fun _ =>
  same (cI .i64) p22 x23 >>= fun _ =>
  pure (z_api_Prefix, x23, x25)
 else
  pure ((⟨r3.1, j8⟩ : api_Prefix), 0, 0)
theorem addr_ParsePrefix.K1_ok (b1 : Nat) (r3 : (api_IP × (Option Addr))) (j8 : Int) (b13 : Nat) (j17 : (Option Addr)) :
  SJ addr_ParsePrefix.cx [.code (c2 (c2 (c2 (c2 (c2 (c2 (c2 (c2 (c2 (c2 addr_ParsePrefix.B))))))))))] [(2, .pointer (some (pt b1 0))), (9, .pointer j17), (12, .pointer (some (pt b13 0)))] [(b13, c_api_Prefix.enc (⟨r3.1, j8⟩ : api_Prefix)), (b1, c_api_Prefix.enc z_api_Prefix)] (addr_ParsePrefix.K1 r3 j8 j17) addr_ParsePrefix.F0 := by
 unfold addr_ParsePrefix.K1
 refine SJ.seq <| SJ.sr 2 <| OJ.go 2 [(70, .bool (!(Option.isNone j17))), (69, .pointer j17)] <| OJ.nil <| SJ.cond (t := (.tmp 70)) (b := (!(Option.isNone j17))) (bnot_iff Option.isNone_iff_eq_none) (fun hc26 => ?_) (fun hc26 => ?_)
 ·refine SJ.seq <| SJ.draw (id := 16) (kd := [0, 0, 0, 0, 1, 0, 0, 0, 1, 2, 0, 0]) (bef := [0, 0, 2, 6, 14, 0, 32, 96, 224, 1, 543, 2047]) (ord := [0, 1, 2, 3, 4, 5, 6, 7, 8, 9, 10, 11]) mixed ?_
  refine OJ.build (d := 71) (T := 38) (parts := []) (ps := []) (cd := c_api_Prefix) (z0 := z_api_Prefix) z_api_Prefix Ty38 rfl Filled.nil ?_
  refine OJ.go 1 [(72, .pointer j17)] <| OJ.nilck (d := 73) (y := .tmp 72) (fun p22 => ?_)
  refine OJ.go 1 [(74, .pointer (some p22))] <| OJ.ld (d := 75) (y := .tmp 74) (pend2 := fun x23 => [⟨4, 29, p22, (cI .i64).val x23⟩]) Ty29 (fun _ => rfl) (fun x23 => ?_)
  refine OJ.go 1 [(76, .pointer j17)] <| OJ.nilck (d := 77) (y := .tmp 76) (fun p24 => ?_)
  refine OJ.go 1 [(78, .pointer (some (Addr.add p24 1)))] <| OJ.ld (d := 79) (y := .tmp 78) (pend2 := fun x25 => [⟨8, 3, (Addr.add p24 1), (cI .i64).val x25⟩, ⟨4, 29, p22, (cI .i64).val x23⟩]) Ty3 (fun _ => rfl) (fun x25 => ?_)
  refine OJ.kst (y := .tmp 2) (z := .tmp 71) (cd := c_api_Prefix) (u := z_api_Prefix) (j := 1) (b := b1) (o := 0) (c_api_Prefix.enc z_api_Prefix) (owed := [⟨8, 3, (Addr.add p24 1), (cI .i64).val x25⟩, ⟨4, 29, p22, (cI .i64).val x23⟩]) Ty38 rfl (Upd.whole ((Cod.len _ _).trans (Cod.len _ _).symm)) rfl ?_
  refine OW.same Ty3 ?_
  refine OW.same Ty29 ?_
  exact OW.nil <| OJ.go 2 [(4, .int .i64 x25), (3, .int .i64 x23)] <| OJ.nil <| SJ.ret rfl (Res.run (ys := [c_api_Prefix.val z_api_Prefix, .int .i64 x23, .int .i64 x25]) (.cell (j := 1) (b := b1) (cd := c_api_Prefix) (q := z_api_Prefix) (by kernel_rfl) rfl Ty38 (At.whole _) (.tmp (by kernel_rfl) (.tmp (by kernel_rfl) .nil))) rfl)
 ·refine SJ.skip <| SJ.sr 4 <| OJ.kld (d := 80) (y := .tmp 12) (cd := c_api_Prefix) (j := 0) (b := b13) (o := 0) (⟨r3.1, j8⟩ : api_Prefix) (pend2 := []) Ty38 rfl (At.whole _) rfl ?_
  refine OJ.kst (y := .tmp 2) (z := .tmp 80) (cd := c_api_Prefix) (u := (⟨r3.1, j8⟩ : api_Prefix)) (j := 1) (b := b1) (o := 0) (c_api_Prefix.enc (⟨r3.1, j8⟩ : api_Prefix)) (owed := []) Ty38 rfl (Upd.whole ((Cod.len _ _).trans (Cod.len _ _).symm)) rfl ?_
  exact OW.nil <| OJ.go 2 [(4, .int .i64 0), (3, .int .i64 0)] <| OJ.nil <| SJ.ret rfl (Res.run (ys := [c_api_Prefix.val (⟨r3.1, j8⟩ : api_Prefix), .int .i64 0, .int .i64 0]) (.cell (j := 1) (b := b1) (cd := c_api_Prefix) (q := (⟨r3.1, j8⟩ : api_Prefix)) (by kernel_rfl) rfl Ty38 (At.whole _) (.tmp (by kernel_rfl) (.tmp (by kernel_rfl) .nil))) rfl)
noncomputable def addr_ParsePrefix.K2 (r3 : (api_IP × (Option Addr))) (j8 : Int) (j12 : (Option Addr)) : M (api_Prefix × Int × Int) :=
 slot 38 >>= fun b13 =>
 (if j12 = none then
   addr_ValidPrefix (⟨r3.1, j8⟩ : api_Prefix) >>= fun r14 =>
   pure (r14 != 0)
  else
   pure false) >>= fun y15 =>
 if y15 = true then
  newv 48 c_addr_fault (⟨46, 0⟩ : addr_fault) >>= fun b27 =>
  addr_ParsePrefix.K1 r3 j8 (some (pt b27 0))
 else
  addr_ParsePrefix.K1 r3 j8 j12
theorem addr_ParsePrefix.K2_ok (b1 : Nat) (r3 : (api_IP × (Option Addr))) (b4 : Nat) (j8 : Int) (j12 : (Option Addr)) :
  SJ addr_ParsePrefix.cx [.code (c2 (c2 (c2 (c2 (c2 (c2 (c2 (c2 addr_ParsePrefix.B))))))))] [(2, .pointer (some (pt b1 0))), (8, .pointer (some (pt b4 0))), (9, .pointer j12), (10, .int .i64 j8)] [(b4, c_api_IP.enc r3.1), (b1, c_api_Prefix.enc z_api_Prefix)] (addr_ParsePrefix.K2 r3 j8 j12) addr_ParsePrefix.F0 := by
 unfold addr_ParsePrefix.K2
 refine SJ.sr 5 <| OJ.kld (d := 57) (y := .tmp 8) (cd := c_api_IP) (j := 0) (b := b4) (o := 0) r3.1 (pend2 := []) Ty28 rfl (At.whole _) rfl ?_
 refine OJ.go 1 [(58, .int .i64 j8)] <| OJ.build (d := 59) (T := 38) (parts := [(0, .tmp 57), (1, .tmp 58)]) (ps := [(0, c_api_IP.val r3.1), (1, (cI .i64).val j8)]) (cd := c_api_Prefix) (z0 := z_api_Prefix) (⟨r3.1, j8⟩ : api_Prefix) Ty38 rfl (Filled.cons (cd := c_api_IP) (q := r3.1) (o := 0) (by kernel_rfl) (Up_api_Prefix_IP z_api_Prefix r3.1) (Filled.cons (cd := (cI .i64)) (q := j8) (o := 17) (by kernel_rfl) (Up_api_Prefix_Len (⟨r3.1, z_api_Prefix.Len⟩ : api_Prefix) j8) Filled.nil)) ?_
 refine OJ.slotOf (d := 12) (op := (.alloc 38)) (cd := c_api_Prefix) (u := z_api_Prefix) (owed := []) (alloc_run Ty38) (fun b13 => ?_)
 refine OW.nil <| OJ.kst (y := .tmp 12) (z := .tmp 59) (cd := c_api_Prefix) (u := (⟨r3.1, j8⟩ : api_Prefix)) (j := 0) (b := b13) (o := 0) (c_api_Prefix.enc (⟨r3.1, j8⟩ : api_Prefix)) (owed := []) Ty38 rfl (Upd.whole ((Cod.len _ _).trans (Cod.len _ _).symm)) rfl ?_
 refine OW.nil <| OJ.nil <| SJ.seq <| SJ.sr 7 <| OJ.go 3 [(62, .bool (Option.isNone j12)), (61, .bool (Option.isNone j12)), (60, .pointer j12)] <| OJ.join (b := (Option.isNone j12)) [3, 4, 5, 6] [] [2, 9, 12, 66] (fun y15 => [(2, .pointer (some (pt b1 0))), (9, .pointer j12), (12, .pointer (some (pt b13 0))), (66, .bool y15)]) [] [] (t := 62) Option.isNone_iff_eq_none (fun hp_ => ?_) (fun hp_ => ?_) (fun _ _ _ _ _ _ h_ => h_) (fun y15 => ?_)
 ·refine OJ.kld (d := 63) (y := .tmp 12) (cd := c_api_Prefix) (j := 0) (b := b13) (o := 0) (⟨r3.1, j8⟩ : api_Prefix) (pend2 := []) Ty38 rfl (At.whole _) rfl ?_
  refine OJ.call (d := 64) (g := 47) (ats := #[38]) (args := [.tmp 63]) (owed := []) F47 (addr_ValidPrefix_ok (⟨r3.1, j8⟩ : api_Prefix)) (fun r14 => ?_)
  exact OW.nil <| OJ.go 2 [(66, .bool (r14 != 0)), (65, .bool (r14 != 0))] <| OJ.x0
 ·exact OJ.go 4 [(66, .bool false), (65, undef), (64, undef), (63, undef)] <| OJ.x0
 ·refine OJ.nil <| SJ.cond (t := (.tmp 66)) (b := y15) Iff.rfl (fun hc28 => ?_) (fun hc28 => ?_)
  ·refine SJ.rg 3 <| OJ.build (d := 67) (T := 48) (parts := [(0, .const (.int .i64 46)), (1, .const (.int .i64 0))]) (ps := [(0, (cI .i64).val 46), (1, (cI .i64).val 0)]) (cd := c_addr_fault) (z0 := z_addr_fault) (⟨46, 0⟩ : addr_fault) Ty48 rfl (Filled.cons (cd := (cI .i64)) (q := 46) (o := 0) (by kernel_rfl) (Up_addr_fault_why z_addr_fault 46) (Filled.cons (cd := (cI .i64)) (q := 0) (o := 1) (by kernel_rfl) (Up_addr_fault_at_ (⟨46, z_addr_fault.at_⟩ : addr_fault) 0) Filled.nil)) ?_
   refine OJ.newOf (d := 68) (op := (.box 48 (.tmp 67))) (cd := c_addr_fault) (u := (⟨46, 0⟩ : addr_fault)) (owed := []) (box_run (by kernel_rfl)) (fun b27 => ?_)
   refine OW.nil <| OJ.go 1 [(9, .pointer (some (pt b27 0)))] <| OJ.nil <| SJ.forget (List.Sublist.cons_cons _ (List.Sublist.cons _ (List.Sublist.cons_cons _ List.Sublist.slnil))) ?_
   refine SJ.less [2, 9, 12] (m' := [(2, .pointer (some (pt b1 0))), (9, .pointer (some (pt b27 0))), (12, .pointer (some (pt b13 0)))]) ?_
   exact addr_ParsePrefix.K1_ok b1 r3 j8 b13 (some (pt b27 0))
  ·refine SJ.skip <| SJ.forget (List.Sublist.cons_cons _ (List.Sublist.cons _ (List.Sublist.cons_cons _ List.Sublist.slnil))) ?_
   refine SJ.less [2, 9, 12] (m' := [(2, .pointer (some (pt b1 0))), (9, .pointer j12), (12, .pointer (some (pt b13 0)))]) ?_
   exact addr_ParsePrefix.K1_ok b1 r3 j8 b13 j12
noncomputable def addr_ParsePrefix.K3 (a0 : ByteArray) (r3 : (api_IP × (Option Addr))) (j7 : (Option Addr)) (j8 : Int) (j9 : Int) : M (api_Prefix × Int × Int) :=
 (if j7 = none then
   pure (decide (j9 < (a0.size : Int)))
  else
   pure false) >>= fun y10 =>
 if y10 = true then
  newv 48 c_addr_fault (⟨41, j9⟩ : addr_fault) >>= fun b29 =>
  addr_ParsePrefix.K2 r3 j8 (some (pt b29 0))
 else
  addr_ParsePrefix.K2 r3 j8 j7
theorem addr_ParsePrefix.K3_ok (a0 : ByteArray) (b1 : Nat) (r3 : (api_IP × (Option Addr))) (b4 : Nat) (j7 : (Option Addr)) (j8 : Int) (j9 : Int) :
  SJ addr_ParsePrefix.cx [.code (c2 (c2 (c2 (c2 (c2 (c2 (c2 addr_ParsePrefix.B)))))))] [(0, .string a0), (2, .pointer (some (pt b1 0))), (8, .pointer (some (pt b4 0))), (9, .pointer j7), (10, .int .i64 j8), (11, .int .i64 j9)] [(b4, c_api_IP.enc r3.1), (b1, c_api_Prefix.enc z_api_Prefix)] (addr_ParsePrefix.K3 a0 r3 j7 j8 j9) addr_ParsePrefix.F0 := by
 unfold addr_ParsePrefix.K3
 refine SJ.seq <| SJ.sr 8 <| OJ.go 3 [(48, .bool (Option.isNone j7)), (47, .bool (Option.isNone j7)), (46, .pointer j7)] <| OJ.join (b := (Option.isNone j7)) [3, 4, 5, 6, 7] [] [2, 8, 9, 10, 11, 53] (fun y10 => [(2, .pointer (some (pt b1 0))), (8, .pointer (some (pt b4 0))), (9, .pointer j7), (10, .int .i64 j8), (11, .int .i64 j9), (53, .bool y10)]) [] [] (t := 48) Option.isNone_iff_eq_none (fun hp_ => ?_) (fun hp_ => ?_) (fun _ _ _ _ _ _ h_ => h_) (fun y10 => ?_)
 ·exact OJ.go 5 [(53, .bool (decide (j9 < (a0.size : Int)))), (52, .bool (decide (j9 < (a0.size : Int)))), (51, .int .i64 (a0.size : Int)), (50, .string a0), (49, .int .i64 j9)] <| OJ.x0
 ·exact OJ.go 5 [(53, .bool false), (52, undef), (51, undef), (50, undef), (49, undef)] <| OJ.x0
 ·refine OJ.nil <| SJ.cond (t := (.tmp 53)) (b := y10) Iff.rfl (fun hc30 => ?_) (fun hc30 => ?_)
  ·refine SJ.rg 4 <| OJ.go 1 [(54, .int .i64 j9)] <| OJ.build (d := 55) (T := 48) (parts := [(0, .const (.int .i64 41)), (1, .tmp 54)]) (ps := [(0, (cI .i64).val 41), (1, (cI .i64).val j9)]) (cd := c_addr_fault) (z0 := z_addr_fault) (⟨41, j9⟩ : addr_fault) Ty48 rfl (Filled.cons (cd := (cI .i64)) (q := 41) (o := 0) (by kernel_rfl) (Up_addr_fault_why z_addr_fault 41) (Filled.cons (cd := (cI .i64)) (q := j9) (o := 1) (by kernel_rfl) (Up_addr_fault_at_ (⟨41, z_addr_fault.at_⟩ : addr_fault) j9) Filled.nil)) ?_
   refine OJ.newOf (d := 56) (op := (.box 48 (.tmp 55))) (cd := c_addr_fault) (u := (⟨41, j9⟩ : addr_fault)) (owed := []) (box_run (by kernel_rfl)) (fun b29 => ?_)
   refine OW.nil <| OJ.go 1 [(9, .pointer (some (pt b29 0)))] <| OJ.nil <| SJ.less [2, 8, 9, 10] (m' := [(2, .pointer (some (pt b1 0))), (8, .pointer (some (pt b4 0))), (9, .pointer (some (pt b29 0))), (10, .int .i64 j8)]) ?_
   exact addr_ParsePrefix.K2_ok b1 r3 b4 j8 (some (pt b29 0))
  ·refine SJ.skip <| SJ.less [2, 8, 9, 10] (m' := [(2, .pointer (some (pt b1 0))), (8, .pointer (some (pt b4 0))), (9, .pointer j7), (10, .int .i64 j8)]) ?_
   exact addr_ParsePrefix.K2_ok b1 r3 b4 j8 j7
noncomputable def addr_ParsePrefix (a0 : ByteArray) : M (api_Prefix × Int × Int) :=
 slot 38 >>= fun b1 =>
 if (a0.size : Int) > 49 then
  pure (z_api_Prefix, 2, 49)
 else
  strings_Cut a0 str11 >>= fun r2 =>
  if ¬ (r2.2.2 = true) then
   pure (z_api_Prefix, 42, (a0.size : Int))
  else
   addr_parse r2.1 >>= fun r3 =>
   slot 28 >>= fun b4 =>
   if r3.2 = none then
    addr_size r3.1 >>= fun r31 =>
    addr_number a0 (IntKind.wrap .i64 ((r2.1.size : Int) + 1)) r31 45 >>= fun r32 =>
    addr_ParsePrefix.K3 a0 r3 r32.2.2 r32.1 r32.2.1
   else
    addr_ParsePrefix.K3 a0 r3 r3.2 0 0
theorem addr_ParsePrefix_ok (a0 : ByteArray) : Ref Tryz.prog 37 [.string a0] (addr_ParsePrefix a0) addr_ParsePrefix.out := by
 refine Ref.of (cd := addr_ParsePrefix.B) Tryz.func37 ?_
 show SJ addr_ParsePrefix.cx [.code addr_ParsePrefix.B] [(0, .string a0)] [] (addr_ParsePrefix a0) addr_ParsePrefix.F0
 unfold addr_ParsePrefix
 refine SJ.sr 3 <| OJ.slotOf (d := 2) (op := (.alloc 38)) (cd := c_api_Prefix) (u := z_api_Prefix) (owed := []) (alloc_run Ty38) (fun b1 => ?_)
 refine OW.nil <| OJ.go 2 [(4, .int .i64 0), (3, .int .i64 0)] <| OJ.nil <| SJ.seq <| SJ.sr 3 <| OJ.go 3 [(15, .bool (decide ((a0.size : Int) > 49))), (14, .int .i64 (a0.size : Int)), (13, .string a0)] <| OJ.nil <| SJ.cond (t := (.tmp 15)) (b := decide ((a0.size : Int) > 49)) decide_eq_true_iff (fun hc35 => ?_) (fun hc35 => ?_)
 ·refine SJ.sr 4 <| OJ.build (d := 16) (T := 38) (parts := []) (ps := []) (cd := c_api_Prefix) (z0 := z_api_Prefix) z_api_Prefix Ty38 rfl Filled.nil ?_
  refine OJ.kst (y := .tmp 2) (z := .tmp 16) (cd := c_api_Prefix) (u := z_api_Prefix) (j := 0) (b := b1) (o := 0) (c_api_Prefix.enc z_api_Prefix) (owed := []) Ty38 rfl (Upd.whole ((Cod.len _ _).trans (Cod.len _ _).symm)) rfl ?_
  exact OW.nil <| OJ.go 2 [(4, .int .i64 49), (3, .int .i64 2)] <| OJ.nil <| SJ.ret rfl (Res.run (ys := [c_api_Prefix.val z_api_Prefix, .int .i64 2, .int .i64 49]) (.cell (j := 0) (b := b1) (cd := c_api_Prefix) (q := z_api_Prefix) (by kernel_rfl) rfl Ty38 (At.whole _) (.tmp (by kernel_rfl) (.tmp (by kernel_rfl) .nil))) rfl)
 ·refine SJ.skip <| SJ.sr 9 <| OJ.go 1 [(18, .string a0)] <| OJ.call (d := 19) (g := 69) (ats := #[9, 9]) (args := [.tmp 18, .const (.string str11)]) (owed := []) F69 (strings_Cut_ok a0 str11) (fun r2 => ?_)
  refine OW.nil <| OJ.go 7 [(7, .bool r2.2.2), (6, .string r2.2.1), (5, .string r2.1), (22, .bool r2.2.2), (21, .string r2.2.1), (20, .string r2.1), (17, .tuple #[.string r2.1, .string r2.2.1, .bool r2.2.2])] <| OJ.nil <| SJ.seq <| SJ.sr 2 <| OJ.go 2 [(24, .bool (!r2.2.2)), (23, .bool r2.2.2)] <| OJ.nil <| SJ.cond (t := (.tmp 24)) (b := (!r2.2.2)) (bnot_iff Iff.rfl) (fun hc34 => ?_) (fun hc34 => ?_)
  ·refine SJ.sr 6 <| OJ.build (d := 25) (T := 38) (parts := []) (ps := []) (cd := c_api_Prefix) (z0 := z_api_Prefix) z_api_Prefix Ty38 rfl Filled.nil ?_
   refine OJ.go 2 [(27, .int .i64 (a0.size : Int)), (26, .string a0)] <| OJ.kst (y := .tmp 2) (z := .tmp 25) (cd := c_api_Prefix) (u := z_api_Prefix) (j := 0) (b := b1) (o := 0) (c_api_Prefix.enc z_api_Prefix) (owed := []) Ty38 rfl (Upd.whole ((Cod.len _ _).trans (Cod.len _ _).symm)) rfl ?_
   exact OW.nil <| OJ.go 2 [(4, .int .i64 (a0.size : Int)), (3, .int .i64 42)] <| OJ.nil <| SJ.ret rfl (Res.run (ys := [c_api_Prefix.val z_api_Prefix, .int .i64 42, .int .i64 (a0.size : Int)]) (.cell (j := 0) (b := b1) (cd := c_api_Prefix) (q := z_api_Prefix) (by kernel_rfl) rfl Ty38 (At.whole _) (.tmp (by kernel_rfl) (.tmp (by kernel_rfl) .nil))) rfl)
  ·refine SJ.skip <| SJ.sr 8 <| OJ.go 1 [(29, .string r2.1)] <| OJ.call (d := 30) (g := 15) (ats := #[9]) (args := [.tmp 29]) (owed := []) F15 (addr_parse_ok r2.1) (fun r3 => ?_)
   refine OW.nil <| OJ.go 3 [(32, .pointer r3.2), (31, c_api_IP.val r3.1), (28, .tuple #[c_api_IP.val r3.1, .pointer r3.2])] <| OJ.slotOf (d := 8) (op := (.alloc 28)) (cd := c_api_IP) (u := z_api_IP) (owed := []) (alloc_run Ty28) (fun b4 => ?_)
   refine OW.nil <| OJ.kst (y := .tmp 8) (z := .tmp 31) (cd := c_api_IP) (u := r3.1) (j := 0) (b := b4) (o := 0) (c_api_IP.enc r3.1) (owed := []) Ty28 rfl (Upd.whole ((Cod.len _ _).trans (Cod.len _ _).symm)) rfl ?_
   refine OW.nil <| OJ.go 1 [(9, .pointer r3.2)] <| OJ.nil <| SJ.sr 2 <| OJ.go 2 [(11, .int .i64 0), (10, .int .i64 0)] <| OJ.nil <| SJ.seq <| SJ.sr 2 <| OJ.go 2 [(34, .bool (Option.isNone r3.2)), (33, .pointer r3.2)] <| OJ.nil <| SJ.cond (t := (.tmp 34)) (b := (Option.isNone r3.2)) Option.isNone_iff_eq_none (fun hc33 => ?_) (fun hc33 => ?_)
   ·refine SJ.rg 14 <| OJ.go 4 [(39, .int .i64 (IntKind.wrap .i64 ((r2.1.size : Int) + 1))), (38, .int .i64 (r2.1.size : Int)), (37, .string r2.1), (36, .string a0)] <| OJ.kld (d := 40) (y := .tmp 8) (cd := c_api_IP) (j := 0) (b := b4) (o := 0) r3.1 (pend2 := []) Ty28 rfl (At.whole _) rfl ?_
    refine OJ.call (d := 41) (g := 32) (ats := #[28]) (args := [.tmp 40]) (owed := []) F32 (addr_size_ok r3.1) (fun r31 => ?_)
    refine OW.nil <| OJ.call (d := 42) (g := 58) (ats := #[9, 3, 3, 29]) (args := [.tmp 36, .tmp 39, .tmp 41, .const (.int .i64 45)]) (owed := []) F58 (addr_number_ok a0 (IntKind.wrap .i64 ((r2.1.size : Int) + 1)) r31 45) (fun r32 => ?_)
    refine OW.nil <| OJ.go 7 [(9, .pointer r32.2.2), (11, .int .i64 r32.2.1), (10, .int .i64 r32.1), (45, .pointer r32.2.2), (44, .int .i64 r32.2.1), (43, .int .i64 r32.1), (35, .tuple #[.int .i64 r32.1, .int .i64 r32.2.1, .pointer r32.2.2])] <| OJ.nil <| SJ.less [0, 2, 8, 9, 10, 11] (m' := [(0, .string a0), (2, .pointer (some (pt b1 0))), (8, .pointer (some (pt b4 0))), (9, .pointer r32.2.2), (10, .int .i64 r32.1), (11, .int .i64 r32.2.1)]) ?_
    exact addr_ParsePrefix.K3_ok a0 b1 r3 b4 r32.2.2 r32.1 r32.2.1
   ·refine SJ.skip <| SJ.less [0, 2, 8, 9, 10, 11] (m' := [(0, .string a0), (2, .pointer (some (pt b1 0))), (8, .pointer (some (pt b4 0))), (9, .pointer r3.2), (10, .int .i64 0), (11, .int .i64 0)]) ?_
    exact addr_ParsePrefix.K3_ok a0 b1 r3 b4 r3.2 0 0

/-! ### weir/weirref4.width: function 73 -/
noncomputable def r4_width.B : Code := (Tryz.f73.body).getD .skip
noncomputable def r4_width.cx : Fx := ⟨Tryz.prog, 73, Tryz.f73⟩
noncomputable def r4_width.out (r_ : Int) : Value := .int .i64 r_
noncomputable def r4_width.F0 (r_ : Int) : Reach := .ret (r4_width.out r_)
noncomputable def r4_width (a0 : api_IP) : M Int :=
 slot 28 >>= fun b1 =>
 if a0.V = 4 then
  pure 32
 else
  pure 128
theorem r4_width_ok (a0 : api_IP) : Ref Tryz.prog 73 [c_api_IP.val a0] (r4_width a0) r4_width.out := by
 refine Ref.of (cd := r4_width.B) Tryz.func73 ?_
 show SJ r4_width.cx [.code r4_width.B] [(0, c_api_IP.val a0)] [] (r4_width a0) r4_width.F0
 unfold r4_width
 refine SJ.sr 2 <| OJ.slotOf (d := 1) (op := (.box 28 (.tmp 0))) (cd := c_api_IP) (u := a0) (owed := []) (box_run (by kernel_rfl)) (fun b1 => ?_)
 refine OW.nil <| OJ.go 1 [(2, .int .i64 0)] <| OJ.nil <| SJ.seq <| SJ.sr 3 <| OJ.go 1 [(3, .pointer (some (pt b1 0)))] <| OJ.kld (d := 4) (y := .tmp 3) (cd := (cI .i64)) (j := 0) (b := b1) (o := 0) a0.V (pend2 := []) Ty3 rfl (At_api_IP_V a0) rfl ?_
 refine OJ.go 1 [(5, .bool (a0.V == 4))] <| OJ.nil <| SJ.cond (t := (.tmp 5)) (b := (a0.V == 4)) beq_iff_eq (fun hc2 => ?_) (fun hc2 => ?_)
 ·exact SJ.sr 1 <| OJ.go 1 [(2, .int .i64 32)] <| OJ.nil <| SJ.r1 (.int .i64 32) rfl rfl
 ·exact SJ.skip <| SJ.sr 1 <| OJ.go 1 [(2, .int .i64 128)] <| OJ.nil <| SJ.r1 (.int .i64 128) rfl rfl

/-! ### weir/weirref4.Valid: function 46 -/
noncomputable def r4_Valid.B : Code := (Tryz.f46.body).getD .skip
noncomputable def r4_Valid.cx : Fx := ⟨Tryz.prog, 46, Tryz.f46⟩
noncomputable def r4_Valid.out (r_ : Bool) : Value := .bool r_
noncomputable def r4_Valid.F0 (r_ : Bool) : Reach := .ret (r4_Valid.out r_)
noncomputable def r4_Valid.F1 (a0 : api_IP) (b1 : Nat) : (LS Int Bool) → Reach := loopF [.inLoop (c1 (c1 (c2 (c1 (c2 (c2 r4_Valid.B)))))), .inBlock 0, .code (c2 (c2 (c2 r4_Valid.B)))] (fun s_ : Int => [(1, .pointer (some (pt b1 0))), (3, .int .i64 s_)]) (fun s_ : Int => [(b1, c_api_IP.enc a0)]) r4_Valid.F0
noncomputable def r4_Valid.L1 (a0 : api_IP) (s2 : Int) : M (LS Int Bool) :=
 if s2 < 16 then
  chk ((0 : Int) ≤ s2 ∧ s2 < (16 : Nat)) >>= fun _ =>
  if (Vec.g a0.A s2 0) ≠ 0 then
   pure (LS.done false)
  else
   pure (LS.next (IntKind.wrap .i64 (s2 + 1)))
 else
  pure (LS.done true)
theorem r4_Valid.L1_ok (a0 : api_IP) (b1 : Nat) (s2 : Int) :
  SJ r4_Valid.cx [.code (c1 (c1 (c2 (c1 (c2 (c2 r4_Valid.B)))))), .inLoop (c1 (c1 (c2 (c1 (c2 (c2 r4_Valid.B)))))), .inBlock 0, .code (c2 (c2 (c2 r4_Valid.B)))] [(1, .pointer (some (pt b1 0))), (3, .int .i64 s2)] [(b1, c_api_IP.enc a0)] (r4_Valid.L1 a0 s2) (r4_Valid.F1 a0 b1) := by
 unfold r4_Valid.L1
 refine SJ.seq <| SJ.sr 2 <| OJ.go 2 [(11, .bool (decide (s2 < 16))), (10, .int .i64 s2)] <| OJ.nil <| SJ.cond (t := (.tmp 11)) (b := decide (s2 < 16)) decide_eq_true_iff (fun hc10 => ?_) (fun hc10 => ?_)
 ·refine SJ.skip <| SJ.seq <| SJ.block (id := 1) <| SJ.sr 5 <| OJ.go 2 [(15, .pointer (some (pt b1 1))), (14, .int .i64 s2)] <| OJ.idxK (d := 16) (T := 26) (y := .tmp 15) (j := .tmp 14) (E := 5) (sz := 1) (b := b1) (o := 1) (k := .i64) (fun hb7 hb8 => ?_)
  refine OJ.kld (d := 17) (y := .tmp 16) (cd := (cI .u8)) (j := 0) (b := b1) (o := (1 + s2.toNat * 1)) (Vec.g a0.A s2 0) (pend2 := []) Ty5 rfl (At.trans (At_api_IP_A a0) (At.arr (z := 0) hb7 hb8)) rfl ?_
  refine OJ.go 1 [(18, .bool ((Vec.g a0.A s2 0) != 0))] <| OJ.nil <| SJ.cond (t := (.tmp 18)) (b := ((Vec.g a0.A s2 0) != 0)) bne_iff_ne (fun hc9 => ?_) (fun hc9 => ?_)
  ·exact SJ.sr 1 <| OJ.go 1 [(2, .bool false)] <| OJ.nil <| SJ.r1 (.bool false) rfl rfl
  ·exact SJ.skip <| SJ.inBlock <| SJ.rg 3 <| OJ.go 3 [(3, .int .i64 (IntKind.wrap .i64 (s2 + 1))), (13, .int .i64 (IntKind.wrap .i64 (s2 + 1))), (12, .int .i64 s2)] <| OJ.nil <| SJ.at_ [1, 3] rfl
 ·exact SJ.exit (id := 0) (by rfl) <| SJ.sr 1 <| OJ.go 1 [(2, .bool true)] <| OJ.nil <| SJ.r1 (.bool true) rfl rfl
noncomputable def r4_Valid (a0 : api_IP) : M Bool :=
 slot 28 >>= fun b1 =>
 if a0.V ≠ 4 then
  pure (a0.V == 6)
 else
  loopM (fun s_ : Int => r4_Valid.L1 a0 s_) 4
theorem r4_Valid_ok (a0 : api_IP) : Ref Tryz.prog 46 [c_api_IP.val a0] (r4_Valid a0) r4_Valid.out := by
 refine Ref.of (cd := r4_Valid.B) Tryz.func46 ?_
 show SJ r4_Valid.cx [.code r4_Valid.B] [(0, c_api_IP.val a0)] [] (r4_Valid a0) r4_Valid.F0
 unfold r4_Valid
 refine SJ.sr 2 <| OJ.slotOf (d := 1) (op := (.box 28 (.tmp 0))) (cd := c_api_IP) (u := a0) (owed := []) (box_run (by kernel_rfl)) (fun b1 => ?_)
 refine OW.nil <| OJ.go 1 [(2, .bool false)] <| OJ.nil <| SJ.seq <| SJ.sr 3 <| OJ.go 1 [(4, .pointer (some (pt b1 0)))] <| OJ.kld (d := 5) (y := .tmp 4) (cd := (cI .i64)) (j := 0) (b := b1) (o := 0) a0.V (pend2 := []) Ty3 rfl (At_api_IP_V a0) rfl ?_
 refine OJ.go 1 [(6, .bool (a0.V != 4))] <| OJ.nil <| SJ.cond (t := (.tmp 6)) (b := (a0.V != 4)) bne_iff_ne (fun hc11 => ?_) (fun hc11 => ?_)
 ·refine SJ.sr 4 <| OJ.go 1 [(7, .pointer (some (pt b1 0)))] <| OJ.kld (d := 8) (y := .tmp 7) (cd := (cI .i64)) (j := 0) (b := b1) (o := 0) a0.V (pend2 := []) Ty3 rfl (At_api_IP_V a0) rfl ?_
  exact OJ.go 2 [(2, .bool (a0.V == 6)), (9, .bool (a0.V == 6))] <| OJ.nil <| SJ.r1 (.bool (a0.V == 6)) rfl rfl
 ·exact SJ.skip <| SJ.seq <| SJ.sr 1 <| OJ.go 1 [(3, .int .i64 4)] <| OJ.nil <| SJ.block (id := 0) <| SJ.loop (fun s_ : Int => [(1, .pointer (some (pt b1 0))), (3, .int .i64 s_)]) (fun s_ : Int => [(b1, c_api_IP.enc a0)]) [1, 3] rfl (fun _ _ => rfl) (fun s_ => r4_Valid.L1_ok a0 b1 s_)

/-! ### weir/weirref4.bit: function 82 -/
noncomputable def r4_bit.B : Code := (Tryz.f82.body).getD .skip
noncomputable def r4_bit.cx : Fx := ⟨Tryz.prog, 82, Tryz.f82⟩
noncomputable def r4_bit.out (r_ : Int) : Value := .int .i64 r_
noncomputable def r4_bit.F0 (r_ : Int) : Reach := .ret (r4_bit.out r_)
noncomputable def r4_bit.F1  : (LS (Int × Int) Int) → Reach := loopF [.inLoop (c1 (c1 (c2 (c1 (c2 (c2 r4_bit.B)))))), .inBlock 0, .code (c2 (c2 (c2 r4_bit.B)))] (fun s_ : (Int × Int) => [(5, .int .i64 s_.1), (6, .int .i64 s_.2)]) (fun s_ : (Int × Int) => []) r4_bit.F0
noncomputable def r4_bit.L1 (s4 : Int) (s5 : Int) : M (LS (Int × Int) Int) :=
 if s5 < 7 then
  pure (LS.next (IntKind.wrap .i64 (Int.tdiv s4 2), IntKind.wrap .i64 (s5 + 1)))
 else
  pure (LS.done (Int.tmod s4 2))
theorem r4_bit.L1_ok (s4 : Int) (s5 : Int) :
  SJ r4_bit.cx [.code (c1 (c1 (c2 (c1 (c2 (c2 r4_bit.B)))))), .inLoop (c1 (c1 (c2 (c1 (c2 (c2 r4_bit.B)))))), .inBlock 0, .code (c2 (c2 (c2 r4_bit.B)))] [(5, .int .i64 s4), (6, .int .i64 s5)] [] (r4_bit.L1 s4 s5) r4_bit.F1 := by
 unfold r4_bit.L1
 refine SJ.seq <| SJ.sr 2 <| OJ.go 2 [(16, .bool (decide (s5 < 7))), (15, .int .i64 s5)] <| OJ.nil <| SJ.cond (t := (.tmp 16)) (b := decide (s5 < 7)) decide_eq_true_iff (fun hc7 => ?_) (fun hc7 => ?_)
 ·exact SJ.skip <| SJ.seq <| SJ.block (id := 1) <| SJ.rg 3 <| OJ.go 3 [(5, .int .i64 (IntKind.wrap .i64 (Int.tdiv s4 2))), (20, .int .i64 (IntKind.wrap .i64 (Int.tdiv s4 2))), (19, .int .i64 s4)] <| OJ.nil <| SJ.inBlock <| SJ.rg 3 <| OJ.go 3 [(6, .int .i64 (IntKind.wrap .i64 (s5 + 1))), (18, .int .i64 (IntKind.wrap .i64 (s5 + 1))), (17, .int .i64 s5)] <| OJ.nil <| SJ.at_ [5, 6] rfl
 ·exact SJ.exit (id := 0) (by rfl) <| SJ.sr 3 <| OJ.go 3 [(4, .int .i64 (Int.tmod s4 2)), (22, .int .i64 (Int.tmod s4 2)), (21, .int .i64 s4)] <| OJ.nil <| SJ.r1 (.int .i64 (Int.tmod s4 2)) rfl rfl
noncomputable def r4_bit (a0 : api_IP) (a1 : Int) : M Int :=
 slot 28 >>= fun b1 =>
 chk ((0 : Int) ≤ (IntKind.wrap .i64 (Int.tdiv a1 8)) ∧ (IntKind.wrap .i64 (Int.tdiv a1 8)) < (16 : Nat)) >>= fun _ =>
 loopM (fun s_ : (Int × Int) => r4_bit.L1 s_.1 s_.2) (IntKind.wrap .i64 (Vec.g a0.A (IntKind.wrap .i64 (Int.tdiv a1 8)) 0), Int.tmod a1 8)
theorem r4_bit_ok (a0 : api_IP) (a1 : Int) : Ref Tryz.prog 82 [c_api_IP.val a0, .int .i64 a1] (r4_bit a0 a1) r4_bit.out := by
 refine Ref.of (cd := r4_bit.B) Tryz.func82 ?_
 show SJ r4_bit.cx [.code r4_bit.B] [(0, c_api_IP.val a0), (1, .int .i64 a1)] [] (r4_bit a0 a1) r4_bit.F0
 unfold r4_bit
 refine SJ.sr 2 <| OJ.slotOf (d := 2) (op := (.box 28 (.tmp 0))) (cd := c_api_IP) (u := a0) (owed := []) (box_run (by kernel_rfl)) (fun b1 => ?_)
 refine OW.nil <| OJ.go 1 [(4, .int .i64 0)] <| OJ.nil <| SJ.sr 7 <| OJ.go 3 [(9, .pointer (some (pt b1 1))), (8, .int .i64 (IntKind.wrap .i64 (Int.tdiv a1 8))), (7, .int .i64 a1)] <| OJ.idxK (d := 10) (T := 26) (y := .tmp 9) (j := .tmp 8) (E := 5) (sz := 1) (b := b1) (o := 1) (k := .i64) (fun hb2 hb3 => ?_)
 refine OJ.kld (d := 11) (y := .tmp 10) (cd := (cI .u8)) (j := 0) (b := b1) (o := (1 + (IntKind.wrap .i64 (Int.tdiv a1 8)).toNat * 1)) (Vec.g a0.A (IntKind.wrap .i64 (Int.tdiv a1 8)) 0) (pend2 := []) Ty5 rfl (At.trans (At_api_IP_A a0) (At.arr (z := 0) hb2 hb3)) rfl ?_
 refine OJ.go 2 [(5, .int .i64 (IntKind.wrap .i64 (Vec.g a0.A (IntKind.wrap .i64 (Int.tdiv a1 8)) 0))), (12, .int .i64 (IntKind.wrap .i64 (Vec.g a0.A (IntKind.wrap .i64 (Int.tdiv a1 8)) 0)))] <| OJ.nil <| SJ.seq <| SJ.sr 3 <| OJ.go 3 [(6, .int .i64 (Int.tmod a1 8)), (14, .int .i64 (Int.tmod a1 8)), (13, .int .i64 a1)] <| OJ.nil <| SJ.block (id := 0) <| SJ.forget (List.Sublist.cons _ List.Sublist.slnil) ?_
 exact SJ.loop (fun s_ : (Int × Int) => [(5, .int .i64 s_.1), (6, .int .i64 s_.2)]) (fun s_ : (Int × Int) => []) [5, 6] rfl (fun _ _ => rfl) (fun s_ => r4_bit.L1_ok s_.1 s_.2)

/-! ### weir/weirref4.ValidPrefix: function 48 -/
noncomputable def r4_ValidPrefix.B : Code := (Tryz.f48.body).getD .skip
noncomputable def r4_ValidPrefix.cx : Fx := ⟨Tryz.prog, 48, Tryz.f48⟩
noncomputable def r4_ValidPrefix.out (r_ : Int) : Value := .int .i64 r_
noncomputable def r4_ValidPrefix.F0 (r_ : Int) : Reach := .ret (r4_ValidPrefix.out r_)
noncomputable def r4_ValidPrefix.F1 (a0 : api_Prefix) (b1 : Nat) (r3 : Int) : (LS Int Int) → Reach := loopF [.inLoop (c1 (c1 (c2 (c1 (c2 (c2 (c2 (c2 (c2 r4_ValidPrefix.B))))))))), .inBlock 0, .code (c2 (c2 (c2 (c2 (c2 (c2 r4_ValidPrefix.B))))))] (fun s_ : Int => [(1, .pointer (some (pt b1 0))), (4, .int .i64 r3), (5, .int .i64 s_)]) (fun s_ : Int => [(b1, c_api_Prefix.enc a0)]) r4_ValidPrefix.F0
noncomputable def r4_ValidPrefix.L1 (a0 : api_Prefix) (r3 : Int) (s5 : Int) : M (LS Int Int) :=
 if s5 < r3 then
  r4_bit a0.IP s5 >>= fun r9 =>
  if r9 = 1 then
   pure (LS.done 46)
  else
   pure (LS.next (IntKind.wrap .i64 (s5 + 1)))
 else
  pure (LS.done 0)
theorem r4_ValidPrefix.L1_ok (a0 : api_Prefix) (b1 : Nat) (r3 : Int) (s5 : Int) :
  SJ r4_ValidPrefix.cx [.code (c1 (c1 (c2 (c1 (c2 (c2 (c2 (c2 (c2 r4_ValidPrefix.B))))))))), .inLoop (c1 (c1 (c2 (c1 (c2 (c2 (c2 (c2 (c2 r4_ValidPrefix.B))))))))), .inBlock 0, .code (c2 (c2 (c2 (c2 (c2 (c2 r4_ValidPrefix.B))))))] [(1, .pointer (some (pt b1 0))), (4, .int .i64 r3), (5, .int .i64 s5)] [(b1, c_api_Prefix.enc a0)] (r4_ValidPrefix.L1 a0 r3 s5) (r4_ValidPrefix.F1 a0 b1 r3) := by
 unfold r4_ValidPrefix.L1
 refine SJ.seq <| SJ.sr 3 <| OJ.go 3 [(27, .bool (decide (s5 < r3))), (26, .int .i64 r3), (25, .int .i64 s5)] <| OJ.nil <| SJ.cond (t := (.tmp 27)) (b := decide (s5 < r3)) decide_eq_true_iff (fun hc11 => ?_) (fun hc11 => ?_)
 ·refine SJ.skip <| SJ.seq <| SJ.block (id := 1) <| SJ.sr 5 <| OJ.go 1 [(30, .pointer (some (pt b1 0)))] <| OJ.kld (d := 31) (y := .tmp 30) (cd := c_api_IP) (j := 0) (b := b1) (o := 0) a0.IP (pend2 := []) Ty28 rfl (At_api_Prefix_IP a0) rfl ?_
  refine OJ.go 1 [(32, .int .i64 s5)] <| OJ.call (d := 33) (g := 82) (ats := #[28, 3]) (args := [.tmp 31, .tmp 32]) (owed := []) F82 (r4_bit_ok a0.IP s5) (fun r9 => ?_)
  refine OW.nil <| OJ.go 1 [(34, .bool (r9 == 1))] <| OJ.nil <| SJ.cond (t := (.tmp 34)) (b := (r9 == 1)) beq_iff_eq (fun hc10 => ?_) (fun hc10 => ?_)
  ·exact SJ.sr 1 <| OJ.go 1 [(2, .int .i64 46)] <| OJ.nil <| SJ.r1 (.int .i64 46) rfl rfl
  ·exact SJ.skip <| SJ.inBlock <| SJ.rg 3 <| OJ.go 3 [(5, .int .i64 (IntKind.wrap .i64 (s5 + 1))), (29, .int .i64 (IntKind.wrap .i64 (s5 + 1))), (28, .int .i64 s5)] <| OJ.nil <| SJ.at_ [1, 4, 5] rfl
 ·exact SJ.exit (id := 0) (by rfl) <| SJ.sr 1 <| OJ.go 1 [(2, .int .i64 0)] <| OJ.nil <| SJ.r1 (.int .i64 0) rfl rfl
noncomputable def r4_ValidPrefix (a0 : api_Prefix) : M Int :=
 slot 38 >>= fun b1 =>
 r4_Valid a0.IP >>= fun r2 =>
 if ¬ (r2 = true) then
  pure 40
 else
  r4_width a0.IP >>= fun r3 =>
  (if a0.Len < 0 then
    pure true
   else
    pure (decide (a0.Len > r3))) >>= fun y4 =>
  if y4 = true then
   pure 45
  else
   loopM (fun s_ : Int => r4_ValidPrefix.L1 a0 r3 s_) a0.Len
theorem r4_ValidPrefix_ok (a0 : api_Prefix) : Ref Tryz.prog 48 [c_api_Prefix.val a0] (r4_ValidPrefix a0) r4_ValidPrefix.out := by
 refine Ref.of (cd := r4_ValidPrefix.B) Tryz.func48 ?_
 show SJ r4_ValidPrefix.cx [.code r4_ValidPrefix.B] [(0, c_api_Prefix.val a0)] [] (r4_ValidPrefix a0) r4_ValidPrefix.F0
 unfold r4_ValidPrefix
 refine SJ.sr 2 <| OJ.slotOf (d := 1) (op := (.box 38 (.tmp 0))) (cd := c_api_Prefix) (u := a0) (owed := []) (box_run (by kernel_rfl)) (fun b1 => ?_)
 refine OW.nil <| OJ.go 1 [(2, .int .i64 0)] <| OJ.nil <| SJ.sr 4 <| OJ.go 1 [(6, .pointer (some (pt b1 0)))] <| OJ.kld (d := 7) (y := .tmp 6) (cd := c_api_IP) (j := 0) (b := b1) (o := 0) a0.IP (pend2 := []) Ty28 rfl (At_api_Prefix_IP a0) rfl ?_
 refine OJ.call (d := 8) (g := 46) (ats := #[28]) (args := [.tmp 7]) (owed := []) F46 (r4_Valid_ok a0.IP) (fun r2 => ?_)
 refine OW.nil <| OJ.go 1 [(3, .bool r2)] <| OJ.nil <| SJ.seq <| SJ.sr 2 <| OJ.go 2 [(10, .bool (!r2)), (9, .bool r2)] <| OJ.nil <| SJ.cond (t := (.tmp 10)) (b := (!r2)) (bnot_iff Iff.rfl) (fun hc13 => ?_) (fun hc13 => ?_)
 ·exact SJ.sr 1 <| OJ.go 1 [(2, .int .i64 40)] <| OJ.nil <| SJ.r1 (.int .i64 40) rfl rfl
 ·refine SJ.skip <| SJ.sr 4 <| OJ.go 1 [(11, .pointer (some (pt b1 0)))] <| OJ.kld (d := 12) (y := .tmp 11) (cd := c_api_IP) (j := 0) (b := b1) (o := 0) a0.IP (pend2 := []) Ty28 rfl (At_api_Prefix_IP a0) rfl ?_
  refine OJ.call (d := 13) (g := 73) (ats := #[28]) (args := [.tmp 12]) (owed := []) F73 (r4_width_ok a0.IP) (fun r3 => ?_)
  refine OW.nil <| OJ.go 1 [(4, .int .i64 r3)] <| OJ.nil <| SJ.seq <| SJ.sr 9 <| OJ.go 1 [(14, .pointer (some (pt b1 17)))] <| OJ.kld (d := 15) (y := .tmp 14) (cd := (cI .i64)) (j := 0) (b := b1) (o := 17) a0.Len (pend2 := []) Ty3 rfl (At_api_Prefix_Len a0) rfl ?_
  refine OJ.go 2 [(17, .bool (decide (a0.Len < 0))), (16, .bool (decide (a0.Len < 0)))] <| OJ.join (b := decide (a0.Len < 0)) [4, 5, 6, 7, 8] [] [1, 4, 22] (fun y4 => [(1, .pointer (some (pt b1 0))), (4, .int .i64 r3), (22, .bool y4)]) [] [] (t := 17) decide_eq_true_iff (fun hp_ => ?_) (fun hp_ => ?_) (fun _ _ _ _ _ _ h_ => h_) (fun y4 => ?_)
  ·exact OJ.go 5 [(22, .bool true), (21, undef), (20, undef), (19, undef), (18, undef)] <| OJ.x0
  ·refine OJ.go 1 [(18, .pointer (some (pt b1 17)))] <| OJ.kld (d := 19) (y := .tmp 18) (cd := (cI .i64)) (j := 0) (b := b1) (o := 17) a0.Len (pend2 := []) Ty3 rfl (At_api_Prefix_Len a0) rfl ?_
   exact OJ.go 3 [(22, .bool (decide (a0.Len > r3))), (21, .bool (decide (a0.Len > r3))), (20, .int .i64 r3)] <| OJ.x0
  ·refine OJ.nil <| SJ.cond (t := (.tmp 22)) (b := y4) Iff.rfl (fun hc12 => ?_) (fun hc12 => ?_)
   ·exact SJ.sr 1 <| OJ.go 1 [(2, .int .i64 45)] <| OJ.nil <| SJ.r1 (.int .i64 45) rfl rfl
   ·refine SJ.skip <| SJ.seq <| SJ.sr 3 <| OJ.go 1 [(23, .pointer (some (pt b1 17)))] <| OJ.kld (d := 24) (y := .tmp 23) (cd := (cI .i64)) (j := 0) (b := b1) (o := 17) a0.Len (pend2 := []) Ty3 rfl (At_api_Prefix_Len a0) rfl ?_
    exact OJ.go 1 [(5, .int .i64 a0.Len)] <| OJ.nil <| SJ.block (id := 0) <| SJ.loop (fun s_ : Int => [(1, .pointer (some (pt b1 0))), (4, .int .i64 r3), (5, .int .i64 s_)]) (fun s_ : Int => [(b1, c_api_Prefix.enc a0)]) [1, 4, 5] rfl (fun _ _ => rfl) (fun s_ => r4_ValidPrefix.L1_ok a0 b1 r3 s_)

/-! ### weir/weirref4.ParsePrefix: function 38 -/
noncomputable def r4_ParsePrefix.B : Code := (Tryz.f38.body).getD .skip
noncomputable def r4_ParsePrefix.cx : Fx := ⟨Tryz.prog, 38, Tryz.f38⟩
noncomputable def r4_ParsePrefix.out (r_ : (api_Prefix × Int × Int)) : Value := .tuple #[c_api_Prefix.val r_.1, .int .i64 r_.2.1, .int .i64 r_.2.2]
noncomputable def r4_ParsePrefix.F0 (r_ : (api_Prefix × Int × Int)) : Reach := .ret (r4_ParsePrefix.out r_)
noncomputable def r4_ParsePrefix.K1 (a0 : ByteArray) (s2 : Int) (r7 : (api_IP × Int × Int)) (s9 : Int) : M (api_Prefix × Int × Int) :=
 if s9 = (IntKind.wrap .i64 (s2 + 1)) then
  r4_here a0 s9 >>= fun r16 =>
  pure (z_api_Prefix, r16.1, r16.2)
 else
  r4_width r7.1 >>= fun r17 =>
  r4_decimal a0 (IntKind.wrap .i64 (s2 + 1)) s9 r17 >>= fun r18 =>
  if r18 < 0 then
   pure (z_api_Prefix, 45, IntKind.wrap .i64 (s2 + 1))
  else
   if s9 < (a0.size : Int) then
    pure (z_api_Prefix, 41, s9)
   else
    slot 38 >>= fun b19 =>
    r4_ValidPrefix (⟨r7.1, r18⟩ : api_Prefix) >>= fun r20 =>
    if r20 ≠ 0 then
     pure (z_api_Prefix, 46, 0)
    else
     pure ((⟨r7.1, r18⟩ : api_Prefix), 0, 0)
theorem r4_ParsePrefix.K1_ok (a0 : ByteArray) (b1 : Nat) (s2 : Int) (r7 : (api_IP × Int × Int)) (b8 : Nat) (s9 : Int) :
  SJ r4_ParsePrefix.cx [.code (c2 (c2 (c2 (c2 (c2 (c2 (c2 (c2 (c2 r4_ParsePrefix.B)))))))))] [(0, .string a0), (2, .pointer (some (pt b1 0))), (5, .int .i64 s2), (6, .pointer (some (pt b8 0))), (9, .int .i64 s9)] [(b8, c_api_IP.enc r7.1), (b1, c_api_Prefix.enc z_api_Prefix)] (r4_ParsePrefix.K1 a0 s2 r7 s9) r4_ParsePrefix.F0 := by
 unfold r4_ParsePrefix.K1
 refine SJ.seq <| SJ.sr 4 <| OJ.go 4 [(67, .bool (s9 == (IntKind.wrap .i64 (s2 + 1)))), (66, .int .i64 (IntKind.wrap .i64 (s2 + 1))), (65, .int .i64 s2), (64, .int .i64 s9)] <| OJ.nil <| SJ.cond (t := (.tmp 67)) (b := (s9 == (IntKind.wrap .i64 (s2 + 1)))) beq_iff_eq (fun hc24 => ?_) (fun hc24 => ?_)
 ·refine SJ.sr 8 <| OJ.go 2 [(70, .int .i64 s9), (69, .string a0)] <| OJ.call (d := 71) (g := 71) (ats := #[9, 3]) (args := [.tmp 69, .tmp 70]) (owed := []) F71 (r4_here_ok a0 s9) (fun r16 => ?_)
  refine OW.nil <| OJ.go 5 [(11, .int .i64 r16.2), (10, .int .i64 r16.1), (73, .int .i64 r16.2), (72, .int .i64 r16.1), (68, .tuple #[.int .i64 r16.1, .int .i64 r16.2])] <| OJ.nil <| SJ.sr 6 <| OJ.build (d := 74) (T := 38) (parts := []) (ps := []) (cd := c_api_Prefix) (z0 := z_api_Prefix) z_api_Prefix Ty38 rfl Filled.nil ?_
  refine OJ.go 2 [(76, .int .i64 r16.2), (75, .int .i64 r16.1)] <| OJ.kst (y := .tmp 2) (z := .tmp 74) (cd := c_api_Prefix) (u := z_api_Prefix) (j := 1) (b := b1) (o := 0) (c_api_Prefix.enc z_api_Prefix) (owed := []) Ty38 rfl (Upd.whole ((Cod.len _ _).trans (Cod.len _ _).symm)) rfl ?_
  exact OW.nil <| OJ.go 2 [(4, .int .i64 r16.2), (3, .int .i64 r16.1)] <| OJ.nil <| SJ.ret rfl (Res.run (ys := [c_api_Prefix.val z_api_Prefix, .int .i64 r16.1, .int .i64 r16.2]) (.cell (j := 1) (b := b1) (cd := c_api_Prefix) (q := z_api_Prefix) (by kernel_rfl) rfl Ty38 (At.whole _) (.tmp (by kernel_rfl) (.tmp (by kernel_rfl) .nil))) rfl)
 ·refine SJ.skip <| SJ.sr 8 <| OJ.go 4 [(80, .int .i64 s9), (79, .int .i64 (IntKind.wrap .i64 (s2 + 1))), (78, .int .i64 s2), (77, .string a0)] <| OJ.kld (d := 81) (y := .tmp 6) (cd := c_api_IP) (j := 0) (b := b8) (o := 0) r7.1 (pend2 := []) Ty28 rfl (At.whole _) rfl ?_
  refine OJ.call (d := 82) (g := 73) (ats := #[28]) (args := [.tmp 81]) (owed := []) F73 (r4_width_ok r7.1) (fun r17 => ?_)
  refine OW.nil <| OJ.call (d := 83) (g := 72) (ats := #[9, 3, 3, 3]) (args := [.tmp 77, .tmp 79, .tmp 80, .tmp 82]) (owed := []) F72 (r4_decimal_ok a0 (IntKind.wrap .i64 (s2 + 1)) s9 r17) (fun r18 => ?_)
  refine OW.nil <| OJ.go 1 [(12, .int .i64 r18)] <| OJ.nil <| SJ.seq <| SJ.sr 2 <| OJ.go 2 [(85, .bool (decide (r18 < 0))), (84, .int .i64 r18)] <| OJ.nil <| SJ.cond (t := (.tmp 85)) (b := decide (r18 < 0)) decide_eq_true_iff (fun hc23 => ?_) (fun hc23 => ?_)
  ·refine SJ.sr 6 <| OJ.build (d := 86) (T := 38) (parts := []) (ps := []) (cd := c_api_Prefix) (z0 := z_api_Prefix) z_api_Prefix Ty38 rfl Filled.nil ?_
   refine OJ.go 2 [(88, .int .i64 (IntKind.wrap .i64 (s2 + 1))), (87, .int .i64 s2)] <| OJ.kst (y := .tmp 2) (z := .tmp 86) (cd := c_api_Prefix) (u := z_api_Prefix) (j := 1) (b := b1) (o := 0) (c_api_Prefix.enc z_api_Prefix) (owed := []) Ty38 rfl (Upd.whole ((Cod.len _ _).trans (Cod.len _ _).symm)) rfl ?_
   exact OW.nil <| OJ.go 2 [(4, .int .i64 (IntKind.wrap .i64 (s2 + 1))), (3, .int .i64 45)] <| OJ.nil <| SJ.ret rfl (Res.run (ys := [c_api_Prefix.val z_api_Prefix, .int .i64 45, .int .i64 (IntKind.wrap .i64 (s2 + 1))]) (.cell (j := 1) (b := b1) (cd := c_api_Prefix) (q := z_api_Prefix) (by kernel_rfl) rfl Ty38 (At.whole _) (.tmp (by kernel_rfl) (.tmp (by kernel_rfl) .nil))) rfl)
  ·refine SJ.skip <| SJ.seq <| SJ.sr 4 <| OJ.go 4 [(92, .bool (decide (s9 < (a0.size : Int)))), (91, .int .i64 (a0.size : Int)), (90, .string a0), (89, .int .i64 s9)] <| OJ.nil <| SJ.cond (t := (.tmp 92)) (b := decide (s9 < (a0.size : Int))) decide_eq_true_iff (fun hc22 => ?_) (fun hc22 => ?_)
   ·refine SJ.sr 5 <| OJ.build (d := 93) (T := 38) (parts := []) (ps := []) (cd := c_api_Prefix) (z0 := z_api_Prefix) z_api_Prefix Ty38 rfl Filled.nil ?_
    refine OJ.go 1 [(94, .int .i64 s9)] <| OJ.kst (y := .tmp 2) (z := .tmp 93) (cd := c_api_Prefix) (u := z_api_Prefix) (j := 1) (b := b1) (o := 0) (c_api_Prefix.enc z_api_Prefix) (owed := []) Ty38 rfl (Upd.whole ((Cod.len _ _).trans (Cod.len _ _).symm)) rfl ?_
    exact OW.nil <| OJ.go 2 [(4, .int .i64 s9), (3, .int .i64 41)] <| OJ.nil <| SJ.ret rfl (Res.run (ys := [c_api_Prefix.val z_api_Prefix, .int .i64 41, .int .i64 s9]) (.cell (j := 1) (b := b1) (cd := c_api_Prefix) (q := z_api_Prefix) (by kernel_rfl) rfl Ty38 (At.whole _) (.tmp (by kernel_rfl) (.tmp (by kernel_rfl) .nil))) rfl)
   ·refine SJ.skip <| SJ.sr 5 <| OJ.kld (d := 95) (y := .tmp 6) (cd := c_api_IP) (j := 0) (b := b8) (o := 0) r7.1 (pend2 := []) Ty28 rfl (At.whole _) rfl ?_
    refine OJ.go 1 [(96, .int .i64 r18)] <| OJ.build (d := 97) (T := 38) (parts := [(0, .tmp 95), (1, .tmp 96)]) (ps := [(0, c_api_IP.val r7.1), (1, (cI .i64).val r18)]) (cd := c_api_Prefix) (z0 := z_api_Prefix) (⟨r7.1, r18⟩ : api_Prefix) Ty38 rfl (Filled.cons (cd := c_api_IP) (q := r7.1) (o := 0) (by kernel_rfl) (Up_api_Prefix_IP z_api_Prefix r7.1) (Filled.cons (cd := (cI .i64)) (q := r18) (o := 17) (by kernel_rfl) (Up_api_Prefix_Len (⟨r7.1, z_api_Prefix.Len⟩ : api_Prefix) r18) Filled.nil)) ?_
    refine OJ.slotOf (d := 13) (op := (.alloc 38)) (cd := c_api_Prefix) (u := z_api_Prefix) (owed := []) (alloc_run Ty38) (fun b19 => ?_)
    refine OW.nil <| OJ.kst (y := .tmp 13) (z := .tmp 97) (cd := c_api_Prefix) (u := (⟨r7.1, r18⟩ : api_Prefix)) (j := 0) (b := b19) (o := 0) (c_api_Prefix.enc (⟨r7.1, r18⟩ : api_Prefix)) (owed := []) Ty38 rfl (Upd.whole ((Cod.len _ _).trans (Cod.len _ _).symm)) rfl ?_
    refine OW.nil <| OJ.nil <| SJ.seq <| SJ.sr 3 <| OJ.kld (d := 98) (y := .tmp 13) (cd := c_api_Prefix) (j := 0) (b := b19) (o := 0) (⟨r7.1, r18⟩ : api_Prefix) (pend2 := []) Ty38 rfl (At.whole _) rfl ?_
    refine OJ.call (d := 99) (g := 48) (ats := #[38]) (args := [.tmp 98]) (owed := []) F48 (r4_ValidPrefix_ok (⟨r7.1, r18⟩ : api_Prefix)) (fun r20 => ?_)
    refine OW.nil <| OJ.go 1 [(100, .bool (r20 != 0))] <| OJ.nil <| SJ.cond (t := (.tmp 100)) (b := (r20 != 0)) bne_iff_ne (fun hc21 => ?_) (fun hc21 => ?_)
    ·refine SJ.sr 4 <| OJ.build (d := 101) (T := 38) (parts := []) (ps := []) (cd := c_api_Prefix) (z0 := z_api_Prefix) z_api_Prefix Ty38 rfl Filled.nil ?_
     refine OJ.kst (y := .tmp 2) (z := .tmp 101) (cd := c_api_Prefix) (u := z_api_Prefix) (j := 2) (b := b1) (o := 0) (c_api_Prefix.enc z_api_Prefix) (owed := []) Ty38 rfl (Upd.whole ((Cod.len _ _).trans (Cod.len _ _).symm)) rfl ?_
     exact OW.nil <| OJ.go 2 [(4, .int .i64 0), (3, .int .i64 46)] <| OJ.nil <| SJ.ret rfl (Res.run (ys := [c_api_Prefix.val z_api_Prefix, .int .i64 46, .int .i64 0]) (.cell (j := 2) (b := b1) (cd := c_api_Prefix) (q := z_api_Prefix) (by kernel_rfl) rfl Ty38 (At.whole _) (.tmp (by kernel_rfl) (.tmp (by kernel_rfl) .nil))) rfl)
    ·refine SJ.skip <| SJ.sr 4 <| OJ.kld (d := 102) (y := .tmp 13) (cd := c_api_Prefix) (j := 0) (b := b19) (o := 0) (⟨r7.1, r18⟩ : api_Prefix) (pend2 := []) Ty38 rfl (At.whole _) rfl ?_
     refine OJ.kst (y := .tmp 2) (z := .tmp 102) (cd := c_api_Prefix) (u := (⟨r7.1, r18⟩ : api_Prefix)) (j := 2) (b := b1) (o := 0) (c_api_Prefix.enc (⟨r7.1, r18⟩ : api_Prefix)) (owed := []) Ty38 rfl (Upd.whole ((Cod.len _ _).trans (Cod.len _ _).symm)) rfl ?_
     exact OW.nil <| OJ.go 2 [(4, .int .i64 0), (3, .int .i64 0)] <| OJ.nil <| SJ.ret rfl (Res.run (ys := [c_api_Prefix.val (⟨r7.1, r18⟩ : api_Prefix), .int .i64 0, .int .i64 0]) (.cell (j := 2) (b := b1) (cd := c_api_Prefix) (q := (⟨r7.1, r18⟩ : api_Prefix)) (by kernel_rfl) rfl Ty38 (At.whole _) (.tmp (by kernel_rfl) (.tmp (by kernel_rfl) .nil))) rfl)
noncomputable def r4_ParsePrefix.F1 (a0 : ByteArray) (b1 : Nat) (s2 : Int) (r7 : (api_IP × Int × Int)) (b8 : Nat) : (LS Int (api_Prefix × Int × Int)) → Reach := loopF [.inLoop (c1 (c1 (c1 (c2 (c2 (c2 (c2 (c2 (c2 (c2 (c2 r4_ParsePrefix.B))))))))))), .inBlock 2, .code (c2 (c2 (c2 (c2 (c2 (c2 (c2 (c2 (c2 r4_ParsePrefix.B)))))))))] (fun s_ : Int => [(0, .string a0), (2, .pointer (some (pt b1 0))), (5, .int .i64 s2), (6, .pointer (some (pt b8 0))), (9, .int .i64 s_)]) (fun s_ : Int => [(b8, c_api_IP.enc r7.1), (b1, c_api_Prefix.enc z_api_Prefix)]) r4_ParsePrefix.F0
noncomputable def r4_ParsePrefix.L1 (a0 : ByteArray) (s2 : Int) (r7 : (api_IP × Int × Int)) (s9 : Int) : M (LS Int (api_Prefix × Int × Int)) :=
 (if s9 < (a0.size : Int) then
   chk ((0 : Int) ≤ s9 ∧ s9 < (a0.size : Int)) >>= fun _ =>
   r4_digit (sb a0 s9) >>= fun r27 =>
   pure r27
  else
   pure false) >>= fun y28 =>
 if y28 = true then
  pure (LS.next (IntKind.wrap .i64 (s9 + 1)))
 else
  (r4_ParsePrefix.K1 a0 s2 r7 s9) >>= fun b => pure (LS.done b)
theorem r4_ParsePrefix.L1_ok (a0 : ByteArray) (b1 : Nat) (s2 : Int) (r7 : (api_IP × Int × Int)) (b8 : Nat) (s9 : Int) :
  SJ r4_ParsePrefix.cx [.code (c1 (c1 (c1 (c2 (c2 (c2 (c2 (c2 (c2 (c2 (c2 r4_ParsePrefix.B))))))))))), .inLoop (c1 (c1 (c1 (c2 (c2 (c2 (c2 (c2 (c2 (c2 (c2 r4_ParsePrefix.B))))))))))), .inBlock 2, .code (c2 (c2 (c2 (c2 (c2 (c2 (c2 (c2 (c2 r4_ParsePrefix.B)))))))))] [(0, .string a0), (2, .pointer (some (pt b1 0))), (5, .int .i64 s2), (6, .pointer (some (pt b8 0))), (9, .int .i64 s9)] [(b8, c_api_IP.enc r7.1), (b1, c_api_Prefix.enc z_api_Prefix)] (r4_ParsePrefix.L1 a0 s2 r7 s9) (r4_ParsePrefix.F1 a0 b1 s2 r7 b8) := by
 unfold r4_ParsePrefix.L1
 refine SJ.seq <| SJ.sr 10 <| OJ.go 5 [(56, .bool (decide (s9 < (a0.size : Int)))), (55, .bool (decide (s9 < (a0.size : Int)))), (54, .int .i64 (a0.size : Int)), (53, .string a0), (52, .int .i64 s9)] <| OJ.join (b := decide (s9 < (a0.size : Int))) [5, 6, 7, 8, 9] [] [0, 2, 5, 6, 9, 61] (fun y28 => [(0, .string a0), (2, .pointer (some (pt b1 0))), (5, .int .i64 s2), (6, .pointer (some (pt b8 0))), (9, .int .i64 s9), (61, .bool y28)]) [] [] (t := 56) decide_eq_true_iff (fun hp_ => ?_) (fun hp_ => ?_) (fun _ _ _ _ _ _ h_ => h_) (fun y28 => ?_)
 ·refine OJ.go 2 [(58, .int .i64 s9), (57, .string a0)] <| OJ.idxT (d := 59) (T := 9) (y := .tmp 57) (j := .tmp 58) (k := .i64) (fun hb25 hb26 => ?_)
  refine OJ.call (d := 60) (g := 70) (ats := #[5]) (args := [.tmp 59]) (owed := []) F70 (r4_digit_ok (sb a0 s9)) (fun r27 => ?_)
  exact OW.nil <| OJ.go 1 [(61, .bool r27)] <| OJ.x0
 ·exact OJ.go 5 [(61, .bool false), (60, undef), (59, undef), (58, undef), (57, undef)] <| OJ.x0
 ·refine OJ.nil <| SJ.cond (t := (.tmp 61)) (b := y28) Iff.rfl (fun hc29 => ?_) (fun hc29 => ?_)
  ·exact SJ.skip <| SJ.block (id := 3) <| SJ.rg 3 <| OJ.go 3 [(9, .int .i64 (IntKind.wrap .i64 (s9 + 1))), (63, .int .i64 (IntKind.wrap .i64 (s9 + 1))), (62, .int .i64 s9)] <| OJ.nil <| SJ.inBlock <| SJ.at_ [0, 2, 5, 6, 9] rfl
  ·refine SJ.exit (id := 2) (by rfl) <| SJ.less [0, 2, 5, 6, 9] (m' := [(0, .string a0), (2, .pointer (some (pt b1 0))), (5, .int .i64 s2), (6, .pointer (some (pt b8 0))), (9, .int .i64 s9)]) ?_
   refine SJ.done ?_
   exact r4_ParsePrefix.K1_ok a0 b1 s2 r7 b8 s9
noncomputable def r4_ParsePrefix.K2 (a0 : ByteArray) (s2 : Int) : M (api_Prefix × Int × Int) :=
 if s2 = (a0.size : Int) then
  pure (z_api_Prefix, 42, (a0.size : Int))
 else
  chk (0 ≤ (0 : Int) ∧ (0 : Int) ≤ s2 ∧ s2 ≤ (a0.size : Int)) >>= fun _ =>
  r4_ParseIP (ByteArray.extract a0 (Int.toNat 0) (Int.toNat s2)) >>= fun r7 =>
  slot 28 >>= fun b8 =>
  if r7.2.1 ≠ 0 then
   pure (z_api_Prefix, r7.2.1, r7.2.2)
  else
   loopM (fun s_ : Int => r4_ParsePrefix.L1 a0 s2 r7 s_) (IntKind.wrap .i64 (s2 + 1))
theorem r4_ParsePrefix.K2_ok (a0 : ByteArray) (b1 : Nat) (s2 : Int) :
  SJ r4_ParsePrefix.cx [.code (c2 (c2 (c2 (c2 r4_ParsePrefix.B))))] [(0, .string a0), (2, .pointer (some (pt b1 0))), (5, .int .i64 s2)] [(b1, c_api_Prefix.enc z_api_Prefix)] (r4_ParsePrefix.K2 a0 s2) r4_ParsePrefix.F0 := by
 unfold r4_ParsePrefix.K2
 refine SJ.seq <| SJ.sr 4 <| OJ.go 4 [(33, .bool (s2 == (a0.size : Int))), (32, .int .i64 (a0.size : Int)), (31, .string a0), (30, .int .i64 s2)] <| OJ.nil <| SJ.cond (t := (.tmp 33)) (b := (s2 == (a0.size : Int))) beq_iff_eq (fun hc31 => ?_) (fun hc31 => ?_)
 ·refine SJ.sr 6 <| OJ.build (d := 34) (T := 38) (parts := []) (ps := []) (cd := c_api_Prefix) (z0 := z_api_Prefix) z_api_Prefix Ty38 rfl Filled.nil ?_
  refine OJ.go 2 [(36, .int .i64 (a0.size : Int)), (35, .string a0)] <| OJ.kst (y := .tmp 2) (z := .tmp 34) (cd := c_api_Prefix) (u := z_api_Prefix) (j := 0) (b := b1) (o := 0) (c_api_Prefix.enc z_api_Prefix) (owed := []) Ty38 rfl (Upd.whole ((Cod.len _ _).trans (Cod.len _ _).symm)) rfl ?_
  exact OW.nil <| OJ.go 2 [(4, .int .i64 (a0.size : Int)), (3, .int .i64 42)] <| OJ.nil <| SJ.ret rfl (Res.run (ys := [c_api_Prefix.val z_api_Prefix, .int .i64 42, .int .i64 (a0.size : Int)]) (.cell (j := 0) (b := b1) (cd := c_api_Prefix) (q := z_api_Prefix) (by kernel_rfl) rfl Ty38 (At.whole _) (.tmp (by kernel_rfl) (.tmp (by kernel_rfl) .nil))) rfl)
 ·refine SJ.skip <| SJ.sr 12 <| OJ.go 2 [(39, .int .i64 s2), (38, .string a0)] <| OJ.cutT (d := 40) (t := 9) (y := .tmp 38) (lo := none) (hi := (some (.tmp 39))) (lo' := none) (hi' := some (.i64, s2)) ?_
  refine OJ.call (d := 41) (g := 36) (ats := #[9]) (args := [.tmp 40]) (owed := []) F36 (r4_ParseIP_ok (ByteArray.extract a0 (Int.toNat 0) (Int.toNat s2))) (fun r7 => ?_)
  refine OW.nil <| OJ.go 4 [(44, .int .i64 r7.2.2), (43, .int .i64 r7.2.1), (42, c_api_IP.val r7.1), (37, .tuple #[c_api_IP.val r7.1, .int .i64 r7.2.1, .int .i64 r7.2.2])] <| OJ.slotOf (d := 6) (op := (.alloc 28)) (cd := c_api_IP) (u := z_api_IP) (owed := []) (alloc_run Ty28) (fun b8 => ?_)
  refine OW.nil <| OJ.kst (y := .tmp 6) (z := .tmp 42) (cd := c_api_IP) (u := r7.1) (j := 0) (b := b8) (o := 0) (c_api_IP.enc r7.1) (owed := []) Ty28 rfl (Upd.whole ((Cod.len _ _).trans (Cod.len _ _).symm)) rfl ?_
  refine OW.nil <| OJ.go 2 [(8, .int .i64 r7.2.2), (7, .int .i64 r7.2.1)] <| OJ.nil <| SJ.seq <| SJ.sr 2 <| OJ.go 2 [(46, .bool (r7.2.1 != 0)), (45, .int .i64 r7.2.1)] <| OJ.nil <| SJ.cond (t := (.tmp 46)) (b := (r7.2.1 != 0)) bne_iff_ne (fun hc30 => ?_) (fun hc30 => ?_)
  ·refine SJ.sr 6 <| OJ.build (d := 47) (T := 38) (parts := []) (ps := []) (cd := c_api_Prefix) (z0 := z_api_Prefix) z_api_Prefix Ty38 rfl Filled.nil ?_
   refine OJ.go 2 [(49, .int .i64 r7.2.2), (48, .int .i64 r7.2.1)] <| OJ.kst (y := .tmp 2) (z := .tmp 47) (cd := c_api_Prefix) (u := z_api_Prefix) (j := 1) (b := b1) (o := 0) (c_api_Prefix.enc z_api_Prefix) (owed := []) Ty38 rfl (Upd.whole ((Cod.len _ _).trans (Cod.len _ _).symm)) rfl ?_
   exact OW.nil <| OJ.go 2 [(4, .int .i64 r7.2.2), (3, .int .i64 r7.2.1)] <| OJ.nil <| SJ.ret rfl (Res.run (ys := [c_api_Prefix.val z_api_Prefix, .int .i64 r7.2.1, .int .i64 r7.2.2]) (.cell (j := 1) (b := b1) (cd := c_api_Prefix) (q := z_api_Prefix) (by kernel_rfl) rfl Ty38 (At.whole _) (.tmp (by kernel_rfl) (.tmp (by kernel_rfl) .nil))) rfl)
  ·exact SJ.skip <| SJ.sr 3 <| OJ.go 3 [(9, .int .i64 (IntKind.wrap .i64 (s2 + 1))), (51, .int .i64 (IntKind.wrap .i64 (s2 + 1))), (50, .int .i64 s2)] <| OJ.nil <| SJ.seq <| SJ.block (id := 2) <| SJ.loop (fun s_ : Int => [(0, .string a0), (2, .pointer (some (pt b1 0))), (5, .int .i64 s2), (6, .pointer (some (pt b8 0))), (9, .int .i64 s_)]) (fun s_ : Int => [(b8, c_api_IP.enc r7.1), (b1, c_api_Prefix.enc z_api_Prefix)]) [0, 2, 5, 6, 9] rfl (fun _ _ => rfl) (fun s_ => r4_ParsePrefix.L1_ok a0 b1 s2 r7 b8 s_)
noncomputable def r4_ParsePrefix.F2 (a0 : ByteArray) (b1 : Nat) : (LS Int (api_Prefix × Int × Int)) → Reach := loopF [.inLoop (c1 (c1 (c1 (c2 (c2 (c2 r4_ParsePrefix.B)))))), .inBlock 0, .code (c2 (c2 (c2 (c2 r4_ParsePrefix.B))))] (fun s_ : Int => [(0, .string a0), (2, .pointer (some (pt b1 0))), (5, .int .i64 s_)]) (fun s_ : Int => [(b1, c_api_Prefix.enc z_api_Prefix)]) r4_ParsePrefix.F0
noncomputable def r4_ParsePrefix.L2 (a0 : ByteArray) (s2 : Int) : M (LS Int (api_Prefix × Int × Int)) :=
 (if s2 < (a0.size : Int) then
   chk ((0 : Int) ≤ s2 ∧ s2 < (a0.size : Int)) >>= fun _ =>
   pure ((sb a0 s2) != 47)
  else
   pure false) >>= fun y34 =>
 if y34 = true then
  pure (LS.next (IntKind.wrap .i64 (s2 + 1)))
 else
  (r4_ParsePrefix.K2 a0 s2) >>= fun b => pure (LS.done b)
theorem r4_ParsePrefix.L2_ok (a0 : ByteArray) (b1 : Nat) (s2 : Int) :
  SJ r4_ParsePrefix.cx [.code (c1 (c1 (c1 (c2 (c2 (c2 r4_ParsePrefix.B)))))), .inLoop (c1 (c1 (c1 (c2 (c2 (c2 r4_ParsePrefix.B)))))), .inBlock 0, .code (c2 (c2 (c2 (c2 r4_ParsePrefix.B))))] [(0, .string a0), (2, .pointer (some (pt b1 0))), (5, .int .i64 s2)] [(b1, c_api_Prefix.enc z_api_Prefix)] (r4_ParsePrefix.L2 a0 s2) (r4_ParsePrefix.F2 a0 b1) := by
 unfold r4_ParsePrefix.L2
 refine SJ.seq <| SJ.sr 10 <| OJ.go 5 [(22, .bool (decide (s2 < (a0.size : Int)))), (21, .bool (decide (s2 < (a0.size : Int)))), (20, .int .i64 (a0.size : Int)), (19, .string a0), (18, .int .i64 s2)] <| OJ.join (b := decide (s2 < (a0.size : Int))) [5, 6, 7, 8, 9] [] [0, 2, 5, 27] (fun y34 => [(0, .string a0), (2, .pointer (some (pt b1 0))), (5, .int .i64 s2), (27, .bool y34)]) [] [] (t := 22) decide_eq_true_iff (fun hp_ => ?_) (fun hp_ => ?_) (fun _ _ _ _ _ _ h_ => h_) (fun y34 => ?_)
 ·refine OJ.go 2 [(24, .int .i64 s2), (23, .string a0)] <| OJ.idxT (d := 25) (T := 9) (y := .tmp 23) (j := .tmp 24) (k := .i64) (fun hb32 hb33 => ?_)
  exact OJ.go 2 [(27, .bool ((sb a0 s2) != 47)), (26, .bool ((sb a0 s2) != 47))] <| OJ.x0
 ·exact OJ.go 5 [(27, .bool false), (26, undef), (25, undef), (24, undef), (23, undef)] <| OJ.x0
 ·refine OJ.nil <| SJ.cond (t := (.tmp 27)) (b := y34) Iff.rfl (fun hc35 => ?_) (fun hc35 => ?_)
  ·exact SJ.skip <| SJ.block (id := 1) <| SJ.rg 3 <| OJ.go 3 [(5, .int .i64 (IntKind.wrap .i64 (s2 + 1))), (29, .int .i64 (IntKind.wrap .i64 (s2 + 1))), (28, .int .i64 s2)] <| OJ.nil <| SJ.inBlock <| SJ.at_ [0, 2, 5] rfl
  ·refine SJ.exit (id := 0) (by rfl) <| SJ.less [0, 2, 5] (m' := [(0, .string a0), (2, .pointer (some (pt b1 0))), (5, .int .i64 s2)]) ?_
   refine SJ.done ?_
   exact r4_ParsePrefix.K2_ok a0 b1 s2
noncomputable def r4_ParsePrefix (a0 : ByteArray) : M (api_Prefix × Int × Int) :=
 slot 38 >>= fun b1 =>
 if (a0.size : Int) > 49 then
  pure (z_api_Prefix, 2, 49)
 else
  loopM (fun s_ : Int => r4_ParsePrefix.L2 a0 s_) 0
theorem r4_ParsePrefix_ok (a0 : ByteArray) : Ref Tryz.prog 38 [.string a0] (r4_ParsePrefix a0) r4_ParsePrefix.out := by
 refine Ref.of (cd := r4_ParsePrefix.B) Tryz.func38 ?_
 show SJ r4_ParsePrefix.cx [.code r4_ParsePrefix.B] [(0, .string a0)] [] (r4_ParsePrefix a0) r4_ParsePrefix.F0
 unfold r4_ParsePrefix
 refine SJ.sr 3 <| OJ.slotOf (d := 2) (op := (.alloc 38)) (cd := c_api_Prefix) (u := z_api_Prefix) (owed := []) (alloc_run Ty38) (fun b1 => ?_)
 refine OW.nil <| OJ.go 2 [(4, .int .i64 0), (3, .int .i64 0)] <| OJ.nil <| SJ.seq <| SJ.sr 3 <| OJ.go 3 [(16, .bool (decide ((a0.size : Int) > 49))), (15, .int .i64 (a0.size : Int)), (14, .string a0)] <| OJ.nil <| SJ.cond (t := (.tmp 16)) (b := decide ((a0.size : Int) > 49)) decide_eq_true_iff (fun hc36 => ?_) (fun hc36 => ?_)
 ·refine SJ.sr 4 <| OJ.build (d := 17) (T := 38) (parts := []) (ps := []) (cd := c_api_Prefix) (z0 := z_api_Prefix) z_api_Prefix Ty38 rfl Filled.nil ?_
  refine OJ.kst (y := .tmp 2) (z := .tmp 17) (cd := c_api_Prefix) (u := z_api_Prefix) (j := 0) (b := b1) (o := 0) (c_api_Prefix.enc z_api_Prefix) (owed := []) Ty38 rfl (Upd.whole ((Cod.len _ _).trans (Cod.len _ _).symm)) rfl ?_
  exact OW.nil <| OJ.go 2 [(4, .int .i64 49), (3, .int .i64 2)] <| OJ.nil <| SJ.ret rfl (Res.run (ys := [c_api_Prefix.val z_api_Prefix, .int .i64 2, .int .i64 49]) (.cell (j := 0) (b := b1) (cd := c_api_Prefix) (q := z_api_Prefix) (by kernel_rfl) rfl Ty38 (At.whole _) (.tmp (by kernel_rfl) (.tmp (by kernel_rfl) .nil))) rfl)
 ·exact SJ.skip <| SJ.sr 1 <| OJ.go 1 [(5, .int .i64 0)] <| OJ.nil <| SJ.seq <| SJ.block (id := 0) <| SJ.loop (fun s_ : Int => [(0, .string a0), (2, .pointer (some (pt b1 0))), (5, .int .i64 s_)]) (fun s_ : Int => [(b1, c_api_Prefix.enc z_api_Prefix)]) [0, 2, 5] rfl (fun _ _ => rfl) (fun s_ => r4_ParsePrefix.L2_ok a0 b1 s_)

/-! ### weir/addr.ParseMac: function 39 -/
noncomputable def addr_ParseMac.B : Code := (Tryz.f39.body).getD .skip
noncomputable def addr_ParseMac.cx : Fx := ⟨Tryz.prog, 39, Tryz.f39⟩
noncomputable def addr_ParseMac.out (r_ : ((Vec Int 6) × Int × Int)) : Value := .tuple #[((cI .u8).arr 6).val r_.1, .int .i64 r_.2.1, .int .i64 r_.2.2]
noncomputable def addr_ParseMac.F0 (r_ : ((Vec Int 6) × Int × Int)) : Reach := .ret (addr_ParseMac.out r_)
noncomputable def addr_ParseMac.F1 (a0 : ByteArray) (b1 : Nat) (b2 : Nat) : (LS (Int × (Vec Int 6) × (Vec Int 6)) ((Vec Int 6) × Int × Int)) → Reach := loopF [.inLoop (c1 (c1 (c2 (c1 (c2 (c2 (c2 addr_ParseMac.B))))))), .inBlock 0, .code (c2 (c2 (c2 (c2 addr_ParseMac.B))))] (fun s_ : (Int × (Vec Int 6) × (Vec Int 6)) => [(0, .string a0), (2, .pointer (some (pt b1 0))), (5, .pointer (some (pt b2 0))), (12, .int .i64 s_.1)]) (fun s_ : (Int × (Vec Int 6) × (Vec Int 6)) => [(b2, ((cI .u8).arr 6).enc s_.2.1), (b1, ((cI .u8).arr 6).enc s_.2.2)]) addr_ParseMac.F0
noncomputable def addr_ParseMac.L1 (a0 : ByteArray) (s3 : Int) (s4 : (Vec Int 6)) (s5 : (Vec Int 6)) : M (LS (Int × (Vec Int 6) × (Vec Int 6)) ((Vec Int 6) × Int × Int)) :=
 if s3 < 17 then
  if s3 = (a0.size : Int) then
   pure (LS.done ((⟨[0, 0, 0, 0, 0, 0], rfl⟩ : (Vec Int 6)), 42, s3))
  else
   if (Int.tmod s3 3) = 2 then
    chk ((0 : Int) ≤ s3 ∧ s3 < (a0.size : Int)) >>= fun _ =>
    if (sb a0 s3) ≠ 58 then
     pure (LS.done ((⟨[0, 0, 0, 0, 0, 0], rfl⟩ : (Vec Int 6)), 41, s3))
    else
     pure (LS.next (IntKind.wrap .i64 (s3 + 1), s4, s5))
   else
    chk ((0 : Int) ≤ s3 ∧ s3 < (a0.size : Int)) >>= fun _ =>
    addr_hexa (sb a0 s3) >>= fun r31 =>
    if r31 < 0 then
     pure (LS.done ((⟨[0, 0, 0, 0, 0, 0], rfl⟩ : (Vec Int 6)), 41, s3))
    else
     chk ((0 : Int) ≤ (IntKind.wrap .i64 (Int.tdiv s3 3)) ∧ (IntKind.wrap .i64 (Int.tdiv s3 3)) < (6 : Nat)) >>= fun _ =>
     chk ((0 : Int) ≤ (IntKind.wrap .i64 (Int.tdiv s3 3)) ∧ (IntKind.wrap .i64 (Int.tdiv s3 3)) < (6 : Nat)) >>= fun _ =>
     pure (LS.next (IntKind.wrap .i64 (s3 + 1), (Vec.s s4 (IntKind.wrap .i64 (Int.tdiv s3 3)) (bor .u8 (IntKind.wrap .u8 ((Vec.g s4 (IntKind.wrap .i64 (Int.tdiv s3 3)) 0) * 2 ^ 4)) (IntKind.wrap .u8 r31))), s5))
 else
  pure (LS.done (s4, 0, 0))
theorem addr_ParseMac.L1_ok (a0 : ByteArray) (b1 : Nat) (b2 : Nat) (s3 : Int) (s4 : (Vec Int 6)) (s5 : (Vec Int 6)) :
  SJ addr_ParseMac.cx [.code (c1 (c1 (c2 (c1 (c2 (c2 (c2 addr_ParseMac.B))))))), .inLoop (c1 (c1 (c2 (c1 (c2 (c2 (c2 addr_ParseMac.B))))))), .inBlock 0, .code (c2 (c2 (c2 (c2 addr_ParseMac.B))))] [(0, .string a0), (2, .pointer (some (pt b1 0))), (5, .pointer (some (pt b2 0))), (12, .int .i64 s3)] [(b2, ((cI .u8).arr 6).enc s4), (b1, ((cI .u8).arr 6).enc s5)] (addr_ParseMac.L1 a0 s3 s4 s5) (addr_ParseMac.F1 a0 b1 b2) := by
 unfold addr_ParseMac.L1
 refine SJ.sr 1 <| OJ.go 1 [(13, .bool (decide (s3 < 17)))] <| OJ.nil <| SJ.seq <| SJ.cond (t := (.tmp 13)) (b := decide (s3 < 17)) decide_eq_true_iff (fun hc39 => ?_) (fun hc39 => ?_)
 ·refine SJ.skip <| SJ.seq <| SJ.block (id := 1) <| SJ.sr 2 <| OJ.go 2 [(6, .int .i64 s3), (14, .int .i64 s3)] <| OJ.nil <| SJ.seq <| SJ.sr 4 <| OJ.go 4 [(18, .bool (s3 == (a0.size : Int))), (17, .int .i64 (a0.size : Int)), (16, .string a0), (15, .int .i64 s3)] <| OJ.nil <| SJ.cond (t := (.tmp 18)) (b := (s3 == (a0.size : Int))) beq_iff_eq (fun hc38 => ?_) (fun hc38 => ?_)
  ·refine SJ.sr 5 <| OJ.build (d := 19) (T := 40) (parts := []) (ps := []) (cd := ((cI .u8).arr 6)) (z0 := (Vec.rep 6 0)) (⟨[0, 0, 0, 0, 0, 0], rfl⟩ : (Vec Int 6)) Ty40 rfl Filled.nil ?_
   refine OJ.go 1 [(20, .int .i64 s3)] <| OJ.kst (y := .tmp 2) (z := .tmp 19) (cd := ((cI .u8).arr 6)) (u := (⟨[0, 0, 0, 0, 0, 0], rfl⟩ : (Vec Int 6))) (j := 1) (b := b1) (o := 0) (((cI .u8).arr 6).enc (⟨[0, 0, 0, 0, 0, 0], rfl⟩ : (Vec Int 6))) (owed := []) Ty40 rfl (Upd.whole ((Cod.len _ _).trans (Cod.len _ _).symm)) rfl ?_
   exact OW.nil <| OJ.go 2 [(4, .int .i64 s3), (3, .int .i64 42)] <| OJ.nil <| SJ.ret rfl (Res.run (ys := [((cI .u8).arr 6).val (⟨[0, 0, 0, 0, 0, 0], rfl⟩ : (Vec Int 6)), .int .i64 42, .int .i64 s3]) (.cell (j := 1) (b := b1) (cd := ((cI .u8).arr 6)) (q := (⟨[0, 0, 0, 0, 0, 0], rfl⟩ : (Vec Int 6))) (by kernel_rfl) rfl Ty40 (At.whole _) (.tmp (by kernel_rfl) (.tmp (by kernel_rfl) .nil))) rfl)
  ·refine SJ.skip <| SJ.seq <| SJ.sr 3 <| OJ.go 3 [(23, .bool ((Int.tmod s3 3) == 2)), (22, .int .i64 (Int.tmod s3 3)), (21, .int .i64 s3)] <| OJ.nil <| SJ.cond (t := (.tmp 23)) (b := ((Int.tmod s3 3) == 2)) beq_iff_eq (fun hc37 => ?_) (fun hc37 => ?_)
   ·refine SJ.seq <| SJ.sr 4 <| OJ.go 2 [(25, .int .i64 s3), (24, .string a0)] <| OJ.idxT (d := 26) (T := 9) (y := .tmp 24) (j := .tmp 25) (k := .i64) (fun hb26 hb27 => ?_)
    refine OJ.go 1 [(27, .bool ((sb a0 s3) != 58))] <| OJ.nil <| SJ.cond (t := (.tmp 27)) (b := ((sb a0 s3) != 58)) bne_iff_ne (fun hc28 => ?_) (fun hc28 => ?_)
    ·refine SJ.sr 5 <| OJ.build (d := 28) (T := 40) (parts := []) (ps := []) (cd := ((cI .u8).arr 6)) (z0 := (Vec.rep 6 0)) (⟨[0, 0, 0, 0, 0, 0], rfl⟩ : (Vec Int 6)) Ty40 rfl Filled.nil ?_
     refine OJ.go 1 [(29, .int .i64 s3)] <| OJ.kst (y := .tmp 2) (z := .tmp 28) (cd := ((cI .u8).arr 6)) (u := (⟨[0, 0, 0, 0, 0, 0], rfl⟩ : (Vec Int 6))) (j := 1) (b := b1) (o := 0) (((cI .u8).arr 6).enc (⟨[0, 0, 0, 0, 0, 0], rfl⟩ : (Vec Int 6))) (owed := []) Ty40 rfl (Upd.whole ((Cod.len _ _).trans (Cod.len _ _).symm)) rfl ?_
     exact OW.nil <| OJ.go 2 [(4, .int .i64 s3), (3, .int .i64 41)] <| OJ.nil <| SJ.ret rfl (Res.run (ys := [((cI .u8).arr 6).val (⟨[0, 0, 0, 0, 0, 0], rfl⟩ : (Vec Int 6)), .int .i64 41, .int .i64 s3]) (.cell (j := 1) (b := b1) (cd := ((cI .u8).arr 6)) (q := (⟨[0, 0, 0, 0, 0, 0], rfl⟩ : (Vec Int 6))) (by kernel_rfl) rfl Ty40 (At.whole _) (.tmp (by kernel_rfl) (.tmp (by kernel_rfl) .nil))) rfl)
    ·exact SJ.skip <| SJ.exit (id := 1) (by rfl) <| SJ.rg 2 <| OJ.go 2 [(12, .int .i64 (IntKind.wrap .i64 (s3 + 1))), (49, .int .i64 (IntKind.wrap .i64 (s3 + 1)))] <| OJ.nil <| SJ.at_ [0, 2, 5, 12] rfl
   ·refine SJ.skip <| SJ.sr 5 <| OJ.go 2 [(31, .int .i64 s3), (30, .string a0)] <| OJ.idxT (d := 32) (T := 9) (y := .tmp 30) (j := .tmp 31) (k := .i64) (fun hb29 hb30 => ?_)
    refine OJ.call (d := 33) (g := 74) (ats := #[5]) (args := [.tmp 32]) (owed := []) F74 (addr_hexa_ok (sb a0 s3)) (fun r31 => ?_)
    refine OW.nil <| OJ.go 1 [(7, .int .i64 r31)] <| OJ.nil <| SJ.seq <| SJ.sr 2 <| OJ.go 2 [(35, .bool (decide (r31 < 0))), (34, .int .i64 r31)] <| OJ.nil <| SJ.cond (t := (.tmp 35)) (b := decide (r31 < 0)) decide_eq_true_iff (fun hc36 => ?_) (fun hc36 => ?_)
    ·refine SJ.sr 5 <| OJ.build (d := 36) (T := 40) (parts := []) (ps := []) (cd := ((cI .u8).arr 6)) (z0 := (Vec.rep 6 0)) (⟨[0, 0, 0, 0, 0, 0], rfl⟩ : (Vec Int 6)) Ty40 rfl Filled.nil ?_
     refine OJ.go 1 [(37, .int .i64 s3)] <| OJ.kst (y := .tmp 2) (z := .tmp 36) (cd := ((cI .u8).arr 6)) (u := (⟨[0, 0, 0, 0, 0, 0], rfl⟩ : (Vec Int 6))) (j := 1) (b := b1) (o := 0) (((cI .u8).arr 6).enc (⟨[0, 0, 0, 0, 0, 0], rfl⟩ : (Vec Int 6))) (owed := []) Ty40 rfl (Upd.whole ((Cod.len _ _).trans (Cod.len _ _).symm)) rfl ?_
     exact OW.nil <| OJ.go 2 [(4, .int .i64 s3), (3, .int .i64 41)] <| OJ.nil <| SJ.ret rfl (Res.run (ys := [((cI .u8).arr 6).val (⟨[0, 0, 0, 0, 0, 0], rfl⟩ : (Vec Int 6)), .int .i64 41, .int .i64 s3]) (.cell (j := 1) (b := b1) (cd := ((cI .u8).arr 6)) (q := (⟨[0, 0, 0, 0, 0, 0], rfl⟩ : (Vec Int 6))) (by kernel_rfl) rfl Ty40 (At.whole _) (.tmp (by kernel_rfl) (.tmp (by kernel_rfl) .nil))) rfl)
    ·refine SJ.skip <| SJ.rg 12 <| OJ.go 4 [(41, .int .i64 (IntKind.wrap .i64 (Int.tdiv s3 3))), (40, .int .i64 s3), (39, .int .i64 (IntKind.wrap .i64 (Int.tdiv s3 3))), (38, .int .i64 s3)] <| OJ.idxK (d := 42) (T := 40) (y := .tmp 5) (j := .tmp 41) (E := 5) (sz := 1) (b := b2) (o := 0) (k := .i64) (fun hb32 hb33 => ?_)
     refine OJ.kld (d := 43) (y := .tmp 42) (cd := (cI .u8)) (j := 0) (b := b2) (o := (0 + (IntKind.wrap .i64 (Int.tdiv s3 3)).toNat * 1)) (Vec.g s4 (IntKind.wrap .i64 (Int.tdiv s3 3)) 0) (pend2 := []) Ty5 rfl (At.zero (At.arr (z := 0) hb32 hb33)) rfl ?_
     refine OJ.go 4 [(47, .int .u8 (bor .u8 (IntKind.wrap .u8 ((Vec.g s4 (IntKind.wrap .i64 (Int.tdiv s3 3)) 0) * 2 ^ 4)) (IntKind.wrap .u8 r31))), (46, .int .u8 (IntKind.wrap .u8 r31)), (45, .int .i64 r31), (44, .int .u8 (IntKind.wrap .u8 ((Vec.g s4 (IntKind.wrap .i64 (Int.tdiv s3 3)) 0) * 2 ^ 4)))] <| OJ.idxK (d := 48) (T := 40) (y := .tmp 5) (j := .tmp 39) (E := 5) (sz := 1) (b := b2) (o := 0) (k := .i64) (fun hb34 hb35 => ?_)
     refine OJ.kst (y := .tmp 48) (z := .tmp 47) (cd := (cI .u8)) (u := (bor .u8 (IntKind.wrap .u8 ((Vec.g s4 (IntKind.wrap .i64 (Int.tdiv s3 3)) 0) * 2 ^ 4)) (IntKind.wrap .u8 r31))) (j := 0) (b := b2) (o := (0 + (IntKind.wrap .i64 (Int.tdiv s3 3)).toNat * 1)) (((cI .u8).arr 6).enc (Vec.s s4 (IntKind.wrap .i64 (Int.tdiv s3 3)) (bor .u8 (IntKind.wrap .u8 ((Vec.g s4 (IntKind.wrap .i64 (Int.tdiv s3 3)) 0) * 2 ^ 4)) (IntKind.wrap .u8 r31)))) (owed := []) Ty5 rfl (Upd.zero (Upd.arr hb34 hb35)) rfl ?_
     exact OW.nil <| OJ.nil <| SJ.inBlock <| SJ.rg 2 <| OJ.go 2 [(12, .int .i64 (IntKind.wrap .i64 (s3 + 1))), (49, .int .i64 (IntKind.wrap .i64 (s3 + 1)))] <| OJ.nil <| SJ.at_ [0, 2, 5, 12] rfl
 ·refine SJ.exit (id := 0) (by rfl) <| SJ.sr 4 <| OJ.kld (d := 50) (y := .tmp 5) (cd := ((cI .u8).arr 6)) (j := 0) (b := b2) (o := 0) s4 (pend2 := []) Ty40 rfl (At.whole _) rfl ?_
  refine OJ.kst (y := .tmp 2) (z := .tmp 50) (cd := ((cI .u8).arr 6)) (u := s4) (j := 1) (b := b1) (o := 0) (((cI .u8).arr 6).enc s4) (owed := []) Ty40 rfl (Upd.whole ((Cod.len _ _).trans (Cod.len _ _).symm)) rfl ?_
  exact OW.nil <| OJ.go 2 [(4, .int .i64 0), (3, .int .i64 0)] <| OJ.nil <| SJ.ret rfl (Res.run (ys := [((cI .u8).arr 6).val s4, .int .i64 0, .int .i64 0]) (.cell (j := 1) (b := b1) (cd := ((cI .u8).arr 6)) (q := s4) (by kernel_rfl) rfl Ty40 (At.whole _) (.tmp (by kernel_rfl) (.tmp (by kernel_rfl) .nil))) rfl)
noncomputable def addr_ParseMac (a0 : ByteArray) : M ((Vec Int 6) × Int × Int) :=
 slot 40 >>= fun b1 =>
 if (a0.size : Int) > 17 then
  pure ((⟨[0, 0, 0, 0, 0, 0], rfl⟩ : (Vec Int 6)), 2, 17)
 else
  slot 40 >>= fun b2 =>
  loopM (fun s_ : (Int × (Vec Int 6) × (Vec Int 6)) => addr_ParseMac.L1 a0 s_.1 s_.2.1 s_.2.2) (0, (Vec.rep 6 0), (Vec.rep 6 0))
theorem addr_ParseMac_ok (a0 : ByteArray) : Ref Tryz.prog 39 [.string a0] (addr_ParseMac a0) addr_ParseMac.out := by
 refine Ref.of (cd := addr_ParseMac.B) Tryz.func39 ?_
 show SJ addr_ParseMac.cx [.code addr_ParseMac.B] [(0, .string a0)] [] (addr_ParseMac a0) addr_ParseMac.F0
 unfold addr_ParseMac
 refine SJ.sr 3 <| OJ.slotOf (d := 2) (op := (.alloc 40)) (cd := ((cI .u8).arr 6)) (u := (Vec.rep 6 0)) (owed := []) (alloc_run Ty40) (fun b1 => ?_)
 refine OW.nil <| OJ.go 2 [(4, .int .i64 0), (3, .int .i64 0)] <| OJ.nil <| SJ.seq <| SJ.sr 3 <| OJ.go 3 [(10, .bool (decide ((a0.size : Int) > 17))), (9, .int .i64 (a0.size : Int)), (8, .string a0)] <| OJ.nil <| SJ.cond (t := (.tmp 10)) (b := decide ((a0.size : Int) > 17)) decide_eq_true_iff (fun hc40 => ?_) (fun hc40 => ?_)
 ·refine SJ.sr 4 <| OJ.build (d := 11) (T := 40) (parts := []) (ps := []) (cd := ((cI .u8).arr 6)) (z0 := (Vec.rep 6 0)) (⟨[0, 0, 0, 0, 0, 0], rfl⟩ : (Vec Int 6)) Ty40 rfl Filled.nil ?_
  refine OJ.kst (y := .tmp 2) (z := .tmp 11) (cd := ((cI .u8).arr 6)) (u := (⟨[0, 0, 0, 0, 0, 0], rfl⟩ : (Vec Int 6))) (j := 0) (b := b1) (o := 0) (((cI .u8).arr 6).enc (⟨[0, 0, 0, 0, 0, 0], rfl⟩ : (Vec Int 6))) (owed := []) Ty40 rfl (Upd.whole ((Cod.len _ _).trans (Cod.len _ _).symm)) rfl ?_
  exact OW.nil <| OJ.go 2 [(4, .int .i64 17), (3, .int .i64 2)] <| OJ.nil <| SJ.ret rfl (Res.run (ys := [((cI .u8).arr 6).val (⟨[0, 0, 0, 0, 0, 0], rfl⟩ : (Vec Int 6)), .int .i64 2, .int .i64 17]) (.cell (j := 0) (b := b1) (cd := ((cI .u8).arr 6)) (q := (⟨[0, 0, 0, 0, 0, 0], rfl⟩ : (Vec Int 6))) (by kernel_rfl) rfl Ty40 (At.whole _) (.tmp (by kernel_rfl) (.tmp (by kernel_rfl) .nil))) rfl)
 ·refine SJ.skip <| SJ.sr 1 <| OJ.slotOf (d := 5) (op := (.alloc 40)) (cd := ((cI .u8).arr 6)) (u := (Vec.rep 6 0)) (owed := []) (alloc_run Ty40) (fun b2 => ?_)
  exact OW.nil <| OJ.nil <| SJ.seq <| SJ.sr 1 <| OJ.go 1 [(12, .int .i64 0)] <| OJ.nil <| SJ.block (id := 0) <| SJ.loop (fun s_ : (Int × (Vec Int 6) × (Vec Int 6)) => [(0, .string a0), (2, .pointer (some (pt b1 0))), (5, .pointer (some (pt b2 0))), (12, .int .i64 s_.1)]) (fun s_ : (Int × (Vec Int 6) × (Vec Int 6)) => [(b2, ((cI .u8).arr 6).enc s_.2.1), (b1, ((cI .u8).arr 6).enc s_.2.2)]) [0, 2, 5, 12] rfl (fun _ _ => rfl) (fun s_ => addr_ParseMac.L1_ok a0 b1 b2 s_.1 s_.2.1 s_.2.2)

/-! ### weir/weirref4.ParseMac: function 40 -/
noncomputable def r4_ParseMac.B : Code := (Tryz.f40.body).getD .skip
noncomputable def r4_ParseMac.cx : Fx := ⟨Tryz.prog, 40, Tryz.f40⟩
noncomputable def r4_ParseMac.out (r_ : ((Vec Int 6) × Int × Int)) : Value := .tuple #[((cI .u8).arr 6).val r_.1, .int .i64 r_.2.1, .int .i64 r_.2.2]
noncomputable def r4_ParseMac.F0 (r_ : ((Vec Int 6) × Int × Int)) : Reach := .ret (r4_ParseMac.out r_)
noncomputable def r4_ParseMac.F1 (a0 : ByteArray) (b1 : Nat) (b2 : Nat) : (LS (Int × (Vec Int 6) × (Vec Int 6)) ((Vec Int 6) × Int × Int)) → Reach := loopF [.inLoop (c1 (c1 (c2 (c1 (c2 (c2 (c2 r4_ParseMac.B))))))), .inBlock 0, .code (c2 (c2 (c2 (c2 r4_ParseMac.B))))] (fun s_ : (Int × (Vec Int 6) × (Vec Int 6)) => [(0, .string a0), (2, .pointer (some (pt b1 0))), (5, .pointer (some (pt b2 0))), (6, .int .i64 s_.1)]) (fun s_ : (Int × (Vec Int 6) × (Vec Int 6)) => [(b2, ((cI .u8).arr 6).enc s_.2.1), (b1, ((cI .u8).arr 6).enc s_.2.2)]) r4_ParseMac.F0
noncomputable def r4_ParseMac.L1 (a0 : ByteArray) (s3 : Int) (s4 : (Vec Int 6)) (s5 : (Vec Int 6)) : M (LS (Int × (Vec Int 6) × (Vec Int 6)) ((Vec Int 6) × Int × Int)) :=
 if s3 < 17 then
  if s3 = (a0.size : Int) then
   pure (LS.done ((⟨[0, 0, 0, 0, 0, 0], rfl⟩ : (Vec Int 6)), 42, s3))
  else
   chk ((0 : Int) ≤ s3 ∧ s3 < (a0.size : Int)) >>= fun _ =>
   (if ¬ (((Int.tmod s3 3) == 2) = ((sb a0 s3) == 58)) then
     pure true
    else
     (if (Int.tmod s3 3) < 2 then
       chk ((0 : Int) ≤ s3 ∧ s3 < (a0.size : Int)) >>= fun _ =>
       r4_worth (sb a0 s3) >>= fun r35 =>
       pure (decide (r35 < 0))
      else
       pure false) >>= fun y36 =>
     pure y36) >>= fun y37 =>
   if y37 = true then
    pure (LS.done ((⟨[0, 0, 0, 0, 0, 0], rfl⟩ : (Vec Int 6)), 41, s3))
   else
    if (Int.tmod s3 3) < 2 then
     draw >>= fun _ =>
     chk ((0 : Int) ≤ (IntKind.wrap .i64 (Int.tdiv s3 3)) ∧ (IntKind.wrap .i64 (Int.tdiv s3 3)) < (6 : Nat)) >>= fun _ =>
     chk ((0 : Int) ≤ s3 ∧ s3 < (a0.size : Int)) >>= fun _ =>
     r4_worth (sb a0 s3) >>= fun r49 =>
     chk ((0 : Int) ≤ (IntKind.wrap .i64 (Int.tdiv s3 3)) ∧ (IntKind.wrap .i64 (Int.tdiv s3 3)) < (6 : Nat)) >>= fun _ =>
     pure (LS.next (IntKind.wrap .i64 (s3 + 1), (Vec.s s4 (IntKind.wrap .i64 (Int.tdiv s3 3)) (IntKind.wrap .u8 ((IntKind.wrap .u8 ((Vec.g s4 (IntKind.wrap .i64 (Int.tdiv s3 3)) 0) * 16)) + (IntKind.wrap .u8 r49)))), s5))
    else
     pure (LS.next (IntKind.wrap .i64 (s3 + 1), s4, s5))
 else
  pure (LS.done (s4, 0, 0))
theorem r4_ParseMac.L1_ok (a0 : ByteArray) (b1 : Nat) (b2 : Nat) (s3 : Int) (s4 : (Vec Int 6)) (s5 : (Vec Int 6)) :
  SJ r4_ParseMac.cx [.code (c1 (c1 (c2 (c1 (c2 (c2 (c2 r4_ParseMac.B))))))), .inLoop (c1 (c1 (c2 (c1 (c2 (c2 (c2 r4_ParseMac.B))))))), .inBlock 0, .code (c2 (c2 (c2 (c2 r4_ParseMac.B))))] [(0, .string a0), (2, .pointer (some (pt b1 0))), (5, .pointer (some (pt b2 0))), (6, .int .i64 s3)] [(b2, ((cI .u8).arr 6).enc s4), (b1, ((cI .u8).arr 6).enc s5)] (r4_ParseMac.L1 a0 s3 s4 s5) (r4_ParseMac.F1 a0 b1 b2) := by
 unfold r4_ParseMac.L1
 refine SJ.seq <| SJ.sr 2 <| OJ.go 2 [(12, .bool (decide (s3 < 17))), (11, .int .i64 s3)] <| OJ.nil <| SJ.cond (t := (.tmp 12)) (b := decide (s3 < 17)) decide_eq_true_iff (fun hc55 => ?_) (fun hc55 => ?_)
 ·refine SJ.skip <| SJ.seq <| SJ.block (id := 1) <| SJ.seq <| SJ.sr 4 <| OJ.go 4 [(18, .bool (s3 == (a0.size : Int))), (17, .int .i64 (a0.size : Int)), (16, .string a0), (15, .int .i64 s3)] <| OJ.nil <| SJ.cond (t := (.tmp 18)) (b := (s3 == (a0.size : Int))) beq_iff_eq (fun hc54 => ?_) (fun hc54 => ?_)
  ·refine SJ.sr 5 <| OJ.build (d := 19) (T := 40) (parts := []) (ps := []) (cd := ((cI .u8).arr 6)) (z0 := (Vec.rep 6 0)) (⟨[0, 0, 0, 0, 0, 0], rfl⟩ : (Vec Int 6)) Ty40 rfl Filled.nil ?_
   refine OJ.go 1 [(20, .int .i64 s3)] <| OJ.kst (y := .tmp 2) (z := .tmp 19) (cd := ((cI .u8).arr 6)) (u := (⟨[0, 0, 0, 0, 0, 0], rfl⟩ : (Vec Int 6))) (j := 1) (b := b1) (o := 0) (((cI .u8).arr 6).enc (⟨[0, 0, 0, 0, 0, 0], rfl⟩ : (Vec Int 6))) (owed := []) Ty40 rfl (Upd.whole ((Cod.len _ _).trans (Cod.len _ _).symm)) rfl ?_
   exact OW.nil <| OJ.go 2 [(4, .int .i64 s3), (3, .int .i64 42)] <| OJ.nil <| SJ.ret rfl (Res.run (ys := [((cI .u8).arr 6).val (⟨[0, 0, 0, 0, 0, 0], rfl⟩ : (Vec Int 6)), .int .i64 42, .int .i64 s3]) (.cell (j := 1) (b := b1) (cd := ((cI .u8).arr 6)) (q := (⟨[0, 0, 0, 0, 0, 0], rfl⟩ : (Vec Int 6))) (by kernel_rfl) rfl Ty40 (At.whole _) (.tmp (by kernel_rfl) (.tmp (by kernel_rfl) .nil))) rfl)
  ·refine SJ.skip <| SJ.seq <| SJ.sr 20 <| OJ.go 5 [(25, .int .i64 s3), (24, .string a0), (23, .bool ((Int.tmod s3 3) == 2)), (22, .int .i64 (Int.tmod s3 3)), (21, .int .i64 s3)] <| OJ.idxT (d := 26) (T := 9) (y := .tmp 24) (j := .tmp 25) (k := .i64) (fun hb31 hb32 => ?_)
   refine OJ.go 3 [(29, .bool (!(((Int.tmod s3 3) == 2) == ((sb a0 s3) == 58)))), (28, .bool (!(((Int.tmod s3 3) == 2) == ((sb a0 s3) == 58)))), (27, .bool ((sb a0 s3) == 58))] <| OJ.join (b := (!(((Int.tmod s3 3) == 2) == ((sb a0 s3) == 58)))) [9, 10, 11, 12, 13, 14, 15, 16, 17, 18, 19] [] [0, 2, 5, 6, 40] (fun y37 => [(0, .string a0), (2, .pointer (some (pt b1 0))), (5, .pointer (some (pt b2 0))), (6, .int .i64 s3), (40, .bool y37)]) [] [] (t := 29) (bnot_iff beq_iff_eq) (fun hp_ => ?_) (fun hp_ => ?_) (fun _ _ _ _ _ _ h_ => h_) (fun y37 => ?_)
   ·exact OJ.go 11 [(40, .bool true), (39, undef), (38, undef), (37, undef), (36, undef), (35, undef), (34, undef), (33, undef), (32, undef), (31, undef), (30, undef)] <| OJ.x0
   ·refine OJ.go 4 [(33, .bool (decide ((Int.tmod s3 3) < 2))), (32, .bool (decide ((Int.tmod s3 3) < 2))), (31, .int .i64 (Int.tmod s3 3)), (30, .int .i64 s3)] <| OJ.join (b := decide ((Int.tmod s3 3) < 2)) [13, 14, 15, 16, 17, 18] [19] [0, 2, 5, 6, 29, 39] (fun y36 => [(0, .string a0), (2, .pointer (some (pt b1 0))), (5, .pointer (some (pt b2 0))), (6, .int .i64 s3), (29, .bool false), (39, .bool y36)]) [] [] (t := 33) decide_eq_true_iff (fun hp_ => ?_) (fun hp_ => ?_) (fun _ _ _ _ _ hq_ h_ => ⟨fun e_ he_ => (hq_ e_ he_).elim (fun h => h_.1 e_ h) (fun h => nomatch h), h_.2⟩) (fun y36 => ?_)
    ·refine OJ.go 2 [(35, .int .i64 s3), (34, .string a0)] <| OJ.idxT (d := 36) (T := 9) (y := .tmp 34) (j := .tmp 35) (k := .i64) (fun hb33 hb34 => ?_)
     refine OJ.call (d := 37) (g := 75) (ats := #[5]) (args := [.tmp 36]) (owed := []) F75 (r4_worth_ok (sb a0 s3)) (fun r35 => ?_)
     exact OW.nil <| OJ.go 2 [(39, .bool (decide (r35 < 0))), (38, .bool (decide (r35 < 0)))] <| OJ.x0
    ·exact OJ.go 6 [(39, .bool false), (38, undef), (37, undef), (36, undef), (35, undef), (34, undef)] <| OJ.x0
    ·exact OJ.go 1 [(40, .bool y36)] <| OJ.x0
   ·refine OJ.nil <| SJ.cond (t := (.tmp 40)) (b := y37) Iff.rfl (fun hc53 => ?_) (fun hc53 => ?_)
    ·refine SJ.sr 5 <| OJ.build (d := 41) (T := 40) (parts := []) (ps := []) (cd := ((cI .u8).arr 6)) (z0 := (Vec.rep 6 0)) (⟨[0, 0, 0, 0, 0, 0], rfl⟩ : (Vec Int 6)) Ty40 rfl Filled.nil ?_
     refine OJ.go 1 [(42, .int .i64 s3)] <| OJ.kst (y := .tmp 2) (z := .tmp 41) (cd := ((cI .u8).arr 6)) (u := (⟨[0, 0, 0, 0, 0, 0], rfl⟩ : (Vec Int 6))) (j := 1) (b := b1) (o := 0) (((cI .u8).arr 6).enc (⟨[0, 0, 0, 0, 0, 0], rfl⟩ : (Vec Int 6))) (owed := []) Ty40 rfl (Upd.whole ((Cod.len _ _).trans (Cod.len _ _).symm)) rfl ?_
     exact OW.nil <| OJ.go 2 [(4, .int .i64 s3), (3, .int .i64 41)] <| OJ.nil <| SJ.ret rfl (Res.run (ys := [((cI .u8).arr 6).val (⟨[0, 0, 0, 0, 0, 0], rfl⟩ : (Vec Int 6)), .int .i64 41, .int .i64 s3]) (.cell (j := 1) (b := b1) (cd := ((cI .u8).arr 6)) (q := (⟨[0, 0, 0, 0, 0, 0], rfl⟩ : (Vec Int 6))) (by kernel_rfl) rfl Ty40 (At.whole _) (.tmp (by kernel_rfl) (.tmp (by kernel_rfl) .nil))) rfl)
    ·refine SJ.skip <| SJ.sr 3 <| OJ.go 3 [(45, .bool (decide ((Int.tmod s3 3) < 2))), (44, .int .i64 (Int.tmod s3 3)), (43, .int .i64 s3)] <| OJ.nil <| SJ.cond (t := (.tmp 45)) (b := decide ((Int.tmod s3 3) < 2)) decide_eq_true_iff (fun hc52 => ?_) (fun hc52 => ?_)
     ·refine SJ.draw (id := 12) (kd := [0, 0, 0, 0, 0, 1, 0, 0, 0, 0, 2, 0, 0, 0, 2]) (bef := [0, 1, 0, 4, 12, 28, 60, 0, 0, 384, 896, 1920, 4092, 8191, 16383]) (ord := [0, 1, 2, 3, 4, 5, 6, 7, 8, 9, 10, 11, 12, 13, 14]) mixed ?_
      refine OJ.go 4 [(49, .int .i64 (IntKind.wrap .i64 (Int.tdiv s3 3))), (48, .int .i64 s3), (47, .int .i64 (IntKind.wrap .i64 (Int.tdiv s3 3))), (46, .int .i64 s3)] <| OJ.idxK (d := 50) (T := 40) (y := .tmp 5) (j := .tmp 49) (E := 5) (sz := 1) (b := b2) (o := 0) (k := .i64) (fun hb45 hb46 => ?_)
      refine OJ.kld (d := 51) (y := .tmp 50) (cd := (cI .u8)) (j := 0) (b := b2) (o := (0 + (IntKind.wrap .i64 (Int.tdiv s3 3)).toNat * 1)) (Vec.g s4 (IntKind.wrap .i64 (Int.tdiv s3 3)) 0) (pend2 := [⟨5, 5, (pt b2 (0 + (IntKind.wrap .i64 (Int.tdiv s3 3)).toNat * 1)), (cI .u8).val (Vec.g s4 (IntKind.wrap .i64 (Int.tdiv s3 3)) 0)⟩]) Ty5 rfl (At.zero (At.arr (z := 0) hb45 hb46)) rfl ?_
      refine OJ.go 3 [(54, .int .i64 s3), (53, .string a0), (52, .int .u8 (IntKind.wrap .u8 ((Vec.g s4 (IntKind.wrap .i64 (Int.tdiv s3 3)) 0) * 16)))] <| OJ.idxT (d := 55) (T := 9) (y := .tmp 53) (j := .tmp 54) (k := .i64) (fun hb47 hb48 => ?_)
      refine OJ.call (d := 56) (g := 75) (ats := #[5]) (args := [.tmp 55]) (owed := [⟨5, 5, (pt b2 (0 + (IntKind.wrap .i64 (Int.tdiv s3 3)).toNat * 1)), (cI .u8).val (Vec.g s4 (IntKind.wrap .i64 (Int.tdiv s3 3)) 0)⟩]) F75 (r4_worth_ok (sb a0 s3)) (fun r49 => ?_)
      refine OW.known (j := 0) (q := (Vec.g s4 (IntKind.wrap .i64 (Int.tdiv s3 3)) 0)) Ty5 rfl (At.zero (At.arr (z := 0) hb45 hb46)) ?_
      refine OW.nil <| OJ.go 2 [(58, .int .u8 (IntKind.wrap .u8 ((IntKind.wrap .u8 ((Vec.g s4 (IntKind.wrap .i64 (Int.tdiv s3 3)) 0) * 16)) + (IntKind.wrap .u8 r49)))), (57, .int .u8 (IntKind.wrap .u8 r49))] <| OJ.idxK (d := 59) (T := 40) (y := .tmp 5) (j := .tmp 47) (E := 5) (sz := 1) (b := b2) (o := 0) (k := .i64) (fun hb50 hb51 => ?_)
      refine OJ.kst (y := .tmp 59) (z := .tmp 58) (cd := (cI .u8)) (u := (IntKind.wrap .u8 ((IntKind.wrap .u8 ((Vec.g s4 (IntKind.wrap .i64 (Int.tdiv s3 3)) 0) * 16)) + (IntKind.wrap .u8 r49)))) (j := 0) (b := b2) (o := (0 + (IntKind.wrap .i64 (Int.tdiv s3 3)).toNat * 1)) (((cI .u8).arr 6).enc (Vec.s s4 (IntKind.wrap .i64 (Int.tdiv s3 3)) (IntKind.wrap .u8 ((IntKind.wrap .u8 ((Vec.g s4 (IntKind.wrap .i64 (Int.tdiv s3 3)) 0) * 16)) + (IntKind.wrap .u8 r49))))) (owed := []) Ty5 rfl (Upd.zero (Upd.arr hb50 hb51)) rfl ?_
      exact OW.nil <| OJ.nil <| SJ.inBlock <| SJ.rg 3 <| OJ.go 3 [(6, .int .i64 (IntKind.wrap .i64 (s3 + 1))), (14, .int .i64 (IntKind.wrap .i64 (s3 + 1))), (13, .int .i64 s3)] <| OJ.nil <| SJ.at_ [0, 2, 5, 6] rfl
     ·exact SJ.skip <| SJ.inBlock <| SJ.rg 3 <| OJ.go 3 [(6, .int .i64 (IntKind.wrap .i64 (s3 + 1))), (14, .int .i64 (IntKind.wrap .i64 (s3 + 1))), (13, .int .i64 s3)] <| OJ.nil <| SJ.at_ [0, 2, 5, 6] rfl
 ·refine SJ.exit (id := 0) (by rfl) <| SJ.sr 4 <| OJ.kld (d := 60) (y := .tmp 5) (cd := ((cI .u8).arr 6)) (j := 0) (b := b2) (o := 0) s4 (pend2 := []) Ty40 rfl (At.whole _) rfl ?_
  refine OJ.kst (y := .tmp 2) (z := .tmp 60) (cd := ((cI .u8).arr 6)) (u := s4) (j := 1) (b := b1) (o := 0) (((cI .u8).arr 6).enc s4) (owed := []) Ty40 rfl (Upd.whole ((Cod.len _ _).trans (Cod.len _ _).symm)) rfl ?_
  exact OW.nil <| OJ.go 2 [(4, .int .i64 0), (3, .int .i64 0)] <| OJ.nil <| SJ.ret rfl (Res.run (ys := [((cI .u8).arr 6).val s4, .int .i64 0, .int .i64 0]) (.cell (j := 1) (b := b1) (cd := ((cI .u8).arr 6)) (q := s4) (by kernel_rfl) rfl Ty40 (At.whole _) (.tmp (by kernel_rfl) (.tmp (by kernel_rfl) .nil))) rfl)
noncomputable def r4_ParseMac (a0 : ByteArray) : M ((Vec Int 6) × Int × Int) :=
 slot 40 >>= fun b1 =>
 if (a0.size : Int) > 17 then
  pure ((⟨[0, 0, 0, 0, 0, 0], rfl⟩ : (Vec Int 6)), 2, 17)
 else
  slot 40 >>= fun b2 =>
  loopM (fun s_ : (Int × (Vec Int 6) × (Vec Int 6)) => r4_ParseMac.L1 a0 s_.1 s_.2.1 s_.2.2) (0, (Vec.rep 6 0), (Vec.rep 6 0))
theorem r4_ParseMac_ok (a0 : ByteArray) : Ref Tryz.prog 40 [.string a0] (r4_ParseMac a0) r4_ParseMac.out := by
 refine Ref.of (cd := r4_ParseMac.B) Tryz.func40 ?_
 show SJ r4_ParseMac.cx [.code r4_ParseMac.B] [(0, .string a0)] [] (r4_ParseMac a0) r4_ParseMac.F0
 unfold r4_ParseMac
 refine SJ.sr 3 <| OJ.slotOf (d := 2) (op := (.alloc 40)) (cd := ((cI .u8).arr 6)) (u := (Vec.rep 6 0)) (owed := []) (alloc_run Ty40) (fun b1 => ?_)
 refine OW.nil <| OJ.go 2 [(4, .int .i64 0), (3, .int .i64 0)] <| OJ.nil <| SJ.seq <| SJ.sr 3 <| OJ.go 3 [(9, .bool (decide ((a0.size : Int) > 17))), (8, .int .i64 (a0.size : Int)), (7, .string a0)] <| OJ.nil <| SJ.cond (t := (.tmp 9)) (b := decide ((a0.size : Int) > 17)) decide_eq_true_iff (fun hc56 => ?_) (fun hc56 => ?_)
 ·refine SJ.sr 4 <| OJ.build (d := 10) (T := 40) (parts := []) (ps := []) (cd := ((cI .u8).arr 6)) (z0 := (Vec.rep 6 0)) (⟨[0, 0, 0, 0, 0, 0], rfl⟩ : (Vec Int 6)) Ty40 rfl Filled.nil ?_
  refine OJ.kst (y := .tmp 2) (z := .tmp 10) (cd := ((cI .u8).arr 6)) (u := (⟨[0, 0, 0, 0, 0, 0], rfl⟩ : (Vec Int 6))) (j := 0) (b := b1) (o := 0) (((cI .u8).arr 6).enc (⟨[0, 0, 0, 0, 0, 0], rfl⟩ : (Vec Int 6))) (owed := []) Ty40 rfl (Upd.whole ((Cod.len _ _).trans (Cod.len _ _).symm)) rfl ?_
  exact OW.nil <| OJ.go 2 [(4, .int .i64 17), (3, .int .i64 2)] <| OJ.nil <| SJ.ret rfl (Res.run (ys := [((cI .u8).arr 6).val (⟨[0, 0, 0, 0, 0, 0], rfl⟩ : (Vec Int 6)), .int .i64 2, .int .i64 17]) (.cell (j := 0) (b := b1) (cd := ((cI .u8).arr 6)) (q := (⟨[0, 0, 0, 0, 0, 0], rfl⟩ : (Vec Int 6))) (by kernel_rfl) rfl Ty40 (At.whole _) (.tmp (by kernel_rfl) (.tmp (by kernel_rfl) .nil))) rfl)
 ·refine SJ.skip <| SJ.sr 1 <| OJ.slotOf (d := 5) (op := (.alloc 40)) (cd := ((cI .u8).arr 6)) (u := (Vec.rep 6 0)) (owed := []) (alloc_run Ty40) (fun b2 => ?_)
  exact OW.nil <| OJ.nil <| SJ.seq <| SJ.sr 1 <| OJ.go 1 [(6, .int .i64 0)] <| OJ.nil <| SJ.block (id := 0) <| SJ.loop (fun s_ : (Int × (Vec Int 6) × (Vec Int 6)) => [(0, .string a0), (2, .pointer (some (pt b1 0))), (5, .pointer (some (pt b2 0))), (6, .int .i64 s_.1)]) (fun s_ : (Int × (Vec Int 6) × (Vec Int 6)) => [(b2, ((cI .u8).arr 6).enc s_.2.1), (b1, ((cI .u8).arr 6).enc s_.2.2)]) [0, 2, 5, 6] rfl (fun _ _ => rfl) (fun s_ => r4_ParseMac.L1_ok a0 b1 b2 s_.1 s_.2.1 s_.2.2)

/-! ### weir/weirlaw4.parsed: function 21 -/
noncomputable def l4_parsed.B : Code := (Tryz.f21.body).getD .skip
noncomputable def l4_parsed.cx : Fx := ⟨Tryz.prog, 21, Tryz.f21⟩
noncomputable def l4_parsed.out (r_ : Bool) : Value := .bool r_
noncomputable def l4_parsed.F0 (r_ : Bool) : Reach := .ret (l4_parsed.out r_)
noncomputable def l4_parsed (a0 : l4_Op) : M Bool :=
 slot 42 >>= fun b1 =>
 if a0.Kind = 1 then
  addr_ParseIP a0.S >>= fun r24 =>
  slot 28 >>= fun b25 =>
  r4_ParseIP a0.S >>= fun r26 =>
  slot 28 >>= fun b27 =>
  (if r24.1 = r26.1 then
    l4_num r24.2.1 >>= fun r28 =>
    pure (r28 == r26.2.1)
   else
    pure false) >>= fun y29 =>
  (if y29 = true then
    pure (r24.2.2 == r26.2.2)
   else
    pure false) >>= fun y30 =>
  pure y30
 else
  if a0.Kind = 2 then
   addr_ParsePrefix a0.S >>= fun r38 =>
   slot 38 >>= fun b39 =>
   r4_ParsePrefix a0.S >>= fun r40 =>
   slot 38 >>= fun b41 =>
   (if r38.1 = r40.1 then
     l4_num r38.2.1 >>= fun r42 =>
     pure (r42 == r40.2.1)
    else
     pure false) >>= fun y43 =>
   (if y43 = true then
     pure (r38.2.2 == r40.2.2)
    else
     pure false) >>= fun y44 =>
   pure y44
  else
   addr_ParseMac a0.S >>= fun r45 =>
   slot 40 >>= fun b46 =>
   r4_ParseMac a0.S >>= fun r47 =>
   slot 40 >>= fun b48 =>
   (if r45.1 = r47.1 then
     l4_num r45.2.1 >>= fun r49 =>
     pure (r49 == r47.2.1)
    else
     pure false) >>= fun y50 =>
   (if y50 = true then
     pure (r45.2.2 == r47.2.2)
    else
     pure false) >>= fun y51 =>
   pure y51
theorem l4_parsed_ok (a0 : l4_Op) : Ref Tryz.prog 21 [c_weirlaw4_Op.val a0] (l4_parsed a0) l4_parsed.out := by
 refine Ref.of (cd := l4_parsed.B) Tryz.func21 ?_
 show SJ l4_parsed.cx [.code l4_parsed.B] [(0, c_weirlaw4_Op.val a0)] [] (l4_parsed a0) l4_parsed.F0
 unfold l4_parsed
 refine SJ.sr 2 <| OJ.slotOf (d := 1) (op := (.box 42 (.tmp 0))) (cd := c_weirlaw4_Op) (u := a0) (owed := []) (box_run (by kernel_rfl)) (fun b1 => ?_)
 refine OW.nil <| OJ.go 1 [(2, .bool false)] <| OJ.nil <| SJ.seq <| SJ.sr 2 <| OJ.go 1 [(21, .pointer (some (pt b1 0)))] <| OJ.kld (d := 22) (y := .tmp 21) (cd := (cI .i64)) (j := 0) (b := b1) (o := 0) a0.Kind (pend2 := []) Ty3 rfl (At_weirlaw4_Op_Kind a0) rfl ?_
 refine OJ.nil <| SJ.block (id := 0) <| SJ.sr 2 <| OJ.go 2 [(23, .bool (a0.Kind == 1)), (24, .bool (a0.Kind == 1))] <| OJ.nil <| SJ.cond (t := (.tmp 23)) (b := (a0.Kind == 1)) beq_iff_eq (fun hc53 => ?_) (fun hc53 => ?_)
 ·refine SJ.sr 11 <| OJ.go 1 [(26, .pointer (some (pt b1 1)))] <| OJ.kld (d := 27) (y := .tmp 26) (cd := cS) (j := 0) (b := b1) (o := 1) a0.S (pend2 := []) Ty9 rfl (At_weirlaw4_Op_S a0) rfl ?_
  refine OJ.call (d := 28) (g := 9) (ats := #[9]) (args := [.tmp 27]) (owed := []) F9 (addr_ParseIP_ok a0.S) (fun r24 => ?_)
  refine OW.nil <| OJ.go 4 [(31, .int .i64 r24.2.2), (30, .int .i64 r24.2.1), (29, c_api_IP.val r24.1), (25, .tuple #[c_api_IP.val r24.1, .int .i64 r24.2.1, .int .i64 r24.2.2])] <| OJ.slotOf (d := 3) (op := (.alloc 28)) (cd := c_api_IP) (u := z_api_IP) (owed := []) (alloc_run Ty28) (fun b25 => ?_)
  refine OW.nil <| OJ.kst (y := .tmp 3) (z := .tmp 29) (cd := c_api_IP) (u := r24.1) (j := 0) (b := b25) (o := 0) (c_api_IP.enc r24.1) (owed := []) Ty28 rfl (Upd.whole ((Cod.len _ _).trans (Cod.len _ _).symm)) rfl ?_
  refine OW.nil <| OJ.go 2 [(5, .int .i64 r24.2.2), (4, .int .i64 r24.2.1)] <| OJ.nil <| SJ.sr 11 <| OJ.go 1 [(33, .pointer (some (pt b1 1)))] <| OJ.kld (d := 34) (y := .tmp 33) (cd := cS) (j := 1) (b := b1) (o := 1) a0.S (pend2 := []) Ty9 rfl (At_weirlaw4_Op_S a0) rfl ?_
  refine OJ.call (d := 35) (g := 36) (ats := #[9]) (args := [.tmp 34]) (owed := []) F36 (r4_ParseIP_ok a0.S) (fun r26 => ?_)
  refine OW.nil <| OJ.go 4 [(38, .int .i64 r26.2.2), (37, .int .i64 r26.2.1), (36, c_api_IP.val r26.1), (32, .tuple #[c_api_IP.val r26.1, .int .i64 r26.2.1, .int .i64 r26.2.2])] <| OJ.slotOf (d := 6) (op := (.alloc 28)) (cd := c_api_IP) (u := z_api_IP) (owed := []) (alloc_run Ty28) (fun b27 => ?_)
  refine OW.nil <| OJ.kst (y := .tmp 6) (z := .tmp 36) (cd := c_api_IP) (u := r26.1) (j := 0) (b := b27) (o := 0) (c_api_IP.enc r26.1) (owed := []) Ty28 rfl (Upd.whole ((Cod.len _ _).trans (Cod.len _ _).symm)) rfl ?_
  refine OW.nil <| OJ.go 2 [(8, .int .i64 r26.2.2), (7, .int .i64 r26.2.1)] <| OJ.nil <| SJ.sr 15 <| OJ.kld (d := 39) (y := .tmp 3) (cd := c_api_IP) (j := 1) (b := b25) (o := 0) r24.1 (pend2 := []) Ty28 rfl (At.whole _) rfl ?_
  refine OJ.kld (d := 40) (y := .tmp 6) (cd := c_api_IP) (j := 0) (b := b27) (o := 0) r26.1 (pend2 := []) Ty28 rfl (At.whole _) rfl ?_
  refine OJ.eql (d := 41) (T := 28) (yT := 28) (y := .tmp 39) (z := .tmp 40) (cd := c_api_IP) (p := r24.1) (q := r26.1) rfl Eq28 ?_
  refine OJ.go 1 [(42, .bool (eqv r24.1 r26.1))] <| OJ.join (b := (eqv r24.1 r26.1)) [4, 5, 6, 7, 8] [9, 10, 11, 12, 13, 14] [5, 8, 47] (fun y29 => [(5, .int .i64 r24.2.2), (8, .int .i64 r26.2.2), (47, .bool y29)]) [] [] (t := 42) eqv_iff (fun hp_ => ?_) (fun hp_ => ?_) (fun _ _ _ _ _ _ h_ => h_) (fun y29 => ?_)
  ·refine OJ.go 1 [(43, .int .i64 r24.2.1)] <| OJ.call (d := 44) (g := 13) (ats := #[29]) (args := [.tmp 43]) (owed := []) F13 (l4_num_ok r24.2.1) (fun r28 => ?_)
   exact OW.nil <| OJ.go 3 [(47, .bool (r28 == r26.2.1)), (46, .bool (r28 == r26.2.1)), (45, .int .i64 r26.2.1)] <| OJ.x0
  ·exact OJ.go 5 [(47, .bool false), (46, undef), (45, undef), (44, undef), (43, undef)] <| OJ.x0
  ·refine OJ.go 1 [(48, .bool y29)] <| OJ.join (b := y29) [10, 11, 12, 13] [14] [52] (fun y30 => [(52, .bool y30)]) [] [] (t := 48) Iff.rfl (fun hp_ => ?_) (fun hp_ => ?_) (fun _ _ _ _ _ _ h_ => h_) (fun y30 => ?_)
   ·exact OJ.go 4 [(52, .bool (r24.2.2 == r26.2.2)), (51, .bool (r24.2.2 == r26.2.2)), (50, .int .i64 r26.2.2), (49, .int .i64 r24.2.2)] <| OJ.x0
   ·exact OJ.go 4 [(52, .bool false), (51, undef), (50, undef), (49, undef)] <| OJ.x0
   ·exact OJ.go 1 [(2, .bool y30)] <| OJ.nil <| SJ.r1 (.bool y30) rfl rfl
 ·refine SJ.sr 2 <| OJ.go 2 [(53, .bool (a0.Kind == 2)), (54, .bool (a0.Kind == 2))] <| OJ.nil <| SJ.cond (t := (.tmp 53)) (b := (a0.Kind == 2)) beq_iff_eq (fun hc52 => ?_) (fun hc52 => ?_)
  ·refine SJ.sr 11 <| OJ.go 1 [(56, .pointer (some (pt b1 1)))] <| OJ.kld (d := 57) (y := .tmp 56) (cd := cS) (j := 0) (b := b1) (o := 1) a0.S (pend2 := []) Ty9 rfl (At_weirlaw4_Op_S a0) rfl ?_
   refine OJ.call (d := 58) (g := 37) (ats := #[9]) (args := [.tmp 57]) (owed := []) F37 (addr_ParsePrefix_ok a0.S) (fun r38 => ?_)
   refine OW.nil <| OJ.go 4 [(61, .int .i64 r38.2.2), (60, .int .i64 r38.2.1), (59, c_api_Prefix.val r38.1), (55, .tuple #[c_api_Prefix.val r38.1, .int .i64 r38.2.1, .int .i64 r38.2.2])] <| OJ.slotOf (d := 9) (op := (.alloc 38)) (cd := c_api_Prefix) (u := z_api_Prefix) (owed := []) (alloc_run Ty38) (fun b39 => ?_)
   refine OW.nil <| OJ.kst (y := .tmp 9) (z := .tmp 59) (cd := c_api_Prefix) (u := r38.1) (j := 0) (b := b39) (o := 0) (c_api_Prefix.enc r38.1) (owed := []) Ty38 rfl (Upd.whole ((Cod.len _ _).trans (Cod.len _ _).symm)) rfl ?_
   refine OW.nil <| OJ.go 2 [(11, .int .i64 r38.2.2), (10, .int .i64 r38.2.1)] <| OJ.nil <| SJ.sr 11 <| OJ.go 1 [(63, .pointer (some (pt b1 1)))] <| OJ.kld (d := 64) (y := .tmp 63) (cd := cS) (j := 1) (b := b1) (o := 1) a0.S (pend2 := []) Ty9 rfl (At_weirlaw4_Op_S a0) rfl ?_
   refine OJ.call (d := 65) (g := 38) (ats := #[9]) (args := [.tmp 64]) (owed := []) F38 (r4_ParsePrefix_ok a0.S) (fun r40 => ?_)
   refine OW.nil <| OJ.go 4 [(68, .int .i64 r40.2.2), (67, .int .i64 r40.2.1), (66, c_api_Prefix.val r40.1), (62, .tuple #[c_api_Prefix.val r40.1, .int .i64 r40.2.1, .int .i64 r40.2.2])] <| OJ.slotOf (d := 12) (op := (.alloc 38)) (cd := c_api_Prefix) (u := z_api_Prefix) (owed := []) (alloc_run Ty38) (fun b41 => ?_)
   refine OW.nil <| OJ.kst (y := .tmp 12) (z := .tmp 66) (cd := c_api_Prefix) (u := r40.1) (j := 0) (b := b41) (o := 0) (c_api_Prefix.enc r40.1) (owed := []) Ty38 rfl (Upd.whole ((Cod.len _ _).trans (Cod.len _ _).symm)) rfl ?_
   refine OW.nil <| OJ.go 2 [(14, .int .i64 r40.2.2), (13, .int .i64 r40.2.1)] <| OJ.nil <| SJ.sr 15 <| OJ.kld (d := 69) (y := .tmp 9) (cd := c_api_Prefix) (j := 1) (b := b39) (o := 0) r38.1 (pend2 := []) Ty38 rfl (At.whole _) rfl ?_
   refine OJ.kld (d := 70) (y := .tmp 12) (cd := c_api_Prefix) (j := 0) (b := b41) (o := 0) r40.1 (pend2 := []) Ty38 rfl (At.whole _) rfl ?_
   refine OJ.eql (d := 71) (T := 38) (yT := 38) (y := .tmp 69) (z := .tmp 70) (cd := c_api_Prefix) (p := r38.1) (q := r40.1) rfl Eq38 ?_
   refine OJ.go 1 [(72, .bool (eqv r38.1 r40.1))] <| OJ.join (b := (eqv r38.1 r40.1)) [4, 5, 6, 7, 8] [9, 10, 11, 12, 13, 14] [11, 14, 77] (fun y43 => [(11, .int .i64 r38.2.2), (14, .int .i64 r40.2.2), (77, .bool y43)]) [] [] (t := 72) eqv_iff (fun hp_ => ?_) (fun hp_ => ?_) (fun _ _ _ _ _ _ h_ => h_) (fun y43 => ?_)
   ·refine OJ.go 1 [(73, .int .i64 r38.2.1)] <| OJ.call (d := 74) (g := 13) (ats := #[29]) (args := [.tmp 73]) (owed := []) F13 (l4_num_ok r38.2.1) (fun r42 => ?_)
    exact OW.nil <| OJ.go 3 [(77, .bool (r42 == r40.2.1)), (76, .bool (r42 == r40.2.1)), (75, .int .i64 r40.2.1)] <| OJ.x0
   ·exact OJ.go 5 [(77, .bool false), (76, undef), (75, undef), (74, undef), (73, undef)] <| OJ.x0
   ·refine OJ.go 1 [(78, .bool y43)] <| OJ.join (b := y43) [10, 11, 12, 13] [14] [82] (fun y44 => [(82, .bool y44)]) [] [] (t := 78) Iff.rfl (fun hp_ => ?_) (fun hp_ => ?_) (fun _ _ _ _ _ _ h_ => h_) (fun y44 => ?_)
    ·exact OJ.go 4 [(82, .bool (r38.2.2 == r40.2.2)), (81, .bool (r38.2.2 == r40.2.2)), (80, .int .i64 r40.2.2), (79, .int .i64 r38.2.2)] <| OJ.x0
    ·exact OJ.go 4 [(82, .bool false), (81, undef), (80, undef), (79, undef)] <| OJ.x0
    ·exact OJ.go 1 [(2, .bool y44)] <| OJ.nil <| SJ.r1 (.bool y44) rfl rfl
  ·refine SJ.skip <| SJ.inBlock <| SJ.sr 11 <| OJ.go 1 [(84, .pointer (some (pt b1 1)))] <| OJ.kld (d := 85) (y := .tmp 84) (cd := cS) (j := 0) (b := b1) (o := 1) a0.S (pend2 := []) Ty9 rfl (At_weirlaw4_Op_S a0) rfl ?_
   refine OJ.call (d := 86) (g := 39) (ats := #[9]) (args := [.tmp 85]) (owed := []) F39 (addr_ParseMac_ok a0.S) (fun r45 => ?_)
   refine OW.nil <| OJ.go 4 [(89, .int .i64 r45.2.2), (88, .int .i64 r45.2.1), (87, ((cI .u8).arr 6).val r45.1), (83, .tuple #[((cI .u8).arr 6).val r45.1, .int .i64 r45.2.1, .int .i64 r45.2.2])] <| OJ.slotOf (d := 15) (op := (.alloc 40)) (cd := ((cI .u8).arr 6)) (u := (Vec.rep 6 0)) (owed := []) (alloc_run Ty40) (fun b46 => ?_)
   refine OW.nil <| OJ.kst (y := .tmp 15) (z := .tmp 87) (cd := ((cI .u8).arr 6)) (u := r45.1) (j := 0) (b := b46) (o := 0) (((cI .u8).arr 6).enc r45.1) (owed := []) Ty40 rfl (Upd.whole ((Cod.len _ _).trans (Cod.len _ _).symm)) rfl ?_
   refine OW.nil <| OJ.go 2 [(17, .int .i64 r45.2.2), (16, .int .i64 r45.2.1)] <| OJ.nil <| SJ.sr 11 <| OJ.go 1 [(91, .pointer (some (pt b1 1)))] <| OJ.kld (d := 92) (y := .tmp 91) (cd := cS) (j := 1) (b := b1) (o := 1) a0.S (pend2 := []) Ty9 rfl (At_weirlaw4_Op_S a0) rfl ?_
   refine OJ.call (d := 93) (g := 40) (ats := #[9]) (args := [.tmp 92]) (owed := []) F40 (r4_ParseMac_ok a0.S) (fun r47 => ?_)
   refine OW.nil <| OJ.go 4 [(96, .int .i64 r47.2.2), (95, .int .i64 r47.2.1), (94, ((cI .u8).arr 6).val r47.1), (90, .tuple #[((cI .u8).arr 6).val r47.1, .int .i64 r47.2.1, .int .i64 r47.2.2])] <| OJ.slotOf (d := 18) (op := (.alloc 40)) (cd := ((cI .u8).arr 6)) (u := (Vec.rep 6 0)) (owed := []) (alloc_run Ty40) (fun b48 => ?_)
   refine OW.nil <| OJ.kst (y := .tmp 18) (z := .tmp 94) (cd := ((cI .u8).arr 6)) (u := r47.1) (j := 0) (b := b48) (o := 0) (((cI .u8).arr 6).enc r47.1) (owed := []) Ty40 rfl (Upd.whole ((Cod.len _ _).trans (Cod.len _ _).symm)) rfl ?_
   refine OW.nil <| OJ.go 2 [(20, .int .i64 r47.2.2), (19, .int .i64 r47.2.1)] <| OJ.nil <| SJ.sr 15 <| OJ.kld (d := 97) (y := .tmp 15) (cd := ((cI .u8).arr 6)) (j := 1) (b := b46) (o := 0) r45.1 (pend2 := []) Ty40 rfl (At.whole _) rfl ?_
   refine OJ.kld (d := 98) (y := .tmp 18) (cd := ((cI .u8).arr 6)) (j := 0) (b := b48) (o := 0) r47.1 (pend2 := []) Ty40 rfl (At.whole _) rfl ?_
   refine OJ.eql (d := 99) (T := 40) (yT := 40) (y := .tmp 97) (z := .tmp 98) (cd := ((cI .u8).arr 6)) (p := r45.1) (q := r47.1) rfl Eq40 ?_
   refine OJ.go 1 [(100, .bool (eqv r45.1 r47.1))] <| OJ.join (b := (eqv r45.1 r47.1)) [4, 5, 6, 7, 8] [9, 10, 11, 12, 13, 14] [17, 20, 105] (fun y50 => [(17, .int .i64 r45.2.2), (20, .int .i64 r47.2.2), (105, .bool y50)]) [] [] (t := 100) eqv_iff (fun hp_ => ?_) (fun hp_ => ?_) (fun _ _ _ _ _ _ h_ => h_) (fun y50 => ?_)
   ·refine OJ.go 1 [(101, .int .i64 r45.2.1)] <| OJ.call (d := 102) (g := 13) (ats := #[29]) (args := [.tmp 101]) (owed := []) F13 (l4_num_ok r45.2.1) (fun r49 => ?_)
    exact OW.nil <| OJ.go 3 [(105, .bool (r49 == r47.2.1)), (104, .bool (r49 == r47.2.1)), (103, .int .i64 r47.2.1)] <| OJ.x0
   ·exact OJ.go 5 [(105, .bool false), (104, undef), (103, undef), (102, undef), (101, undef)] <| OJ.x0
   ·refine OJ.go 1 [(106, .bool y50)] <| OJ.join (b := y50) [10, 11, 12, 13] [14] [110] (fun y51 => [(110, .bool y51)]) [] [] (t := 106) Iff.rfl (fun hp_ => ?_) (fun hp_ => ?_) (fun _ _ _ _ _ _ h_ => h_) (fun y51 => ?_)
    ·exact OJ.go 4 [(110, .bool (r45.2.2 == r47.2.2)), (109, .bool (r45.2.2 == r47.2.2)), (108, .int .i64 r47.2.2), (107, .int .i64 r45.2.2)] <| OJ.x0
    ·exact OJ.go 4 [(110, .bool false), (109, undef), (108, undef), (107, undef)] <| OJ.x0
    ·exact OJ.go 1 [(2, .bool y51)] <| OJ.nil <| SJ.r1 (.bool y51) rfl rfl

/-! ### weir/weirref4.number: function 80 -/
noncomputable def r4_number.B : Code := (Tryz.f80.body).getD .skip
noncomputable def r4_number.cx : Fx := ⟨Tryz.prog, 80, Tryz.f80⟩
noncomputable def r4_number.out (r_ : ByteArray) : Value := .string r_
noncomputable def r4_number.F0 (r_ : ByteArray) : Reach := .ret (r4_number.out r_)
noncomputable def r4_number.body (rec_ : Int → M ByteArray) (a0 : Int) : M ByteArray :=
 if a0 < 10 then
  newv 5 ((cI .u8).arr 1) (⟨[IntKind.wrap .u8 (IntKind.wrap .i64 (48 + a0))], rfl⟩ : Vec Int 1) >>= fun b3 =>
  toStr (⟨some (pt b3 0), 1, 1⟩ : Sl) >>= fun r4 =>
  pure r4
 else
  draws 80 3 (opsOf (c1 (c2 (c2 r4_number.B)))) >>= fun o5 =>
  if bfr o5 2 7 = true then
   rec_ (IntKind.wrap .i64 (Int.tdiv a0 10)) >>= fun r18 =>
   newv 5 ((cI .u8).arr 1) (⟨[IntKind.wrap .u8 (IntKind.wrap .i64 (48 + (Int.tmod a0 10)))], rfl⟩ : Vec Int 1) >>= fun b19 =>
   toStr (⟨some (pt b19 0), 1, 1⟩ : Sl) >>= fun r20 =>
   chk (((r18.size + r20.size : Nat) : Int) ≤ 9223372036854775807) >>= fun _ =>
   pure (r18 ++ r20)
  else
   if bfr o5 2 8 = true then
    newv 5 ((cI .u8).arr 1) (⟨[IntKind.wrap .u8 (IntKind.wrap .i64 (48 + (Int.tmod a0 10)))], rfl⟩ : Vec Int 1) >>= fun b22 =>
    rec_ (IntKind.wrap .i64 (Int.tdiv a0 10)) >>= fun r23 =>
    toStr (⟨some (pt b22 0), 1, 1⟩ : Sl) >>= fun r24 =>
    chk (((r23.size + r24.size : Nat) : Int) ≤ 9223372036854775807) >>= fun _ =>
    pure (r23 ++ r24)
   else
    newv 5 ((cI .u8).arr 1) (⟨[IntKind.wrap .u8 (IntKind.wrap .i64 (48 + (Int.tmod a0 10)))], rfl⟩ : Vec Int 1) >>= fun b25 =>
    toStr (⟨some (pt b25 0), 1, 1⟩ : Sl) >>= fun r26 =>
    rec_ (IntKind.wrap .i64 (Int.tdiv a0 10)) >>= fun r27 =>
    chk (((r27.size + r26.size : Nat) : Int) ≤ 9223372036854775807) >>= fun _ =>
    pure (r27 ++ r26)
theorem r4_number.body_ok  (rec_ : Int → M ByteArray) (h_rec_ : ∀ (x0_ : Int), Ref Tryz.prog 80 [.int .i64 x0_] (rec_ x0_) r4_number.out) (a0 : Int) : Ref Tryz.prog 80 [.int .i64 a0] (r4_number.body rec_ a0) r4_number.out := by
 refine Ref.of (cd := r4_number.B) Tryz.func80 ?_
 show SJ r4_number.cx [.code r4_number.B] [(0, .int .i64 a0)] [] (r4_number.body rec_ a0) r4_number.F0
 unfold r4_number.body
 refine SJ.sr 1 <| OJ.go 1 [(2, .string ByteArray.empty)] <| OJ.nil <| SJ.seq <| SJ.sr 2 <| OJ.go 2 [(4, .bool (decide (a0 < 10))), (3, .int .i64 a0)] <| OJ.nil <| SJ.cond (t := (.tmp 4)) (b := decide (a0 < 10)) decide_eq_true_iff (fun hc28 => ?_) (fun hc28 => ?_)
 ·refine SJ.sr 6 <| OJ.go 3 [(7, .int .u8 (IntKind.wrap .u8 (IntKind.wrap .i64 (48 + a0)))), (6, .int .i64 (IntKind.wrap .i64 (48 + a0))), (5, .int .i64 a0)] <| OJ.rowNew (d := 8) (t := 51) (parts := [(0, .tmp 7)]) (ps := [(0, (cI .u8).val (IntKind.wrap .u8 (IntKind.wrap .i64 (48 + a0))))]) (cd := (cI .u8)) (owed := []) Ty5 (Filled.cons (cd := (cI .u8)) (q := (IntKind.wrap .u8 (IntKind.wrap .i64 (48 + a0)))) (o := 0) rfl (Upd.arr (i := 0) (by decide) (by decide)) Filled.nil) (fun b3 => ?_)
  refine OW.nil <| OJ.toStr (d := 9) (t := 51) (u := 9) (E := 5) (x := .tmp 8) (owed := []) (fun r4 => ?_)
  exact OW.nil <| OJ.go 1 [(2, .string r4)] <| OJ.nil <| SJ.r1 (.string r4) rfl rfl
 ·refine SJ.skip <| SJ.seq <| SJ.draws (id := 3) (kd := [0, 0, 2, 0, 0, 0, 0, 2, 2, 0, 0]) (bef := [0, 1, 3, 0, 8, 24, 56, 120, 248, 511, 1023]) (ord := [0, 1, 2, 3, 4, 5, 6, 7, 8, 9, 10]) (E := [(2, 7), (2, 8)]) mixed (fun o5 hg_ => ?_)
  refine SJ.bfr hg_ (by decide) (fun ho17 => ?_) (fun ho17 => ?_)
  ·refine SJ.leaf hg_ (kd := [0, 0, 2, 0, 0, 0, 0, 2, 2, 0, 0]) (bef := [0, 1, 3, 0, 8, 24, 56, 120, 248, 511, 1023]) (ord := [0, 1, 2, 3, 4, 5, 6, 7, 8, 9, 10]) (E := [(2, 7), (2, 8)]) (allB.cons ho17 (allB.cons (bfr_trans ho17 (hg_.dep' _ (x := 7) (y := 8) (by kernel_rfl))) allB.nil)) ?_
   refine OJ.go 2 [(11, .int .i64 (IntKind.wrap .i64 (Int.tdiv a0 10))), (10, .int .i64 a0)] <| OJ.call (d := 12) (g := 80) (ats := #[3]) (args := [.tmp 11]) (owed := []) F80 (h_rec_ (IntKind.wrap .i64 (Int.tdiv a0 10))) (fun r18 => ?_)
   refine OW.nil <| OJ.go 4 [(16, .int .u8 (IntKind.wrap .u8 (IntKind.wrap .i64 (48 + (Int.tmod a0 10))))), (15, .int .i64 (IntKind.wrap .i64 (48 + (Int.tmod a0 10)))), (14, .int .i64 (Int.tmod a0 10)), (13, .int .i64 a0)] <| OJ.rowNew (d := 17) (t := 51) (parts := [(0, .tmp 16)]) (ps := [(0, (cI .u8).val (IntKind.wrap .u8 (IntKind.wrap .i64 (48 + (Int.tmod a0 10)))))]) (cd := (cI .u8)) (owed := []) Ty5 (Filled.cons (cd := (cI .u8)) (q := (IntKind.wrap .u8 (IntKind.wrap .i64 (48 + (Int.tmod a0 10))))) (o := 0) rfl (Upd.arr (i := 0) (by decide) (by decide)) Filled.nil) (fun b19 => ?_)
   refine OW.nil <| OJ.toStr (d := 18) (t := 51) (u := 9) (E := 5) (x := .tmp 17) (owed := []) (fun r20 => ?_)
   refine OW.nil <| OJ.cat (d := 19) (T := 9) (yT := 9) (y := .tmp 12) (z := .tmp 18) (p := r18) (q := r20) ?_
   exact OJ.go 1 [(2, .string (r18 ++ r20))] <| OJ.nil <| SJ.r1 (.string (r18 ++ r20)) rfl rfl
  ·refine SJ.bfr hg_ (by decide) (fun ho21 => ?_) (fun ho21 => ?_)
   ·refine SJ.leaf hg_ (kd := [0, 0, 2, 0, 0, 0, 0, 2, 2, 0, 0]) (bef := [0, 1, 3, 0, 8, 24, 56, 120, 248, 511, 1023]) (ord := [0, 1, 3, 4, 5, 6, 7, 2, 8, 9, 10]) (E := [(7, 2), (2, 8)]) (allB.cons ho17 (allB.cons ho21 allB.nil)) ?_
    refine OJ.go 6 [(16, .int .u8 (IntKind.wrap .u8 (IntKind.wrap .i64 (48 + (Int.tmod a0 10))))), (15, .int .i64 (IntKind.wrap .i64 (48 + (Int.tmod a0 10)))), (14, .int .i64 (Int.tmod a0 10)), (13, .int .i64 a0), (11, .int .i64 (IntKind.wrap .i64 (Int.tdiv a0 10))), (10, .int .i64 a0)] <| OJ.rowNew (d := 17) (t := 51) (parts := [(0, .tmp 16)]) (ps := [(0, (cI .u8).val (IntKind.wrap .u8 (IntKind.wrap .i64 (48 + (Int.tmod a0 10)))))]) (cd := (cI .u8)) (owed := []) Ty5 (Filled.cons (cd := (cI .u8)) (q := (IntKind.wrap .u8 (IntKind.wrap .i64 (48 + (Int.tmod a0 10))))) (o := 0) rfl (Upd.arr (i := 0) (by decide) (by decide)) Filled.nil) (fun b22 => ?_)
    refine OW.nil <| OJ.call (d := 12) (g := 80) (ats := #[3]) (args := [.tmp 11]) (owed := []) F80 (h_rec_ (IntKind.wrap .i64 (Int.tdiv a0 10))) (fun r23 => ?_)
    refine OW.nil <| OJ.toStr (d := 18) (t := 51) (u := 9) (E := 5) (x := .tmp 17) (owed := []) (fun r24 => ?_)
    refine OW.nil <| OJ.cat (d := 19) (T := 9) (yT := 9) (y := .tmp 12) (z := .tmp 18) (p := r23) (q := r24) ?_
    exact OJ.go 1 [(2, .string (r23 ++ r24))] <| OJ.nil <| SJ.r1 (.string (r23 ++ r24)) rfl rfl
   ·refine SJ.leaf hg_ (kd := [0, 0, 2, 0, 0, 0, 0, 2, 2, 0, 0]) (bef := [0, 1, 3, 0, 8, 24, 56, 120, 248, 511, 1023]) (ord := [0, 1, 3, 4, 5, 6, 7, 8, 2, 9, 10]) (E := [(7, 2), (8, 2)]) (allB.cons ho17 (allB.cons ho21 allB.nil)) ?_
    refine OJ.go 6 [(16, .int .u8 (IntKind.wrap .u8 (IntKind.wrap .i64 (48 + (Int.tmod a0 10))))), (15, .int .i64 (IntKind.wrap .i64 (48 + (Int.tmod a0 10)))), (14, .int .i64 (Int.tmod a0 10)), (13, .int .i64 a0), (11, .int .i64 (IntKind.wrap .i64 (Int.tdiv a0 10))), (10, .int .i64 a0)] <| OJ.rowNew (d := 17) (t := 51) (parts := [(0, .tmp 16)]) (ps := [(0, (cI .u8).val (IntKind.wrap .u8 (IntKind.wrap .i64 (48 + (Int.tmod a0 10)))))]) (cd := (cI .u8)) (owed := []) Ty5 (Filled.cons (cd := (cI .u8)) (q := (IntKind.wrap .u8 (IntKind.wrap .i64 (48 + (Int.tmod a0 10))))) (o := 0) rfl (Upd.arr (i := 0) (by decide) (by decide)) Filled.nil) (fun b25 => ?_)
    refine OW.nil <| OJ.toStr (d := 18) (t := 51) (u := 9) (E := 5) (x := .tmp 17) (owed := []) (fun r26 => ?_)
    refine OW.nil <| OJ.call (d := 12) (g := 80) (ats := #[3]) (args := [.tmp 11]) (owed := []) F80 (h_rec_ (IntKind.wrap .i64 (Int.tdiv a0 10))) (fun r27 => ?_)
    refine OW.nil <| OJ.cat (d := 19) (T := 9) (yT := 9) (y := .tmp 12) (z := .tmp 18) (p := r27) (q := r26) ?_
    exact OJ.go 1 [(2, .string (r27 ++ r26))] <| OJ.nil <| SJ.r1 (.string (r27 ++ r26)) rfl rfl
noncomputable def r4_number.go  : Nat → Int → M ByteArray
 | 0 => fun a0 => fun _ => none
 | n + 1 => fun a0 => r4_number.body (r4_number.go  n) a0
theorem r4_number.go_ok  : ∀ (n : Nat) (a0 : Int), Ref Tryz.prog 80 [.int .i64 a0] (r4_number.go  n a0) r4_number.out
 | 0, a0 => fun v r v' e => by cases e
 | n + 1, a0 => r4_number.body_ok  (r4_number.go  n) (r4_number.go_ok  n) a0
noncomputable def r4_number (a0 : Int) : M ByteArray := r4_number.go  1000000000000 a0
theorem r4_number_ok (a0 : Int) : Ref Tryz.prog 80 [.int .i64 a0] (r4_number a0) r4_number.out := r4_number.go_ok  1000000000000 a0

/-! ### weir/weirref4.dots: function 76 -/
noncomputable def r4_dots.B : Code := (Tryz.f76.body).getD .skip
noncomputable def r4_dots.cx : Fx := ⟨Tryz.prog, 76, Tryz.f76⟩
noncomputable def r4_dots.out (r_ : ByteArray) : Value := .string r_
noncomputable def r4_dots.F0 (r_ : ByteArray) : Reach := .ret (r4_dots.out r_)
noncomputable def r4_dots (a0 : (Vec Int 16)) (a1 : Int) : M ByteArray :=
 slot 26 >>= fun b1 =>
 draw >>= fun _ =>
 chk ((0 : Int) ≤ a1 ∧ a1 < (16 : Nat)) >>= fun _ =>
 chk ((0 : Int) ≤ (IntKind.wrap .i64 (a1 + 1)) ∧ (IntKind.wrap .i64 (a1 + 1)) < (16 : Nat)) >>= fun _ =>
 chk ((0 : Int) ≤ (IntKind.wrap .i64 (a1 + 2)) ∧ (IntKind.wrap .i64 (a1 + 2)) < (16 : Nat)) >>= fun _ =>
 chk ((0 : Int) ≤ (IntKind.wrap .i64 (a1 + 3)) ∧ (IntKind.wrap .i64 (a1 + 3)) < (16 : Nat)) >>= fun _ =>
 r4_number (IntKind.wrap .i64 (Vec.g a0 a1 0)) >>= fun r10 =>
 chk (((r10.size + str8.size : Nat) : Int) ≤ 9223372036854775807) >>= fun _ =>
 r4_number (IntKind.wrap .i64 (Vec.g a0 (IntKind.wrap .i64 (a1 + 1)) 0)) >>= fun r11 =>
 chk ((((r10 ++ str8).size + r11.size : Nat) : Int) ≤ 9223372036854775807) >>= fun _ =>
 chk (((((r10 ++ str8) ++ r11).size + str8.size : Nat) : Int) ≤ 9223372036854775807) >>= fun _ =>
 r4_number (IntKind.wrap .i64 (Vec.g a0 (IntKind.wrap .i64 (a1 + 2)) 0)) >>= fun r12 =>
 chk ((((((r10 ++ str8) ++ r11) ++ str8).size + r12.size : Nat) : Int) ≤ 9223372036854775807) >>= fun _ =>
 chk (((((((r10 ++ str8) ++ r11) ++ str8) ++ r12).size + str8.size : Nat) : Int) ≤ 9223372036854775807) >>= fun _ =>
 r4_number (IntKind.wrap .i64 (Vec.g a0 (IntKind.wrap .i64 (a1 + 3)) 0)) >>= fun r13 =>
 chk ((((((((r10 ++ str8) ++ r11) ++ str8) ++ r12) ++ str8).size + r13.size : Nat) : Int) ≤ 9223372036854775807) >>= fun _ =>
 pure ((((((r10 ++ str8) ++ r11) ++ str8) ++ r12) ++ str8) ++ r13)
theorem r4_dots_ok (a0 : (Vec Int 16)) (a1 : Int) : Ref Tryz.prog 76 [((cI .u8).arr 16).val a0, .int .i64 a1] (r4_dots a0 a1) r4_dots.out := by
 refine Ref.of (cd := r4_dots.B) Tryz.func76 ?_
 show SJ r4_dots.cx [.code r4_dots.B] [(0, ((cI .u8).arr 16).val a0), (1, .int .i64 a1)] [] (r4_dots a0 a1) r4_dots.F0
 unfold r4_dots
 refine SJ.sr 2 <| OJ.slotOf (d := 2) (op := (.box 26 (.tmp 0))) (cd := ((cI .u8).arr 16)) (u := a0) (owed := []) (box_run (by kernel_rfl)) (fun b1 => ?_)
 refine OW.nil <| OJ.go 1 [(4, .string ByteArray.empty)] <| OJ.nil <| SJ.seq <| SJ.draw (id := 1) (kd := [0, 0, 1, 0, 2, 0, 0, 0, 0, 1, 0, 2, 0, 0, 0, 0, 0, 1, 0, 2, 0, 0, 0, 0, 0, 1, 0, 2, 0, 0]) (bef := [0, 1, 3, 7, 15, 31, 0, 64, 192, 448, 960, 2015, 4095, 8191, 0, 16384, 49152, 114688, 245760, 511967, 1048575, 2097151, 0, 4194304, 12582912, 29360128, 62914560, 131059679, 268435455, 536870911]) (ord := [0, 1, 2, 3, 6, 7, 8, 9, 14, 15, 16, 17, 22, 23, 24, 25, 4, 5, 10, 11, 12, 13, 18, 19, 20, 21, 26, 27, 28, 29]) mixed ?_
 refine OJ.go 1 [(5, .int .i64 a1)] <| OJ.idxK (d := 6) (T := 26) (y := .tmp 2) (j := .tmp 5) (E := 5) (sz := 1) (b := b1) (o := 0) (k := .i64) (fun hb2 hb3 => ?_)
 refine OJ.kld (d := 7) (y := .tmp 6) (cd := (cI .u8)) (j := 0) (b := b1) (o := (0 + a1.toNat * 1)) (Vec.g a0 a1 0) (pend2 := [⟨2, 5, (pt b1 (0 + a1.toNat * 1)), (cI .u8).val (Vec.g a0 a1 0)⟩]) Ty5 rfl (At.zero (At.arr (z := 0) hb2 hb3)) rfl ?_
 refine OJ.go 3 [(12, .int .i64 (IntKind.wrap .i64 (a1 + 1))), (11, .int .i64 a1), (8, .int .i64 (IntKind.wrap .i64 (Vec.g a0 a1 0)))] <| OJ.idxK (d := 13) (T := 26) (y := .tmp 2) (j := .tmp 12) (E := 5) (sz := 1) (b := b1) (o := 0) (k := .i64) (fun hb4 hb5 => ?_)
 refine OJ.kld (d := 14) (y := .tmp 13) (cd := (cI .u8)) (j := 0) (b := b1) (o := (0 + (IntKind.wrap .i64 (a1 + 1)).toNat * 1)) (Vec.g a0 (IntKind.wrap .i64 (a1 + 1)) 0) (pend2 := [⟨9, 5, (pt b1 (0 + (IntKind.wrap .i64 (a1 + 1)).toNat * 1)), (cI .u8).val (Vec.g a0 (IntKind.wrap .i64 (a1 + 1)) 0)⟩, ⟨2, 5, (pt b1 (0 + a1.toNat * 1)), (cI .u8).val (Vec.g a0 a1 0)⟩]) Ty5 rfl (At.zero (At.arr (z := 0) hb4 hb5)) rfl ?_
 refine OJ.go 2 [(20, .int .i64 (IntKind.wrap .i64 (a1 + 2))), (19, .int .i64 a1)] <| OJ.idxK (d := 21) (T := 26) (y := .tmp 2) (j := .tmp 20) (E := 5) (sz := 1) (b := b1) (o := 0) (k := .i64) (fun hb6 hb7 => ?_)
 refine OJ.kld (d := 22) (y := .tmp 21) (cd := (cI .u8)) (j := 0) (b := b1) (o := (0 + (IntKind.wrap .i64 (a1 + 2)).toNat * 1)) (Vec.g a0 (IntKind.wrap .i64 (a1 + 2)) 0) (pend2 := [⟨17, 5, (pt b1 (0 + (IntKind.wrap .i64 (a1 + 2)).toNat * 1)), (cI .u8).val (Vec.g a0 (IntKind.wrap .i64 (a1 + 2)) 0)⟩, ⟨9, 5, (pt b1 (0 + (IntKind.wrap .i64 (a1 + 1)).toNat * 1)), (cI .u8).val (Vec.g a0 (IntKind.wrap .i64 (a1 + 1)) 0)⟩, ⟨2, 5, (pt b1 (0 + a1.toNat * 1)), (cI .u8).val (Vec.g a0 a1 0)⟩]) Ty5 rfl (At.zero (At.arr (z := 0) hb6 hb7)) rfl ?_
 refine OJ.go 2 [(28, .int .i64 (IntKind.wrap .i64 (a1 + 3))), (27, .int .i64 a1)] <| OJ.idxK (d := 29) (T := 26) (y := .tmp 2) (j := .tmp 28) (E := 5) (sz := 1) (b := b1) (o := 0) (k := .i64) (fun hb8 hb9 => ?_)
 refine OJ.kld (d := 30) (y := .tmp 29) (cd := (cI .u8)) (j := 0) (b := b1) (o := (0 + (IntKind.wrap .i64 (a1 + 3)).toNat * 1)) (Vec.g a0 (IntKind.wrap .i64 (a1 + 3)) 0) (pend2 := [⟨25, 5, (pt b1 (0 + (IntKind.wrap .i64 (a1 + 3)).toNat * 1)), (cI .u8).val (Vec.g a0 (IntKind.wrap .i64 (a1 + 3)) 0)⟩, ⟨17, 5, (pt b1 (0 + (IntKind.wrap .i64 (a1 + 2)).toNat * 1)), (cI .u8).val (Vec.g a0 (IntKind.wrap .i64 (a1 + 2)) 0)⟩, ⟨9, 5, (pt b1 (0 + (IntKind.wrap .i64 (a1 + 1)).toNat * 1)), (cI .u8).val (Vec.g a0 (IntKind.wrap .i64 (a1 + 1)) 0)⟩, ⟨2, 5, (pt b1 (0 + a1.toNat * 1)), (cI .u8).val (Vec.g a0 a1 0)⟩]) Ty5 rfl (At.zero (At.arr (z := 0) hb8 hb9)) rfl ?_
 refine OJ.call (d := 9) (g := 80) (ats := #[3]) (args := [.tmp 8]) (owed := [⟨25, 5, (pt b1 (0 + (IntKind.wrap .i64 (a1 + 3)).toNat * 1)), (cI .u8).val (Vec.g a0 (IntKind.wrap .i64 (a1 + 3)) 0)⟩, ⟨17, 5, (pt b1 (0 + (IntKind.wrap .i64 (a1 + 2)).toNat * 1)), (cI .u8).val (Vec.g a0 (IntKind.wrap .i64 (a1 + 2)) 0)⟩, ⟨9, 5, (pt b1 (0 + (IntKind.wrap .i64 (a1 + 1)).toNat * 1)), (cI .u8).val (Vec.g a0 (IntKind.wrap .i64 (a1 + 1)) 0)⟩]) F80 (r4_number_ok (IntKind.wrap .i64 (Vec.g a0 a1 0))) (fun r10 => ?_)
 refine OW.known (j := 0) (q := (Vec.g a0 (IntKind.wrap .i64 (a1 + 3)) 0)) Ty5 rfl (At.zero (At.arr (z := 0) hb8 hb9)) ?_
 refine OW.known (j := 0) (q := (Vec.g a0 (IntKind.wrap .i64 (a1 + 2)) 0)) Ty5 rfl (At.zero (At.arr (z := 0) hb6 hb7)) ?_
 refine OW.known (j := 0) (q := (Vec.g a0 (IntKind.wrap .i64 (a1 + 1)) 0)) Ty5 rfl (At.zero (At.arr (z := 0) hb4 hb5)) ?_
 refine OW.nil <| OJ.cat (d := 10) (T := 9) (yT := 9) (y := .tmp 9) (z := .const (.string str8)) (p := r10) (q := str8) ?_
 refine OJ.go 1 [(15, .int .i64 (IntKind.wrap .i64 (Vec.g a0 (IntKind.wrap .i64 (a1 + 1)) 0)))] <| OJ.call (d := 16) (g := 80) (ats := #[3]) (args := [.tmp 15]) (owed := [⟨25, 5, (pt b1 (0 + (IntKind.wrap .i64 (a1 + 3)).toNat * 1)), (cI .u8).val (Vec.g a0 (IntKind.wrap .i64 (a1 + 3)) 0)⟩, ⟨17, 5, (pt b1 (0 + (IntKind.wrap .i64 (a1 + 2)).toNat * 1)), (cI .u8).val (Vec.g a0 (IntKind.wrap .i64 (a1 + 2)) 0)⟩]) F80 (r4_number_ok (IntKind.wrap .i64 (Vec.g a0 (IntKind.wrap .i64 (a1 + 1)) 0))) (fun r11 => ?_)
 refine OW.known (j := 0) (q := (Vec.g a0 (IntKind.wrap .i64 (a1 + 3)) 0)) Ty5 rfl (At.zero (At.arr (z := 0) hb8 hb9)) ?_
 refine OW.known (j := 0) (q := (Vec.g a0 (IntKind.wrap .i64 (a1 + 2)) 0)) Ty5 rfl (At.zero (At.arr (z := 0) hb6 hb7)) ?_
 refine OW.nil <| OJ.cat (d := 17) (T := 9) (yT := 9) (y := .tmp 10) (z := .tmp 16) (p := (r10 ++ str8)) (q := r11) ?_
 refine OJ.cat (d := 18) (T := 9) (yT := 9) (y := .tmp 17) (z := .const (.string str8)) (p := ((r10 ++ str8) ++ r11)) (q := str8) ?_
 refine OJ.go 1 [(23, .int .i64 (IntKind.wrap .i64 (Vec.g a0 (IntKind.wrap .i64 (a1 + 2)) 0)))] <| OJ.call (d := 24) (g := 80) (ats := #[3]) (args := [.tmp 23]) (owed := [⟨25, 5, (pt b1 (0 + (IntKind.wrap .i64 (a1 + 3)).toNat * 1)), (cI .u8).val (Vec.g a0 (IntKind.wrap .i64 (a1 + 3)) 0)⟩]) F80 (r4_number_ok (IntKind.wrap .i64 (Vec.g a0 (IntKind.wrap .i64 (a1 + 2)) 0))) (fun r12 => ?_)
 refine OW.known (j := 0) (q := (Vec.g a0 (IntKind.wrap .i64 (a1 + 3)) 0)) Ty5 rfl (At.zero (At.arr (z := 0) hb8 hb9)) ?_
 refine OW.nil <| OJ.cat (d := 25) (T := 9) (yT := 9) (y := .tmp 18) (z := .tmp 24) (p := (((r10 ++ str8) ++ r11) ++ str8)) (q := r12) ?_
 refine OJ.cat (d := 26) (T := 9) (yT := 9) (y := .tmp 25) (z := .const (.string str8)) (p := ((((r10 ++ str8) ++ r11) ++ str8) ++ r12)) (q := str8) ?_
 refine OJ.go 1 [(31, .int .i64 (IntKind.wrap .i64 (Vec.g a0 (IntKind.wrap .i64 (a1 + 3)) 0)))] <| OJ.call (d := 32) (g := 80) (ats := #[3]) (args := [.tmp 31]) (owed := []) F80 (r4_number_ok (IntKind.wrap .i64 (Vec.g a0 (IntKind.wrap .i64 (a1 + 3)) 0))) (fun r13 => ?_)
 refine OW.nil <| OJ.cat (d := 33) (T := 9) (yT := 9) (y := .tmp 26) (z := .tmp 32) (p := (((((r10 ++ str8) ++ r11) ++ str8) ++ r12) ++ str8)) (q := r13) ?_
 exact OJ.go 1 [(4, .string ((((((r10 ++ str8) ++ r11) ++ str8) ++ r12) ++ str8) ++ r13))] <| OJ.nil <| SJ.r1 (.string ((((((r10 ++ str8) ++ r11) ++ str8) ++ r12) ++ str8) ++ r13)) rfl rfl

/-! ### weir/weirref4.zeros: function 78 -/
noncomputable def r4_zeros.B : Code := (Tryz.f78.body).getD .skip
noncomputable def r4_zeros.cx : Fx := ⟨Tryz.prog, 78, Tryz.f78⟩
noncomputable def r4_zeros.out (r_ : Int) : Value := .int .i64 r_
noncomputable def r4_zeros.F0 (r_ : Int) : Reach := .ret (r4_zeros.out r_)
noncomputable def r4_zeros.F1 (a0 : (Vec Int 16)) (a1 : Int) (b1 : Nat) : (LS Int Int) → Reach := loopF [.inLoop (c1 (c1 (c1 (c2 (c2 r4_zeros.B))))), .inBlock 0, .code (c2 (c2 (c2 r4_zeros.B)))] (fun s_ : Int => [(1, .int .i64 a1), (2, .pointer (some (pt b1 0))), (5, .int .i64 s_)]) (fun s_ : Int => [(b1, ((cI .u8).arr 16).enc a0)]) r4_zeros.F0
noncomputable def r4_zeros.L1 (a0 : (Vec Int 16)) (a1 : Int) (s2 : Int) : M (LS Int Int) :=
 (if (IntKind.wrap .i64 (a1 + s2)) < 8 then
   chk ((0 : Int) ≤ (IntKind.wrap .i64 (2 * (IntKind.wrap .i64 (a1 + s2)))) ∧ (IntKind.wrap .i64 (2 * (IntKind.wrap .i64 (a1 + s2)))) < (16 : Nat)) >>= fun _ =>
   pure ((Vec.g a0 (IntKind.wrap .i64 (2 * (IntKind.wrap .i64 (a1 + s2)))) 0) == 0)
  else
   pure false) >>= fun y12 =>
 (if y12 = true then
   chk ((0 : Int) ≤ (IntKind.wrap .i64 ((IntKind.wrap .i64 (2 * (IntKind.wrap .i64 (a1 + s2)))) + 1)) ∧ (IntKind.wrap .i64 ((IntKind.wrap .i64 (2 * (IntKind.wrap .i64 (a1 + s2)))) + 1)) < (16 : Nat)) >>= fun _ =>
   pure ((Vec.g a0 (IntKind.wrap .i64 ((IntKind.wrap .i64 (2 * (IntKind.wrap .i64 (a1 + s2)))) + 1)) 0) == 0)
  else
   pure false) >>= fun y15 =>
 if y15 = true then
  pure (LS.next (IntKind.wrap .i64 (s2 + 1)))
 else
  pure (LS.done s2)
theorem r4_zeros.L1_ok (a0 : (Vec Int 16)) (a1 : Int) (b1 : Nat) (s2 : Int) :
  SJ r4_zeros.cx [.code (c1 (c1 (c1 (c2 (c2 r4_zeros.B))))), .inLoop (c1 (c1 (c1 (c2 (c2 r4_zeros.B))))), .inBlock 0, .code (c2 (c2 (c2 r4_zeros.B)))] [(1, .int .i64 a1), (2, .pointer (some (pt b1 0))), (5, .int .i64 s2)] [(b1, ((cI .u8).arr 16).enc a0)] (r4_zeros.L1 a0 a1 s2) (r4_zeros.F1 a0 a1 b1) := by
 unfold r4_zeros.L1
 refine SJ.seq <| SJ.sr 23 <| OJ.go 5 [(10, .bool (decide ((IntKind.wrap .i64 (a1 + s2)) < 8))), (9, .bool (decide ((IntKind.wrap .i64 (a1 + s2)) < 8))), (8, .int .i64 (IntKind.wrap .i64 (a1 + s2))), (7, .int .i64 s2), (6, .int .i64 a1)] <| OJ.join (b := decide ((IntKind.wrap .i64 (a1 + s2)) < 8)) [5, 6, 7, 8, 9, 10, 11, 12] [13, 14, 15, 16, 17, 18, 19, 20, 21, 22] [1, 2, 5, 18] (fun y12 => [(1, .int .i64 a1), (2, .pointer (some (pt b1 0))), (5, .int .i64 s2), (18, .bool y12)]) [] [] (t := 10) decide_eq_true_iff (fun hp_ => ?_) (fun hp_ => ?_) (fun _ _ _ _ _ _ h_ => h_) (fun y12 => ?_)
 ·refine OJ.go 4 [(14, .int .i64 (IntKind.wrap .i64 (2 * (IntKind.wrap .i64 (a1 + s2))))), (13, .int .i64 (IntKind.wrap .i64 (a1 + s2))), (12, .int .i64 s2), (11, .int .i64 a1)] <| OJ.idxK (d := 15) (T := 26) (y := .tmp 2) (j := .tmp 14) (E := 5) (sz := 1) (b := b1) (o := 0) (k := .i64) (fun hb10 hb11 => ?_)
  refine OJ.kld (d := 16) (y := .tmp 15) (cd := (cI .u8)) (j := 0) (b := b1) (o := (0 + (IntKind.wrap .i64 (2 * (IntKind.wrap .i64 (a1 + s2)))).toNat * 1)) (Vec.g a0 (IntKind.wrap .i64 (2 * (IntKind.wrap .i64 (a1 + s2)))) 0) (pend2 := []) Ty5 rfl (At.zero (At.arr (z := 0) hb10 hb11)) rfl ?_
  exact OJ.go 2 [(18, .bool ((Vec.g a0 (IntKind.wrap .i64 (2 * (IntKind.wrap .i64 (a1 + s2)))) 0) == 0)), (17, .bool ((Vec.g a0 (IntKind.wrap .i64 (2 * (IntKind.wrap .i64 (a1 + s2)))) 0) == 0))] <| OJ.x0
 ·exact OJ.go 8 [(18, .bool false), (17, undef), (16, undef), (15, undef), (14, undef), (13, undef), (12, undef), (11, undef)] <| OJ.x0
 ·refine OJ.go 1 [(19, .bool y12)] <| OJ.join (b := y12) [14, 15, 16, 17, 18, 19, 20, 21, 22] [] [1, 2, 5, 28] (fun y15 => [(1, .int .i64 a1), (2, .pointer (some (pt b1 0))), (5, .int .i64 s2), (28, .bool y15)]) [] [] (t := 19) Iff.rfl (fun hp_ => ?_) (fun hp_ => ?_) (fun _ _ _ _ _ _ h_ => h_) (fun y15 => ?_)
  ·refine OJ.go 5 [(24, .int .i64 (IntKind.wrap .i64 ((IntKind.wrap .i64 (2 * (IntKind.wrap .i64 (a1 + s2)))) + 1))), (23, .int .i64 (IntKind.wrap .i64 (2 * (IntKind.wrap .i64 (a1 + s2))))), (22, .int .i64 (IntKind.wrap .i64 (a1 + s2))), (21, .int .i64 s2), (20, .int .i64 a1)] <| OJ.idxK (d := 25) (T := 26) (y := .tmp 2) (j := .tmp 24) (E := 5) (sz := 1) (b := b1) (o := 0) (k := .i64) (fun hb13 hb14 => ?_)
   refine OJ.kld (d := 26) (y := .tmp 25) (cd := (cI .u8)) (j := 0) (b := b1) (o := (0 + (IntKind.wrap .i64 ((IntKind.wrap .i64 (2 * (IntKind.wrap .i64 (a1 + s2)))) + 1)).toNat * 1)) (Vec.g a0 (IntKind.wrap .i64 ((IntKind.wrap .i64 (2 * (IntKind.wrap .i64 (a1 + s2)))) + 1)) 0) (pend2 := []) Ty5 rfl (At.zero (At.arr (z := 0) hb13 hb14)) rfl ?_
   exact OJ.go 2 [(28, .bool ((Vec.g a0 (IntKind.wrap .i64 ((IntKind.wrap .i64 (2 * (IntKind.wrap .i64 (a1 + s2)))) + 1)) 0) == 0)), (27, .bool ((Vec.g a0 (IntKind.wrap .i64 ((IntKind.wrap .i64 (2 * (IntKind.wrap .i64 (a1 + s2)))) + 1)) 0) == 0))] <| OJ.x0
  ·exact OJ.go 9 [(28, .bool false), (27, undef), (26, undef), (25, undef), (24, undef), (23, undef), (22, undef), (21, undef), (20, undef)] <| OJ.x0
  ·refine OJ.nil <| SJ.cond (t := (.tmp 28)) (b := y15) Iff.rfl (fun hc16 => ?_) (fun hc16 => ?_)
   ·exact SJ.skip <| SJ.block (id := 1) <| SJ.rg 3 <| OJ.go 3 [(5, .int .i64 (IntKind.wrap .i64 (s2 + 1))), (30, .int .i64 (IntKind.wrap .i64 (s2 + 1))), (29, .int .i64 s2)] <| OJ.nil <| SJ.inBlock <| SJ.at_ [1, 2, 5] rfl
   ·exact SJ.exit (id := 0) (by rfl) <| SJ.sr 2 <| OJ.go 2 [(4, .int .i64 s2), (31, .int .i64 s2)] <| OJ.nil <| SJ.r1 (.int .i64 s2) rfl rfl
noncomputable def r4_zeros (a0 : (Vec Int 16)) (a1 : Int) : M Int :=
 slot 26 >>= fun b1 =>
 loopM (fun s_ : Int => r4_zeros.L1 a0 a1 s_) 0
theorem r4_zeros_ok (a0 : (Vec Int 16)) (a1 : Int) : Ref Tryz.prog 78 [((cI .u8).arr 16).val a0, .int .i64 a1] (r4_zeros a0 a1) r4_zeros.out := by
 refine Ref.of (cd := r4_zeros.B) Tryz.func78 ?_
 show SJ r4_zeros.cx [.code r4_zeros.B] [(0, ((cI .u8).arr 16).val a0), (1, .int .i64 a1)] [] (r4_zeros a0 a1) r4_zeros.F0
 unfold r4_zeros
 refine SJ.sr 2 <| OJ.slotOf (d := 2) (op := (.box 26 (.tmp 0))) (cd := ((cI .u8).arr 16)) (u := a0) (owed := []) (box_run (by kernel_rfl)) (fun b1 => ?_)
 exact OW.nil <| OJ.go 1 [(4, .int .i64 0)] <| OJ.nil <| SJ.sr 1 <| OJ.go 1 [(5, .int .i64 0)] <| OJ.nil <| SJ.seq <| SJ.block (id := 0) <| SJ.loop (fun s_ : Int => [(1, .int .i64 a1), (2, .pointer (some (pt b1 0))), (5, .int .i64 s_)]) (fun s_ : Int => [(b1, ((cI .u8).arr 16).enc a0)]) [1, 2, 5] rfl (fun _ _ => rfl) (fun s_ => r4_zeros.L1_ok a0 a1 b1 s_)

/-! ### weir/weirref4.mapped: function 77 -/
noncomputable def r4_mapped.B : Code := (Tryz.f77.body).getD .skip
noncomputable def r4_mapped.cx : Fx := ⟨Tryz.prog, 77, Tryz.f77⟩
noncomputable def r4_mapped.out (r_ : Bool) : Value := .bool r_
noncomputable def r4_mapped.F0 (r_ : Bool) : Reach := .ret (r4_mapped.out r_)
noncomputable def r4_mapped (a0 : (Vec Int 16)) : M Bool :=
 slot 26 >>= fun b1 =>
 r4_zeros a0 0 >>= fun r2 =>
 (if r2 = 5 then
   pure ((Vec.g a0 10 0) == 255)
  else
   pure false) >>= fun y3 =>
 (if y3 = true then
   pure ((Vec.g a0 11 0) == 255)
  else
   pure false) >>= fun y4 =>
 pure y4
theorem r4_mapped_ok (a0 : (Vec Int 16)) : Ref Tryz.prog 77 [((cI .u8).arr 16).val a0] (r4_mapped a0) r4_mapped.out := by
 refine Ref.of (cd := r4_mapped.B) Tryz.func77 ?_
 show SJ r4_mapped.cx [.code r4_mapped.B] [(0, ((cI .u8).arr 16).val a0)] [] (r4_mapped a0) r4_mapped.F0
 unfold r4_mapped
 refine SJ.sr 2 <| OJ.slotOf (d := 1) (op := (.box 26 (.tmp 0))) (cd := ((cI .u8).arr 16)) (u := a0) (owed := []) (box_run (by kernel_rfl)) (fun b1 => ?_)
 refine OW.nil <| OJ.go 1 [(2, .bool false)] <| OJ.nil <| SJ.sr 14 <| OJ.kld (d := 3) (y := .tmp 1) (cd := ((cI .u8).arr 16)) (j := 0) (b := b1) (o := 0) a0 (pend2 := []) Ty26 rfl (At.whole _) rfl ?_
 refine OJ.call (d := 4) (g := 78) (ats := #[26, 3]) (args := [.tmp 3, .const (.int .i64 0)]) (owed := []) F78 (r4_zeros_ok a0 0) (fun r2 => ?_)
 refine OW.nil <| OJ.go 2 [(6, .bool (r2 == 5)), (5, .bool (r2 == 5))] <| OJ.join (b := (r2 == 5)) [4, 5, 6, 7] [8, 9, 10, 11, 12, 13] [1, 10] (fun y3 => [(1, .pointer (some (pt b1 0))), (10, .bool y3)]) [] [] (t := 6) beq_iff_eq (fun hp_ => ?_) (fun hp_ => ?_) (fun _ _ _ _ _ _ h_ => h_) (fun y3 => ?_)
 ·refine OJ.go 1 [(7, .pointer (some (pt b1 10)))] <| OJ.kld (d := 8) (y := .tmp 7) (cd := (cI .u8)) (j := 0) (b := b1) (o := 10) (Vec.g a0 10 0) (pend2 := []) Ty5 rfl (At.zero (At.arr (z := 0) (by decide) (by decide))) rfl ?_
  exact OJ.go 2 [(10, .bool ((Vec.g a0 10 0) == 255)), (9, .bool ((Vec.g a0 10 0) == 255))] <| OJ.x0
 ·exact OJ.go 4 [(10, .bool false), (9, undef), (8, undef), (7, undef)] <| OJ.x0
 ·refine OJ.go 1 [(11, .bool y3)] <| OJ.join (b := y3) [9, 10, 11, 12] [13] [15] (fun y4 => [(15, .bool y4)]) [] [] (t := 11) Iff.rfl (fun hp_ => ?_) (fun hp_ => ?_) (fun _ _ _ _ _ _ h_ => h_) (fun y4 => ?_)
  ·refine OJ.go 1 [(12, .pointer (some (pt b1 11)))] <| OJ.kld (d := 13) (y := .tmp 12) (cd := (cI .u8)) (j := 0) (b := b1) (o := 11) (Vec.g a0 11 0) (pend2 := []) Ty5 rfl (At.zero (At.arr (z := 0) (by decide) (by decide))) rfl ?_
   exact OJ.go 2 [(15, .bool ((Vec.g a0 11 0) == 255)), (14, .bool ((Vec.g a0 11 0) == 255))] <| OJ.x0
  ·exact OJ.go 4 [(15, .bool false), (14, undef), (13, undef), (12, undef)] <| OJ.x0
  ·exact OJ.go 1 [(2, .bool y4)] <| OJ.nil <| SJ.r1 (.bool y4) rfl rfl

/-! ### weir/weirref4.hex: function 79 -/
noncomputable def r4_hex.B : Code := (Tryz.f79.body).getD .skip
noncomputable def r4_hex.cx : Fx := ⟨Tryz.prog, 79, Tryz.f79⟩
noncomputable def r4_hex.out (r_ : ByteArray) : Value := .string r_
noncomputable def r4_hex.F0 (r_ : ByteArray) : Reach := .ret (r4_hex.out r_)
noncomputable def r4_hex.body (rec_ : Int → M ByteArray) (a0 : Int) : M ByteArray :=
 if a0 < 16 then
  chk ((0 : Int) ≤ a0 ∧ a0 < (str12.size : Int)) >>= fun _ =>
  newv 5 ((cI .u8).arr 1) (⟨[(sb str12 a0)], rfl⟩ : Vec Int 1) >>= fun b7 =>
  toStr (⟨some (pt b7 0), 1, 1⟩ : Sl) >>= fun r8 =>
  pure r8
 else
  draws 79 3 (opsOf (c1 (c2 (c2 r4_hex.B)))) >>= fun o9 =>
  if bfr o9 2 6 = true then
   rec_ (IntKind.wrap .i64 (Int.tdiv a0 16)) >>= fun r28 =>
   chk ((0 : Int) ≤ (Int.tmod a0 16) ∧ (Int.tmod a0 16) < (str12.size : Int)) >>= fun _ =>
   newv 5 ((cI .u8).arr 1) (⟨[(sb str12 (Int.tmod a0 16))], rfl⟩ : Vec Int 1) >>= fun b31 =>
   toStr (⟨some (pt b31 0), 1, 1⟩ : Sl) >>= fun r32 =>
   chk (((r28.size + r32.size : Nat) : Int) ≤ 9223372036854775807) >>= fun _ =>
   pure (r28 ++ r32)
  else
   if bfr o9 2 7 = true then
    chk ((0 : Int) ≤ (Int.tmod a0 16) ∧ (Int.tmod a0 16) < (str12.size : Int)) >>= fun _ =>
    newv 5 ((cI .u8).arr 1) (⟨[(sb str12 (Int.tmod a0 16))], rfl⟩ : Vec Int 1) >>= fun b36 =>
    rec_ (IntKind.wrap .i64 (Int.tdiv a0 16)) >>= fun r37 =>
    toStr (⟨some (pt b36 0), 1, 1⟩ : Sl) >>= fun r38 =>
    chk (((r37.size + r38.size : Nat) : Int) ≤ 9223372036854775807) >>= fun _ =>
    pure (r37 ++ r38)
   else
    chk ((0 : Int) ≤ (Int.tmod a0 16) ∧ (Int.tmod a0 16) < (str12.size : Int)) >>= fun _ =>
    newv 5 ((cI .u8).arr 1) (⟨[(sb str12 (Int.tmod a0 16))], rfl⟩ : Vec Int 1) >>= fun b41 =>
    toStr (⟨some (pt b41 0), 1, 1⟩ : Sl) >>= fun r42 =>
    rec_ (IntKind.wrap .i64 (Int.tdiv a0 16)) >>= fun r43 =>
    chk (((r43.size + r42.size : Nat) : Int) ≤ 9223372036854775807) >>= fun _ =>
    pure (r43 ++ r42)
theorem r4_hex.body_ok  (rec_ : Int → M ByteArray) (h_rec_ : ∀ (x0_ : Int), Ref Tryz.prog 79 [.int .i64 x0_] (rec_ x0_) r4_hex.out) (a0 : Int) : Ref Tryz.prog 79 [.int .i64 a0] (r4_hex.body rec_ a0) r4_hex.out := by
 refine Ref.of (cd := r4_hex.B) Tryz.func79 ?_
 show SJ r4_hex.cx [.code r4_hex.B] [(0, .int .i64 a0)] [] (r4_hex.body rec_ a0) r4_hex.F0
 unfold r4_hex.body
 refine SJ.sr 1 <| OJ.go 1 [(2, .string ByteArray.empty)] <| OJ.nil <| SJ.seq <| SJ.sr 2 <| OJ.go 2 [(4, .bool (decide (a0 < 16))), (3, .int .i64 a0)] <| OJ.nil <| SJ.cond (t := (.tmp 4)) (b := decide (a0 < 16)) decide_eq_true_iff (fun hc44 => ?_) (fun hc44 => ?_)
 ·refine SJ.sr 5 <| OJ.go 1 [(5, .int .i64 a0)] <| OJ.idxT (d := 6) (T := 9) (y := .const (.string str12)) (j := .tmp 5) (k := .i64) (fun hb5 hb6 => ?_)
  refine OJ.rowNew (d := 7) (t := 51) (parts := [(0, .tmp 6)]) (ps := [(0, (cI .u8).val (sb str12 a0))]) (cd := (cI .u8)) (owed := []) Ty5 (Filled.cons (cd := (cI .u8)) (q := (sb str12 a0)) (o := 0) rfl (Upd.arr (i := 0) (by decide) (by decide)) Filled.nil) (fun b7 => ?_)
  refine OW.nil <| OJ.toStr (d := 8) (t := 51) (u := 9) (E := 5) (x := .tmp 7) (owed := []) (fun r8 => ?_)
  exact OW.nil <| OJ.go 1 [(2, .string r8)] <| OJ.nil <| SJ.r1 (.string r8) rfl rfl
 ·refine SJ.skip <| SJ.seq <| SJ.draws (id := 3) (kd := [0, 0, 2, 0, 0, 0, 2, 2, 0, 0]) (bef := [0, 1, 3, 0, 8, 24, 56, 120, 255, 511]) (ord := [0, 1, 2, 3, 4, 5, 6, 7, 8, 9]) (E := [(2, 6), (2, 7)]) mixed (fun o9 hg_ => ?_)
  refine SJ.bfr hg_ (by decide) (fun ho27 => ?_) (fun ho27 => ?_)
  ·refine SJ.leaf hg_ (kd := [0, 0, 2, 0, 0, 0, 2, 2, 0, 0]) (bef := [0, 1, 3, 0, 8, 24, 56, 120, 255, 511]) (ord := [0, 1, 2, 3, 4, 5, 6, 7, 8, 9]) (E := [(2, 6), (2, 7)]) (allB.cons ho27 (allB.cons (bfr_trans ho27 (hg_.dep' _ (x := 6) (y := 7) (by kernel_rfl))) allB.nil)) ?_
   refine OJ.go 2 [(10, .int .i64 (IntKind.wrap .i64 (Int.tdiv a0 16))), (9, .int .i64 a0)] <| OJ.call (d := 11) (g := 79) (ats := #[3]) (args := [.tmp 10]) (owed := []) F79 (h_rec_ (IntKind.wrap .i64 (Int.tdiv a0 16))) (fun r28 => ?_)
   refine OW.nil <| OJ.go 2 [(13, .int .i64 (Int.tmod a0 16)), (12, .int .i64 a0)] <| OJ.idxT (d := 14) (T := 9) (y := .const (.string str12)) (j := .tmp 13) (k := .i64) (fun hb29 hb30 => ?_)
   refine OJ.rowNew (d := 15) (t := 51) (parts := [(0, .tmp 14)]) (ps := [(0, (cI .u8).val (sb str12 (Int.tmod a0 16)))]) (cd := (cI .u8)) (owed := []) Ty5 (Filled.cons (cd := (cI .u8)) (q := (sb str12 (Int.tmod a0 16))) (o := 0) rfl (Upd.arr (i := 0) (by decide) (by decide)) Filled.nil) (fun b31 => ?_)
   refine OW.nil <| OJ.toStr (d := 16) (t := 51) (u := 9) (E := 5) (x := .tmp 15) (owed := []) (fun r32 => ?_)
   refine OW.nil <| OJ.cat (d := 17) (T := 9) (yT := 9) (y := .tmp 11) (z := .tmp 16) (p := r28) (q := r32) ?_
   exact OJ.go 1 [(2, .string (r28 ++ r32))] <| OJ.nil <| SJ.r1 (.string (r28 ++ r32)) rfl rfl
  ·refine SJ.bfr hg_ (by decide) (fun ho33 => ?_) (fun ho33 => ?_)
   ·refine SJ.leaf hg_ (kd := [0, 0, 2, 0, 0, 0, 2, 2, 0, 0]) (bef := [0, 1, 3, 0, 8, 24, 56, 120, 255, 511]) (ord := [0, 1, 3, 4, 5, 6, 2, 7, 8, 9]) (E := [(6, 2), (2, 7)]) (allB.cons ho27 (allB.cons ho33 allB.nil)) ?_
    refine OJ.go 4 [(13, .int .i64 (Int.tmod a0 16)), (12, .int .i64 a0), (10, .int .i64 (IntKind.wrap .i64 (Int.tdiv a0 16))), (9, .int .i64 a0)] <| OJ.idxT (d := 14) (T := 9) (y := .const (.string str12)) (j := .tmp 13) (k := .i64) (fun hb34 hb35 => ?_)
    refine OJ.rowNew (d := 15) (t := 51) (parts := [(0, .tmp 14)]) (ps := [(0, (cI .u8).val (sb str12 (Int.tmod a0 16)))]) (cd := (cI .u8)) (owed := []) Ty5 (Filled.cons (cd := (cI .u8)) (q := (sb str12 (Int.tmod a0 16))) (o := 0) rfl (Upd.arr (i := 0) (by decide) (by decide)) Filled.nil) (fun b36 => ?_)
    refine OW.nil <| OJ.call (d := 11) (g := 79) (ats := #[3]) (args := [.tmp 10]) (owed := []) F79 (h_rec_ (IntKind.wrap .i64 (Int.tdiv a0 16))) (fun r37 => ?_)
    refine OW.nil <| OJ.toStr (d := 16) (t := 51) (u := 9) (E := 5) (x := .tmp 15) (owed := []) (fun r38 => ?_)
    refine OW.nil <| OJ.cat (d := 17) (T := 9) (yT := 9) (y := .tmp 11) (z := .tmp 16) (p := r37) (q := r38) ?_
    exact OJ.go 1 [(2, .string (r37 ++ r38))] <| OJ.nil <| SJ.r1 (.string (r37 ++ r38)) rfl rfl
   ·refine SJ.leaf hg_ (kd := [0, 0, 2, 0, 0, 0, 2, 2, 0, 0]) (bef := [0, 1, 3, 0, 8, 24, 56, 120, 255, 511]) (ord := [0, 1, 3, 4, 5, 6, 7, 2, 8, 9]) (E := [(6, 2), (7, 2)]) (allB.cons ho27 (allB.cons ho33 allB.nil)) ?_
    refine OJ.go 4 [(13, .int .i64 (Int.tmod a0 16)), (12, .int .i64 a0), (10, .int .i64 (IntKind.wrap .i64 (Int.tdiv a0 16))), (9, .int .i64 a0)] <| OJ.idxT (d := 14) (T := 9) (y := .const (.string str12)) (j := .tmp 13) (k := .i64) (fun hb39 hb40 => ?_)
    refine OJ.rowNew (d := 15) (t := 51) (parts := [(0, .tmp 14)]) (ps := [(0, (cI .u8).val (sb str12 (Int.tmod a0 16)))]) (cd := (cI .u8)) (owed := []) Ty5 (Filled.cons (cd := (cI .u8)) (q := (sb str12 (Int.tmod a0 16))) (o := 0) rfl (Upd.arr (i := 0) (by decide) (by decide)) Filled.nil) (fun b41 => ?_)
    refine OW.nil <| OJ.toStr (d := 16) (t := 51) (u := 9) (E := 5) (x := .tmp 15) (owed := []) (fun r42 => ?_)
    refine OW.nil <| OJ.call (d := 11) (g := 79) (ats := #[3]) (args := [.tmp 10]) (owed := []) F79 (h_rec_ (IntKind.wrap .i64 (Int.tdiv a0 16))) (fun r43 => ?_)
    refine OW.nil <| OJ.cat (d := 17) (T := 9) (yT := 9) (y := .tmp 11) (z := .tmp 16) (p := r43) (q := r42) ?_
    exact OJ.go 1 [(2, .string (r43 ++ r42))] <| OJ.nil <| SJ.r1 (.string (r43 ++ r42)) rfl rfl
noncomputable def r4_hex.go  : Nat → Int → M ByteArray
 | 0 => fun a0 => fun _ => none
 | n + 1 => fun a0 => r4_hex.body (r4_hex.go  n) a0
theorem r4_hex.go_ok  : ∀ (n : Nat) (a0 : Int), Ref Tryz.prog 79 [.int .i64 a0] (r4_hex.go  n a0) r4_hex.out
 | 0, a0 => fun v r v' e => by cases e
 | n + 1, a0 => r4_hex.body_ok  (r4_hex.go  n) (r4_hex.go_ok  n) a0
noncomputable def r4_hex (a0 : Int) : M ByteArray := r4_hex.go  1000000000000 a0
theorem r4_hex_ok (a0 : Int) : Ref Tryz.prog 79 [.int .i64 a0] (r4_hex a0) r4_hex.out := r4_hex.go_ok  1000000000000 a0
end Go.Proofs.YtddmmgcfanpmmaaGreatDoor.Lx
