/- The law AddrForms: the given statement, out of the program's Lean form and the pure theorem. Printed by lawgen.py. -/
import Derived.ProofKit
import Derived.LaidMore
import Derived.OpenShut
import Derived.Stop.Joined
import Derived.SevenTiedAt
import Derived.Test.YtddmmgcfanpmmaaDoorCards
import Derived.Test.YtddmmgcfanpmmaaDoorTie
import Derived.Test.YtddmmgcfanpmmaaDoorRows
import Derived.Test.YtddmmgcfanpmmaaDoorPureAddrForms
namespace Go.Proofs.YtddmmgcfanpmmaaDoor.addrForms
open Go.ChangeShapes Go.WideShapes Go.ChangeAt Go.RowKit Lx
open Go.ChangeMaps (open_string shut_string)
set_option linter.unusedVariables false
theorem own : ownKnob Tryd.prog.godebug = none := by kernel_rfl
theorem laidOut : laidOutB Tryd.prog = true := by kernel_rfl
set_option maxRecDepth 100000 in
theorem door_met (os : Os) (args : Array Value) : laidMetH Tryd.prog Rows.addrFormsRow.laid ((World.doorLaid Tryd.prog 400 os).forCall (fun _ _ => 0) ⟨#[], args, []⟩).memory :=
  laidMetH_of_parts3 (fuel := 8) (laidMet_of_run' 8 (by kernel_rfl) (by kernel_rfl)) (by kernel_rfl) (by kernel_rfl)
set_option maxRecDepth 100000 in
theorem lifted (os : Os) (started : os.Started) (H : Type) (enc : TypeId × Value → H) :
    ReturnsInHanded {} Tryd.checked os 3 .any (fun w args => (Rows.addrFormsSpec.pre enc Tryd.prog Tryd.f3 [] false w args ∧ laidMetH Tryd.prog Rows.addrFormsRow.laid w) ∧ sizedMet enc Tryd.prog Tryd.f3 (OpenSpec.ofChange Rows.addrFormsSpec) false w args) (Rows.addrFormsSpec.post enc Tryd.prog Tryd.f3 false true false false) := by
  refine returnsInHanded_of_change_and (C := Tryd.checked) (X := fun w _ => laidMetH Tryd.prog Rows.addrFormsRow.laid w) (fun _ _ _ hh h => h.of_heap hh) own started (by kernel_rfl) Tryd.func3
    (ChangeSpec.witness_shaped (enc := enc) (C := Tryd.checked) (os := os) (X := fun w _ => laidMetH Tryd.prog Rows.addrFormsRow.laid w) false (World.doorLaid Tryd.prog 400 os) #[((cI .u8).arr 16).val (Vec.rep 16 0), .slice none 0 0, .int .i64 0, .int .i64 0, .bool false] 8 rfl (World.shaped_of_RefB (by kernel_rfl) (by kernel_rfl)) (by kernel_rfl) (by kernel_rfl) (by kernel_rfl) (door_met os _)) ?_
  intro W base args ds gs before hval0 hW hcnd hsz0 hL _
  have hsz : (DataW.weightsEach Tryd.prog (Tryd.f3.params.toList ++ Rows.addrFormsSpec.plain.varTypes Tryd.prog) (ds ++ gs)).all (· ≤ reachBytes) = true := hsz0
  have hval : ∀ (j : Nat) t v, Tryd.f3.params[j]? = some t → args[j]? = some v → Value.okWide Tryd.prog W .any base t v := hval0
  have hW' := hW
  obtain ⟨p, q, hA0, hV, rfl, hfz, hnd⟩ := hW
  have hA : DataW.TrodAll enc Tryd.prog W 0 (fun _ => true) true Tryd.f3.params.toList args.toList ds p := hA0
  rw [Tryd.params3] at hA hval hsz
  obtain ⟨v0, vs0, d0, ds0, p0, q0, hargs, rfl, rfl, h0, r0⟩ := trodAll_cons hA
  obtain ⟨v1, vs1, d1, ds1, p1, q1, rfl, rfl, rfl, h1, r1⟩ := trodAll_cons r0
  obtain ⟨v2, vs2, d2, ds2, p2, q2, rfl, rfl, rfl, h2, r2⟩ := trodAll_cons r1
  obtain ⟨v3, vs3, d3, ds3, p3, q3, rfl, rfl, rfl, h3, r3⟩ := trodAll_cons r2
  obtain ⟨v4, vs4, d4, ds4, p4, q4, rfl, rfl, rfl, h4, r4⟩ := trodAll_cons r3
  obtain ⟨rfl, rfl, rfl⟩ := trodAll_nil r4
  obtain rfl : args = #[v0, v1, v2, v3, v4] := by cases args; simp_all
  obtain ⟨rfl, rfl⟩ := trodVars_none hV
  have lt0 : ∀ x ∈ p0, x.block < W.heap.size := by obtain ⟨m, hm⟩ := h0; exact DataW.trod_lt m _ _ _ hm
  have sm0 : Small Tryd.prog 22 d0 := fun m hm => by simpa using List.all_eq_true.1 hsz m (DataW.weights_mem_each (j := 0) (t := 22) (d := d0) rfl rfl m hm)
  obtain ⟨u0, e0, g0⟩ := (OpensV.agg (Opens.arr Tryd.underlying22 (by kernel_rfl) (by kernel_rfl) (Opens.int Tryd.underlying5)) rfl (by kernel_rfl)) (hval 0 22 v0 rfl rfl) h0 sm0
  have lt1 : ∀ x ∈ p1, x.block < W.heap.size := by obtain ⟨m, hm⟩ := h1; exact DataW.trod_lt m _ _ _ hm
  have sm1 : Small Tryd.prog 23 d1 := fun m hm => by simpa using List.all_eq_true.1 hsz m (DataW.weights_mem_each (j := 1) (t := 23) (d := d1) rfl rfl m hm)
  obtain ⟨u1, e1, g1⟩ := (OpensV.slice Tryd.underlying23 (by kernel_rfl) (Opens.int Tryd.underlying3)) (hval 1 23 v1 rfl rfl) h1 sm1
  have lt2 : ∀ x ∈ p2, x.block < W.heap.size := by obtain ⟨m, hm⟩ := h2; exact DataW.trod_lt m _ _ _ hm
  have sm2 : Small Tryd.prog 3 d2 := fun m hm => by simpa using List.all_eq_true.1 hsz m (DataW.weights_mem_each (j := 2) (t := 3) (d := d2) rfl rfl m hm)
  obtain ⟨u2, e2, g2⟩ := (OpensV.int Tryd.underlying3) (hval 2 3 v2 rfl rfl) h2 sm2
  have lt3 : ∀ x ∈ p3, x.block < W.heap.size := by obtain ⟨m, hm⟩ := h3; exact DataW.trod_lt m _ _ _ hm
  have sm3 : Small Tryd.prog 3 d3 := fun m hm => by simpa using List.all_eq_true.1 hsz m (DataW.weights_mem_each (j := 3) (t := 3) (d := d3) rfl rfl m hm)
  obtain ⟨u3, e3, g3⟩ := (OpensV.int Tryd.underlying3) (hval 3 3 v3 rfl rfl) h3 sm3
  have lt4 : ∀ x ∈ p4, x.block < W.heap.size := by obtain ⟨m, hm⟩ := h4; exact DataW.trod_lt m _ _ _ hm
  have sm4 : Small Tryd.prog 4 d4 := fun m hm => by simpa using List.all_eq_true.1 hsz m (DataW.weights_mem_each (j := 4) (t := 4) (d := d4) rfl rfl m hm)
  obtain ⟨u4, e4, g4⟩ := (OpensV.bool Tryd.underlying4) (hval 4 4 v4 rfl rfl) h4 sm4
  obtain ⟨Wf, hr, hb⟩ := AddrForms_true W u0 u1 u2 u3 u4 hL g0 g1 g2 g3 g4
  refine (show Calls Tryd.prog 3 _ W (fun e W' => e = .returned (.bool true) ∧ Below W.heap.size W W') from e0 ▸ e1 ▸ e2 ▸ e3 ▸ e4 ▸ Ref.answer (weirlaw4_AddrForms_ok u0 u1 u2 u3 u4) hr hb).mono fun e W' ⟨he, bel⟩ => ?_
  subst he
  exact ⟨_, rfl, _, _, _, [], _, [], hW', trodAll_mk1 (shut_bool Tryd.underlying4 _), (trodAll_cons_mk (Below.trod laidOut (by kernel_rfl) (of_decide_eq_true (by kernel_rfl)) h0 bel lt0) (trodAll_cons_mk (Below.trod laidOut (by kernel_rfl) (of_decide_eq_true (by kernel_rfl)) h1 bel lt1) (trodAll_cons_mk (Below.trod laidOut (by kernel_rfl) (of_decide_eq_true (by kernel_rfl)) h2 bel lt2) (trodAll_cons_mk (Below.trod laidOut (by kernel_rfl) (of_decide_eq_true (by kernel_rfl)) h3 bel lt3) (trodAll_cons_mk (Below.trod laidOut (by kernel_rfl) (of_decide_eq_true (by kernel_rfl)) h4 bel lt4) trodAll_mk0))))), rfl, bel.frame _, fun h => by cases h⟩
theorem over : Rows.addrFormsRow.holds Tryd.pinned (OpenSpec.ofChange Rows.addrFormsSpec) :=
  OpenClaim.holds_of_wide 3 Tryd.f3 rfl rfl rfl rfl rfl rfl rfl ⟨rfl, rfl, rfl, rfl, rfl⟩ rfl rfl rfl rfl rfl (by kernel_rfl) Tryd.func3 (by kernel_rfl)
    (of_decide_eq_true (by kernel_rfl)) (by unfold Func.isWrapper; first | (rw [if_pos (by decide +kernel)]; kernel_rfl) | (rw [if_neg (by decide +kernel)]; exact ⟨rfl, rfl⟩))
    (fun os started H enc _ => lifted os started H enc)
theorem proved : Rows.AddrFormsSaid := over
set_option maxRecDepth 100000 in
theorem carded : Rows.AddrFormsCardSaid :=
  Claim7.holds_tied_plain_at .later [] [.data, .data, .data, .data] true (true, "ac147f9e94a3070efe29ea45b983ce35191834d2f83e9d62f8250587eaaccc2e") false
    proved (fun _ h => by cases h) (by kernel_rfl) (fun _ h => by cases h) addrForms_row_tie rfl ⟨rfl, rfl⟩ (by kernel_rfl) rfl
    (fun f fn hf hfn => by
      obtain rfl : f = 3 := Option.some.inj ((show Tryd.prog.funcNamed "weir/weirlaw4.AddrForms" = some 3 by kernel_rfl).symm.trans hf) |>.symm
      obtain rfl : fn = Tryd.f3 := (Option.some.inj (Tryd.func3.symm.trans hfn)).symm
      exact ⟨by kernel_rfl, fun j t ht => by
        rw [Tryd.params3] at ht
        have hm : t ∈ [22, 23, 3, 3, 4] := by simpa using Array.mem_of_getElem? ht
        have hall : ([22, 23, 3, 3, 4].all fun u => !Tryd.prog.wantsStandIn u) = true := by kernel_rfl
        exact (show Tryd.prog.wantsStandIn t = false by simpa using List.all_eq_true.1 hall t hm)⟩)
    (by kernel_rfl)
end Go.Proofs.YtddmmgcfanpmmaaDoor.addrForms
namespace Go.Proofs.YtddmmgcfanpmmaaDoor
/-- The row, under a short name, for the claim. -/
theorem addrForms_holds : Rows.AddrFormsCardSaid := addrForms.carded
#print axioms addrForms_holds
end Go.Proofs.YtddmmgcfanpmmaaDoor
