/- The law RulesAny: the given statement, out of the program's Lean form and the pure theorem. Printed by lawgen.py. -/
import Derived.Test.YtjceipelgkdoaaaGreatDoorLawJRulesAny
import Derived.ProofKit
import Derived.LaidMore
import Derived.OpenShut
import Derived.Stop.Joined
import Derived.SevenTiedAt
import Derived.Test.YtjceipelgkdoaaaGreatDoorCards
import Derived.Test.YtjceipelgkdoaaaGreatDoorTie
import Derived.Test.YtjceipelgkdoaaaGreatDoorRows
import Derived.Test.YtjceipelgkdoaaaGreatDoorPureRulesAny
namespace Go.Proofs.YtjceipelgkdoaaaGreatDoor.rulesAny
open Go.ChangeShapes Go.WideShapes Go.ChangeAt Go.RowKit Lx
open Go.ChangeMaps (open_string shut_string)
set_option linter.unusedVariables false
theorem own : ownKnob Tryz.prog.godebug = none := by kernel_rfl
theorem laidOut : laidOutB Tryz.prog = true := by kernel_rfl
set_option maxRecDepth 100000 in
theorem door_met (os : Os) (args : Array Value) : laidMetH Tryz.prog Rows.rulesAnyRow.laid ((World.doorLaid Tryz.prog 400 os).forCall (fun _ _ => 0) ⟨#[], args, []⟩).memory :=
 laidMetH_of_parts3 (fuel := 8) (laidMet_of_run' 8 (by kernel_rfl) (by kernel_rfl)) (by kernel_rfl) (by kernel_rfl)
set_option maxRecDepth 100000 in
theorem lifted (os : Os) (started : os.Started) (H : Type) (enc : TypeId × Value → H) :
  ReturnsInHanded {} Tryz.checked os 4 .any (fun w args => (Rows.rulesAnySpec.pre enc Tryz.prog Tryz.f4 [] false w args ∧ laidMetH Tryz.prog Rows.rulesAnyRow.laid w) ∧ sizedMet enc Tryz.prog Tryz.f4 (OpenSpec.ofChange Rows.rulesAnySpec) false w args) (Rows.rulesAnySpec.post enc Tryz.prog Tryz.f4 false true false false) := by
 refine returnsInHanded_of_change_and (C := Tryz.checked) (X := fun w _ => laidMetH Tryz.prog Rows.rulesAnyRow.laid w) (fun _ _ _ hh h => h.of_heap hh) own started (by kernel_rfl) Tryz.func4
  (ChangeSpec.witness_shaped (enc := enc) (C := Tryz.checked) (os := os) (X := fun w _ => laidMetH Tryz.prog Rows.rulesAnyRow.laid w) false (World.doorLaid Tryz.prog 400 os) #[Zai.val Zaq, .int .i64 0, ZaB.val ZgA] 8 rfl (World.shaped_of_RefB (by kernel_rfl) (by kernel_rfl)) (by kernel_rfl) (by kernel_rfl) (by kernel_rfl) (door_met os _)) ?_
 intro W base args ds gs before hval0 hW hcnd hsz0 hL _
 have hsz : (DataW.weightsEach Tryz.prog (Tryz.f4.params.toList ++ Rows.rulesAnySpec.plain.varTypes Tryz.prog) (ds ++ gs)).all (· ≤ reachBytes) = true := hsz0
 have hval : ∀ (j : Nat) t v, Tryz.f4.params[j]? = some t → args[j]? = some v → Value.okWide Tryz.prog W .any base t v := hval0
 have hW' := hW
 obtain ⟨p, q, hA0, hV, rfl, hfz, hnd⟩ := hW
 have hA : DataW.TrodAll enc Tryz.prog W 0 (fun _ => true) true Tryz.f4.params.toList args.toList ds p := hA0
 rw [Tryz.params4] at hA hval hsz
 obtain ⟨v0, vs0, d0, ds0, p0, q0, hargs, rfl, rfl, h0, r0⟩ := trodAll_cons hA
 obtain ⟨v1, vs1, d1, ds1, p1, q1, rfl, rfl, rfl, h1, r1⟩ := trodAll_cons r0
 obtain ⟨v2, vs2, d2, ds2, p2, q2, rfl, rfl, rfl, h2, r2⟩ := trodAll_cons r1
 obtain ⟨rfl, rfl, rfl⟩ := trodAll_nil r2
 obtain rfl : args = #[v0, v1, v2] := by cases args; simp_all
 obtain ⟨rfl, rfl⟩ := trodVars_none hV
 have lt0 : ∀ x ∈ p0, x.block < W.heap.size := by obtain ⟨m, hm⟩ := h0; exact DataW.trod_lt m _ _ _ hm
 have sm0 : ZoH Tryz.prog 63 d0 := fun m hm => by simpa using List.all_eq_true.1 hsz m (DataW.weights_mem_each (j := 0) (t := 63) (d := d0) rfl rfl m hm)
 obtain ⟨u0, e0, g0⟩ := (Zg6.agg Op63 rfl (by kernel_rfl)) (hval 0 63 v0 rfl rfl) h0 sm0
 have lt1 : ∀ x ∈ p1, x.block < W.heap.size := by obtain ⟨m, hm⟩ := h1; exact DataW.trod_lt m _ _ _ hm
 have sm1 : ZoH Tryz.prog 3 d1 := fun m hm => by simpa using List.all_eq_true.1 hsz m (DataW.weights_mem_each (j := 1) (t := 3) (d := d1) rfl rfl m hm)
 obtain ⟨u1, e1, g1⟩ := (Zg6.int Tryz.underlying3) (hval 1 3 v1 rfl rfl) h1 sm1
 have lt2 : ∀ x ∈ p2, x.block < W.heap.size := by obtain ⟨m, hm⟩ := h2; exact DataW.trod_lt m _ _ _ hm
 have sm2 : ZoH Tryz.prog 47 d2 := fun m hm => by simpa using List.all_eq_true.1 hsz m (DataW.weights_mem_each (j := 2) (t := 47) (d := d2) rfl rfl m hm)
 obtain ⟨u2, e2, g2⟩ := (Zg6.agg Op47 rfl (by kernel_rfl)) (hval 2 47 v2 rfl rfl) h2 sm2
 obtain ⟨Wf, hr, hb⟩ := ZlL W u0 u1 u2 hL g0 g1 g2
 refine (show Calls Tryz.prog 4 _ W (fun e W' => e = .returned (.bool true) ∧ Below W.heap.size W W') from e0 ▸ e1 ▸ e2 ▸ Ref.answer (fun L_ => @ZgB L_ u0 u1 u2) hr hb).mono fun e W' ⟨he, bel⟩ => ?_
 subst he
 exact ⟨_, rfl, _, _, _, [], _, [], hW', trodAll_mk1 (shut_bool Tryz.underlying4 _), (trodAll_cons_mk (Below.trod laidOut (by kernel_rfl) (of_decide_eq_true (by kernel_rfl)) h0 bel lt0) (trodAll_cons_mk (Below.trod laidOut (by kernel_rfl) (of_decide_eq_true (by kernel_rfl)) h1 bel lt1) (trodAll_cons_mk (Below.trod laidOut (by kernel_rfl) (of_decide_eq_true (by kernel_rfl)) h2 bel lt2) trodAll_mk0))), rfl, bel.frame _, fun h => by cases h⟩
theorem over : Rows.rulesAnyRow.holds Tryz.pinned (OpenSpec.ofChange Rows.rulesAnySpec) :=
 OpenClaim.holds_of_wide 4 Tryz.f4 rfl rfl rfl rfl rfl rfl rfl ⟨rfl, rfl, rfl, rfl, rfl⟩ rfl rfl rfl rfl rfl (by kernel_rfl) Tryz.func4 joined
  (of_decide_eq_true (by kernel_rfl)) (by unfold Func.isWrapper; first | (rw [if_pos (by decide +kernel)]; kernel_rfl) | (rw [if_neg (by decide +kernel)]; exact ⟨rfl, rfl⟩))
  (fun os started H enc _ => lifted os started H enc)
theorem proved : Rows.RulesAnySaid := over
set_option maxRecDepth 100000 in
theorem carded : Rows.RulesAnyCardSaid :=
 Claim7.holds_tied_plain_at .later [] [.data, .data, .data, .widerDeep, .widerDeep, .widerDeep] true (true, "d094a02c9639ee0520039a310b7edade84f1bd2abc082089e38004fea882d31e") false
  proved (fun _ h => by cases h) (by kernel_rfl) (fun _ h => by cases h) rulesAny_row_tie rfl ⟨rfl, rfl⟩ (by kernel_rfl) rfl
  (fun f fn hf hfn => by
   obtain rfl : f = 4 := Option.some.inj ((show Tryz.prog.funcNamed "weir/weirlaw16.RulesAny" = some 4 by kernel_rfl).symm.trans hf) |>.symm
   obtain rfl : fn = Tryz.f4 := (Option.some.inj (Tryz.func4.symm.trans hfn)).symm
   exact ⟨by kernel_rfl, fun j t ht => by
    rw [Tryz.params4] at ht
    have hm : t ∈ [63, 3, 47] := by simpa using Array.mem_of_getElem? ht
    have hall : ([63, 3, 47].all fun u => !Tryz.prog.wantsStandIn u) = true := by kernel_rfl
    exact (show Tryz.prog.wantsStandIn t = false by simpa using List.all_eq_true.1 hall t hm)⟩)
  (by kernel_rfl)
end Go.Proofs.YtjceipelgkdoaaaGreatDoor.rulesAny
namespace Go.Proofs.YtjceipelgkdoaaaGreatDoor
/-- The row, under a short name, for the claim. -/
theorem rulesAny_holds : Rows.RulesAnyCardSaid := rulesAny.carded
#print axioms rulesAny_holds
end Go.Proofs.YtjceipelgkdoaaaGreatDoor
