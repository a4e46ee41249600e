/- The law RouteWithin: the given statement, out of the program's Lean form and the pure theorem. Printed by lawgen.py. -/
import Derived.ProofKit
import Derived.LaidMore
import Derived.OpenShut
import Derived.Stop.Joined
import Derived.SevenTiedAt
import Derived.Test.YtfgcobigollfjaaDoorCards
import Derived.Test.YtfgcobigollfjaaDoorTie
import Derived.Test.YtfgcobigollfjaaDoorRows
import Derived.Test.YtfgcobigollfjaaDoorPureRouteWithin
namespace Go.Proofs.YtfgcobigollfjaaDoor.routeWithin
open Go.ChangeShapes Go.WideShapes Go.ChangeAt Go.RowKit Lx
open Go.ChangeMaps (open_string shut_string)
set_option linter.unusedVariables false
theorem own : ownKnob Tryd.prog.godebug = none := by kernel_rfl
theorem laidOut : laidOutB Tryd.prog = true := by kernel_rfl
set_option maxRecDepth 100000 in
theorem door_met (os : Os) (args : Array Value) : laidMetH Tryd.prog Rows.routeWithinRow.laid ((World.doorLaid Tryd.prog 400 os).forCall (fun _ _ => 0) ⟨#[], args, []⟩).memory :=
 laidMetH_of_parts3 (fuel := 8) (laidMet_of_run' 8 (by kernel_rfl) (by kernel_rfl)) (by kernel_rfl) (by kernel_rfl)
set_option maxRecDepth 100000 in
theorem lifted (os : Os) (started : os.Started) (H : Type) (enc : TypeId × Value → H) :
  ReturnsInHanded {} Tryd.checked os 6 .any (fun w args => (Rows.routeWithinSpec.pre enc Tryd.prog Tryd.f6 [] false w args ∧ laidMetH Tryd.prog Rows.routeWithinRow.laid w) ∧ sizedMet enc Tryd.prog Tryd.f6 (OpenSpec.ofChange Rows.routeWithinSpec) false w args) (Rows.routeWithinSpec.post enc Tryd.prog Tryd.f6 false true false false) := by
 refine returnsInHanded_of_change_and (C := Tryd.checked) (X := fun w _ => laidMetH Tryd.prog Rows.routeWithinRow.laid w) (fun _ _ _ hh h => h.of_heap hh) own started (by kernel_rfl) Tryd.func6
  (ChangeSpec.witness_shaped (enc := enc) (C := Tryd.checked) (os := os) (X := fun w _ => laidMetH Tryd.prog Rows.routeWithinRow.laid w) false (World.doorLaid Tryd.prog 400 os) #[.slice none 0 0, .slice none 0 0, .int .i64 0] 8 rfl (World.shaped_of_RefB (by kernel_rfl) (by kernel_rfl)) (by kernel_rfl) (by kernel_rfl) (by kernel_rfl) (door_met os _)) ?_
 intro W base args ds gs before hval0 hW hcnd hsz0 hL _
 have hsz : (DataW.weightsEach Tryd.prog (Tryd.f6.params.toList ++ Rows.routeWithinSpec.plain.varTypes Tryd.prog) (ds ++ gs)).all (· ≤ reachBytes) = true := hsz0
 have hval : ∀ (j : Nat) t v, Tryd.f6.params[j]? = some t → args[j]? = some v → Value.okWide Tryd.prog W .any base t v := hval0
 have hW' := hW
 obtain ⟨p, q, hA0, hV, rfl, hfz, hnd⟩ := hW
 have hA : DataW.TrodAll enc Tryd.prog W 0 (fun _ => true) true Tryd.f6.params.toList args.toList ds p := hA0
 rw [Tryd.params6] at hA hval hsz
 obtain ⟨v0, vs0, d0, ds0, p0, q0, hargs, rfl, rfl, h0, r0⟩ := trodAll_cons hA
 obtain ⟨v1, vs1, d1, ds1, p1, q1, rfl, rfl, rfl, h1, r1⟩ := trodAll_cons r0
 obtain ⟨v2, vs2, d2, ds2, p2, q2, rfl, rfl, rfl, h2, r2⟩ := trodAll_cons r1
 obtain ⟨rfl, rfl, rfl⟩ := trodAll_nil r2
 obtain rfl : args = #[v0, v1, v2] := by cases args; simp_all
 obtain ⟨rfl, rfl⟩ := trodVars_none hV
 have lt0 : ∀ x ∈ p0, x.block < W.heap.size := by obtain ⟨m, hm⟩ := h0; exact DataW.trod_lt m _ _ _ hm
 have sm0 : Small Tryd.prog 39 d0 := fun m hm => by simpa using List.all_eq_true.1 hsz m (DataW.weights_mem_each (j := 0) (t := 39) (d := d0) rfl rfl m hm)
 obtain ⟨u0, e0, g0⟩ := (OpensV.slice Tryd.underlying39 (by kernel_rfl) Op32) (hval 0 39 v0 rfl rfl) h0 sm0
 have lt1 : ∀ x ∈ p1, x.block < W.heap.size := by obtain ⟨m, hm⟩ := h1; exact DataW.trod_lt m _ _ _ hm
 have sm1 : Small Tryd.prog 54 d1 := fun m hm => by simpa using List.all_eq_true.1 hsz m (DataW.weights_mem_each (j := 1) (t := 54) (d := d1) rfl rfl m hm)
 obtain ⟨u1, e1, g1⟩ := (OpensV.slice Tryd.underlying54 (by kernel_rfl) Op65) (hval 1 54 v1 rfl rfl) h1 sm1
 have lt2 : ∀ x ∈ p2, x.block < W.heap.size := by obtain ⟨m, hm⟩ := h2; exact DataW.trod_lt m _ _ _ hm
 have sm2 : Small Tryd.prog 3 d2 := fun m hm => by simpa using List.all_eq_true.1 hsz m (DataW.weights_mem_each (j := 2) (t := 3) (d := d2) rfl rfl m hm)
 obtain ⟨u2, e2, g2⟩ := (OpensV.int Tryd.underlying3) (hval 2 3 v2 rfl rfl) h2 sm2
 obtain ⟨Wf, hr, hb⟩ := RouteWithin_true W u0 u1 u2 hL g0 g1 g2
 refine (show Calls Tryd.prog 6 _ W (fun e W' => e = .returned (.bool true) ∧ Below W.heap.size W W') from e0 ▸ e1 ▸ e2 ▸ Ref.answer (fun L_ => @weirlaw14_RouteWithin_ok L_ u0 u1 u2) hr hb).mono fun e W' ⟨he, bel⟩ => ?_
 subst he
 exact ⟨_, rfl, _, _, _, [], _, [], hW', trodAll_mk1 (shut_bool Tryd.underlying4 _), (trodAll_cons_mk (Below.trod laidOut (by kernel_rfl) (of_decide_eq_true (by kernel_rfl)) h0 bel lt0) (trodAll_cons_mk (Below.trod laidOut (by kernel_rfl) (of_decide_eq_true (by kernel_rfl)) h1 bel lt1) (trodAll_cons_mk (Below.trod laidOut (by kernel_rfl) (of_decide_eq_true (by kernel_rfl)) h2 bel lt2) trodAll_mk0))), rfl, bel.frame _, fun h => by cases h⟩
theorem over : Rows.routeWithinRow.holds Tryd.pinned (OpenSpec.ofChange Rows.routeWithinSpec) :=
 OpenClaim.holds_of_wide 6 Tryd.f6 rfl rfl rfl rfl rfl rfl rfl ⟨rfl, rfl, rfl, rfl, rfl⟩ rfl rfl rfl rfl rfl (by kernel_rfl) Tryd.func6 (by kernel_rfl)
  (of_decide_eq_true (by kernel_rfl)) (by unfold Func.isWrapper; first | (rw [if_pos (by decide +kernel)]; kernel_rfl) | (rw [if_neg (by decide +kernel)]; exact ⟨rfl, rfl⟩))
  (fun os started H enc _ => lifted os started H enc)
theorem proved : Rows.RouteWithinSaid := over
set_option maxRecDepth 100000 in
theorem carded : Rows.RouteWithinCardSaid :=
 Claim7.holds_tied_plain_at .later [] [.data] true (true, "c5978bd14b816e55c29204068f41b74d5ccfee58f590984c32eebb5080b15db6") false
  proved (fun _ h => by cases h) (by kernel_rfl) (fun _ h => by cases h) routeWithin_row_tie rfl ⟨rfl, rfl⟩ (by kernel_rfl) rfl
  (fun f fn hf hfn => by
   obtain rfl : f = 6 := Option.some.inj ((show Tryd.prog.funcNamed "weir/weirlaw14.RouteWithin" = some 6 by kernel_rfl).symm.trans hf) |>.symm
   obtain rfl : fn = Tryd.f6 := (Option.some.inj (Tryd.func6.symm.trans hfn)).symm
   exact ⟨by kernel_rfl, fun j t ht => by
    rw [Tryd.params6] at ht
    have hm : t ∈ [39, 54, 3] := by simpa using Array.mem_of_getElem? ht
    have hall : ([39, 54, 3].all fun u => !Tryd.prog.wantsStandIn u) = true := by kernel_rfl
    exact (show Tryd.prog.wantsStandIn t = false by simpa using List.all_eq_true.1 hall t hm)⟩)
  (by kernel_rfl)
end Go.Proofs.YtfgcobigollfjaaDoor.routeWithin
namespace Go.Proofs.YtfgcobigollfjaaDoor
/-- The row, under a short name, for the claim. -/
theorem routeWithin_holds : Rows.RouteWithinCardSaid := routeWithin.carded
#print axioms routeWithin_holds
end Go.Proofs.YtfgcobigollfjaaDoor
