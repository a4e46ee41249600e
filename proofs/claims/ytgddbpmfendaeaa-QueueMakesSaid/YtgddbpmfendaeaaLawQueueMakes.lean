/- The law QueueMakes: the given statement, out of the program's Lean form and the pure theorem. Printed by lawgen.py. -/
import Derived.Test.YtgddbpmfendaeaaRows
import Derived.Test.YtgddbpmfendaeaaPureQueueMakes
namespace Go.Proofs.Ytgddbpmfendaeaa.queueMakes
open Go.ChangeShapes Go.WideShapes Go.ChangeAt Go.RowKit Lx
open Go.ChangeMaps (open_string shut_string)
set_option linter.unusedVariables false
theorem own : ownKnob Try.prog.godebug = none := by kernel_rfl
theorem laidOut : laidOutB Try.prog = true := by kernel_rfl
set_option maxRecDepth 100000 in
theorem lifted (os : Os) (started : os.Started) (H : Type) (enc : TypeId × Value → H) :
    ReturnsInHanded {} Try.checked os 10 .any (Rows.queueMakesSpec.pre6 enc Try.prog Try.f10 Rows.queueMakesRow.domain false) (Rows.queueMakesSpec.post enc Try.prog Try.f10 false true false false) := by
  refine returnsInHanded_of_change_sized (C := Try.checked) own started (by kernel_rfl) Try.func10
    (ChangeSpec.witness6 (enc := enc) (C := Try.checked) false ⟨#[], #[.slice none 0 0], []⟩ 8 (by kernel_rfl) (by kernel_rfl) (by kernel_rfl) (by kernel_rfl)) ?_
  intro W base args ds gs before hval0 hW hcnd hsz0 _
  have hsz : (DataW.weightsEach Try.prog (Try.f10.params.toList ++ Rows.queueMakesSpec.plain.varTypes Try.prog) (ds ++ gs)).all (· ≤ reachBytes) = true := hsz0
  have hval : ∀ (j : Nat) t v, Try.f10.params[j]? = some t → args[j]? = some v → Value.okWide Try.prog W .any base t v := hval0
  have hW' := hW
  obtain ⟨p, q, hA0, hV, rfl, hfz, hnd⟩ := hW
  have hA : DataW.TrodAll enc Try.prog W 0 (fun _ => true) true Try.f10.params.toList args.toList ds p := hA0
  rw [Try.params10] at hA hval hsz
  obtain ⟨v0, vs0, d0, ds0, p0, q0, hargs, rfl, rfl, h0, r0⟩ := trodAll_cons hA
  obtain ⟨rfl, rfl, rfl⟩ := trodAll_nil r0
  obtain rfl : args = #[v0] := by cases args; simp_all
  obtain ⟨rfl, rfl⟩ := trodVars_none hV
  have lt0 : ∀ x ∈ p0, x.block < W.heap.size := by obtain ⟨m, hm⟩ := h0; exact DataW.trod_lt m _ _ _ hm
  have sm0 : Small Try.prog 27 d0 := fun m hm => by simpa using List.all_eq_true.1 hsz m (DataW.weights_mem_each (j := 0) (t := 27) (d := d0) rfl rfl m hm)
  obtain ⟨u0, e0, g0⟩ := (OpensV.slice Try.underlying27 (by kernel_rfl) Op41) (hval 0 27 v0 rfl rfl) h0 sm0
  obtain ⟨Wf, hr, hb⟩ := QueueMakes_true W u0 g0
  refine (show Calls Try.prog 10 _ W (fun e W' => e = .returned (.bool true) ∧ Below W.heap.size W W') from e0 ▸ Ref.answer (weirlaw18_QueueMakes_ok u0) hr hb).mono fun e W' ⟨he, bel⟩ => ?_
  subst he
  exact ⟨_, rfl, _, _, _, [], _, [], hW', trodAll_mk1 (shut_bool Try.underlying4 _), (trodAll_cons_mk (Below.trod laidOut (by kernel_rfl) (of_decide_eq_true (by kernel_rfl)) h0 bel lt0) trodAll_mk0), rfl, bel.frame _, fun h => by cases h⟩
theorem over : Rows.queueMakesRow.holds Try.pinned (OpenSpec.ofChange Rows.queueMakesSpec) :=
  OpenClaim.holds_of_wide 10 Try.f10 rfl rfl rfl rfl rfl rfl rfl ⟨rfl, rfl, rfl, rfl, rfl⟩ rfl rfl rfl rfl rfl (by kernel_rfl) Try.func10 (by kernel_rfl)
    (of_decide_eq_true (by kernel_rfl)) (by unfold Func.isWrapper; first | (rw [if_pos (by decide +kernel)]; kernel_rfl) | (rw [if_neg (by decide +kernel)]; exact ⟨rfl, rfl⟩))
    (fun os started H enc _ => lifted os started H enc)
theorem proved : Rows.QueueMakesSaid := over
end Go.Proofs.Ytgddbpmfendaeaa.queueMakes
namespace Go.Proofs.Ytgddbpmfendaeaa
/-- The row, under a short name, for the claim. -/
theorem queueMakes_holds : Rows.QueueMakesSaid := queueMakes.proved
#print axioms queueMakes_holds
end Go.Proofs.Ytgddbpmfendaeaa
