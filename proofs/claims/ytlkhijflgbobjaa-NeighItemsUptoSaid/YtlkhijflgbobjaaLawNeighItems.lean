/- The law NeighItems: the given statement, out of the program's Lean form and the pure theorem. Printed by lawgen.py. -/
import Derived.Deep.CondSized
import Derived.Test.YtlkhijflgbobjaaRows
import Derived.Test.YtlkhijflgbobjaaPureNeighItems
namespace Go.Proofs.Ytlkhijflgbobjaa.neighItems
open Go.ChangeShapes Go.WideShapes Go.ChangeAt Go.RowKit Lx
open Go.ChangeMaps (open_string shut_string)
set_option linter.unusedVariables false
theorem own : ownKnob Try.prog.godebug = none := by kernel_rfl
theorem laidOut : laidOutB Try.prog = true := by kernel_rfl
theorem one_le {H : Type} (d : DataW H) : 1 ≤ Rows.uptoBulk d := by
  cases d with
  | lit l => cases l <;> simp [Rows.uptoBulk]
  | nil => simp [Rows.uptoBulk]
  | ptr d => simp [Rows.uptoBulk]
  | slice elems spare => simp [Rows.uptoBulk]
  | agg parts => simp [Rows.uptoBulk]
  | iface t d => simp [Rows.uptoBulk]
  | map entries => simp [Rows.uptoBulk]
  | held h => simp [Rows.uptoBulk]
theorem length_le {H : Type} (l : List (DataW H)) : l.length ≤ Rows.uptoBulkAll l := by
  induction l with
  | nil => simp [Rows.uptoBulkAll]
  | cons x r ih => have := one_le x; simp only [Rows.uptoBulkAll, List.length_cons]; omega
theorem upto_slice {P : Program} {T e : TypeId} (h : P.underlying T = some (.slice e)) {H : Type} {enc : TypeId × Value → H} {W : World} {u : Sl} {d : DataW H} {ps : List MemPlace} (hd : DataW.Trod enc P W 0 (fun _ => true) true T u.v d ps) (hb : Rows.uptoBulk d ≤ 1048576) : u.len ≤ 1048576 := by
  obtain ⟨fuel, hf⟩ := hd
  rcases DataW.trod_slice h hf with ⟨e1, _⟩ | ⟨a, len, cap, elems, rest, n, _, e1, e2, _, hl, hm, hlen, _⟩
  · have : [u.v] = [Value.slice none 0 0] := e1
    have := congrArg (fun l : List Value => match l with | [.slice _ n _] => n | _ => 0) this
    have : u.len = 0 := this
    omega
  · have : [u.v] = [Value.slice (some a) len cap] := e1
    have := congrArg (fun l : List Value => match l with | [.slice _ n _] => n | _ => 0) this
    have : u.len = len := this
    have h2 := length_le (elems.map fun x => x.1)
    rw [List.length_map] at h2
    cases e2
    simp only [Rows.uptoBulk] at hb
    omega
set_option maxRecDepth 100000 in
theorem lifted (os : Os) (started : os.Started) (H : Type) (enc : TypeId × Value → H) (F : Stop.Interp) :
    ReturnsInHanded {} Try.checked os 5 .any ((Rows.OpenSpec.upto Rows.neighItemsSpec).pre6 enc Try.prog Try.f5 Rows.neighItemsUptoRow.domain false) (((Rows.OpenSpec.upto Rows.neighItemsSpec).at F).post enc Try.prog Try.f5 false true false false) := by
  refine returnsInHanded_of_cond_sized (C := Try.checked) (s := Rows.OpenSpec.upto Rows.neighItemsSpec) (k := Rows.uptoSmall) rfl own started (by kernel_rfl) Try.func5
    (OpenSpec.witness (enc := enc) (C := Try.checked) (s := Rows.OpenSpec.upto Rows.neighItemsSpec) (k := Rows.uptoSmall) rfl false ⟨#[], #[c_api_NeighConfig.val z_api_NeighConfig, .slice none 0 0], []⟩ 8 (by kernel_rfl) (by kernel_rfl) (by kernel_rfl)
      (x := ([.agg [.lit (.int .i64 0), .lit (.int .i64 0), .lit (.int .i64 0), .lit (.int .i64 0), .lit (.int .i64 0)], .nil], [], [])) (by kernel_rfl) (by kernel_rfl) (by kernel_rfl)) ?_
  intro W base args ds gs before hval0 hW hcnd hsmall hsz0 _
  have hsz : (DataW.weightsEach Try.prog (Try.f5.params.toList ++ Rows.neighItemsSpec.plain.varTypes Try.prog) (ds ++ gs)).all (· ≤ reachBytes) = true := hsz0
  have hval : ∀ (j : Nat) t v, Try.f5.params[j]? = some t → args[j]? = some v → Value.okWide Try.prog W .any base t v := hval0
  have hW' := hW
  obtain ⟨p, q, hA0, hV, rfl, hfz, hnd⟩ := hW
  have hA : DataW.TrodAll enc Try.prog W 0 (fun _ => true) true Try.f5.params.toList args.toList ds p := hA0
  rw [Try.params5] at hA hval hsz
  obtain ⟨v0, vs0, d0, ds0, p0, q0, hargs, rfl, rfl, h0, r0⟩ := trodAll_cons hA
  obtain ⟨v1, vs1, d1, ds1, p1, q1, rfl, rfl, rfl, h1, r1⟩ := trodAll_cons r0
  obtain ⟨rfl, rfl, rfl⟩ := trodAll_nil r1
  obtain rfl : args = #[v0, v1] := by cases args; simp_all
  obtain ⟨rfl, rfl⟩ := trodVars_none hV
  have lt0 : ∀ x ∈ p0, x.block < W.heap.size := by obtain ⟨m, hm⟩ := h0; exact DataW.trod_lt m _ _ _ hm
  have sm0 : Small Try.prog 23 d0 := fun m hm => by simpa using List.all_eq_true.1 hsz m (DataW.weights_mem_each (j := 0) (t := 23) (d := d0) rfl rfl m hm)
  obtain ⟨u0, e0, g0⟩ := (OpensV.agg Op23 rfl (by kernel_rfl)) (hval 0 23 v0 rfl rfl) h0 sm0
  have lt1 : ∀ x ∈ p1, x.block < W.heap.size := by obtain ⟨m, hm⟩ := h1; exact DataW.trod_lt m _ _ _ hm
  have sm1 : Small Try.prog 24 d1 := fun m hm => by simpa using List.all_eq_true.1 hsz m (DataW.weights_mem_each (j := 1) (t := 24) (d := d1) rfl rfl m hm)
  obtain ⟨u1, e1, g1⟩ := (OpensV.slice Try.underlying24 (by kernel_rfl) Op36) (hval 1 24 v1 rfl rfl) h1 sm1
  have hbulk : Rows.uptoBulkAll ([d0, d1] : List (DataW H)) ≤ 1048576 := of_decide_eq_true (show Rows.uptoSmall H [d0, d1] = true by simpa using hsmall)
  simp only [Rows.uptoBulkAll] at hbulk
  have b1 : u1.len ≤ 1048576 := upto_slice Try.underlying24 (u := u1) (by rw [e1] at h1; exact h1) (by omega)
  obtain ⟨Wf, hr, hb⟩ := NeighItems_true W u0 u1 g0 g1 b1
  refine (show Calls Try.prog 5 _ W (fun e W' => e = .returned (.bool true) ∧ Below W.heap.size W W') from e0 ▸ e1 ▸ Ref.answer (weirlaw15_NeighItems_ok u0 u1) hr hb).mono fun e W' ⟨he, bel⟩ => ?_
  subst he
  exact ⟨_, rfl, _, _, _, [], _, [], hW', trodAll_mk1 (shut_bool Try.underlying4 _), (trodAll_cons_mk (Below.trod laidOut (by kernel_rfl) (of_decide_eq_true (by kernel_rfl)) h0 bel lt0) (trodAll_cons_mk (Below.trod laidOut (by kernel_rfl) (of_decide_eq_true (by kernel_rfl)) h1 bel lt1) trodAll_mk0)), rfl, bel.frame _, fun h => by cases h⟩
theorem proved : Rows.NeighItemsUptoSaid :=
  OpenClaim.holds_of_cond 5 Try.f5 rfl rfl rfl rfl rfl rfl rfl ⟨rfl, rfl, rfl, rfl, rfl⟩ rfl rfl rfl rfl rfl (by kernel_rfl) Try.func5 (by kernel_rfl)
    (of_decide_eq_true (by kernel_rfl)) (by unfold Func.isWrapper; first | (rw [if_pos (by decide +kernel)]; kernel_rfl) | (rw [if_neg (by decide +kernel)]; exact ⟨rfl, rfl⟩))
    (fun os started H enc _ F => lifted os started H enc F)
end Go.Proofs.Ytlkhijflgbobjaa.neighItems
namespace Go.Proofs.Ytlkhijflgbobjaa
/-- The row, under a short name, for the claim. -/
theorem neighItems_holds : Rows.NeighItemsUptoSaid := neighItems.proved
#print axioms neighItems_holds
end Go.Proofs.Ytlkhijflgbobjaa
