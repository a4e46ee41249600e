/- The law AddrOrder, of its program in the M-world: 'Less' is a strict order of addresses: for any three it answers true, and nothing that was there is turned. -/
import Derived.Test.YtgddbpmfendaeaaLxPA0
import Derived.Test.YtgddbpmfendaeaaLxQA
import Derived.Test.YtgddbpmfendaeaaLxW
set_option linter.unusedVariables false
set_option linter.unusedSimpArgs false
namespace Go.Proofs.Ytgddbpmfendaeaa.Lx
open Go Go.Proofs Go.RowKit

/-- rows compared from the left -/
def lexB : List Int → List Int → Bool
  | x :: l, y :: m => if x = y then lexB l m else decide (x < y)
  | _, _ => false
theorem lexB_self : ∀ l, lexB l l = false
  | [] => rfl
  | x :: l => by simp [lexB, lexB_self l]
theorem lexB_both : ∀ l m : List Int, l.length = m.length → (lexB l m != lexB m l) = decide (l ≠ m)
  | [], [], _ => rfl
  | x :: l, y :: m, h => by
    have ih := lexB_both l m (by simpa using h)
    by_cases e : x = y
    · subst e
      simpa [lexB] using ih
    · have e' : ¬ y = x := fun h => e h.symm
      simp only [lexB, if_neg e, if_neg e', List.cons.injEq, e, false_and, not_false_eq_true, decide_true, ne_eq]
      by_cases h1 : x < y
      · have : ¬ y < x := by omega
        simp [h1, this]
      · have : y < x := by omega
        simp [h1, this]
  | [], _ :: _, h => by cases h
  | _ :: _, [], h => by cases h
theorem lexB_asym : ∀ l m : List Int, lexB l m = true → lexB m l = false
  | [], _, h => by simp [lexB] at h
  | _ :: _, [], h => by simp [lexB] at h
  | x :: l, y :: m, h => by
    simp only [lexB] at h ⊢
    by_cases e : x = y
    · subst e
      simp only [if_true] at h ⊢
      exact lexB_asym l m h
    · have e' : ¬ y = x := fun h => e h.symm
      rw [if_neg e] at h
      rw [if_neg e']
      simp only [decide_eq_true_eq, decide_eq_false_iff_not] at h ⊢
      omega
theorem lexB_trans : ∀ l m k : List Int, lexB l m = true → lexB m k = true → lexB l k = true
  | [], _, _, h, _ => by simp [lexB] at h
  | _ :: _, [], _, h, _ => by simp [lexB] at h
  | _ :: _, _ :: _, [], _, h => by simp [lexB] at h
  | x :: l, y :: m, z :: k, h, h' => by
    simp only [lexB] at h h' ⊢
    by_cases e : x = y
    · subst e
      simp only [if_true] at h
      by_cases e2 : x = z
      · subst e2
        simp only [if_true] at h' ⊢
        exact lexB_trans l m k h h'
      · rw [if_neg e2] at h' ⊢
        exact h'
    · rw [if_neg e] at h
      simp only [decide_eq_true_eq] at h
      by_cases e2 : y = z
      · subst e2
        rw [if_neg e]
        simpa using h
      · rw [if_neg e2] at h'
        simp only [decide_eq_true_eq] at h'
        rw [if_neg (by omega)]
        simp only [decide_eq_true_eq]
        omega
def lessB (a b : api_IP) : Bool := if a.V ≠ b.V then decide (a.V < b.V) else lexB a.A.l b.A.l
theorem lessB_self (a : api_IP) : lessB a a = false := by simp [lessB, lexB_self]
theorem api_IP_eq {a b : api_IP} : a = b ↔ a.V = b.V ∧ a.A.l = b.A.l := by
  constructor
  · rintro rfl
    exact ⟨rfl, rfl⟩
  · rintro ⟨h1, h2⟩
    cases a
    cases b
    simp only at h1 h2
    subst h1
    rw [Vec.eq h2]
theorem lessB_both (a b : api_IP) : (lessB a b != lessB b a) = decide (a ≠ b) := by
  unfold lessB
  by_cases e : a.V = b.V
  · have e' : ¬ b.V ≠ a.V := fun h => h e.symm
    have e2 : ¬ a.V ≠ b.V := fun h => h e
    rw [if_neg e2, if_neg e', lexB_both _ _ (by rw [a.A.h, b.A.h])]
    rw [decide_eq_decide]
    rw [ne_eq, ne_eq, not_congr]
    rw [api_IP_eq]
    simp [e]
  · have e' : b.V ≠ a.V := fun h => e h.symm
    rw [if_pos e, if_pos e']
    have : a ≠ b := fun h => e (by rw [h])
    simp only [this, ne_eq, not_false_eq_true, decide_true]
    by_cases h1 : a.V < b.V
    · have : ¬ b.V < a.V := by omega
      simp [h1, this]
    · have : b.V < a.V := by omega
      simp [h1, this]
theorem lessB_asym (a b : api_IP) (h : lessB a b = true) : lessB b a = false := by
  unfold lessB at *
  by_cases e : a.V = b.V
  · simp only [e, ne_eq, not_true, if_false] at h ⊢
    exact lexB_asym _ _ h
  · have e' : b.V ≠ a.V := fun h => e h.symm
    rw [if_pos e] at h
    rw [if_pos e']
    simp only [decide_eq_true_eq, decide_eq_false_iff_not] at h ⊢
    omega
theorem lessB_trans (a b c : api_IP) (h : lessB a b = true) (h' : lessB b c = true) : lessB a c = true := by
  unfold lessB at *
  by_cases e : a.V = b.V
  · rw [if_neg (fun k => k e)] at h
    by_cases e2 : b.V = c.V
    · rw [if_neg (fun k => k e2)] at h'
      rw [if_neg (fun k => k (e.trans e2))]
      exact lexB_trans _ _ _ h h'
    · rw [if_pos e2] at h'
      rw [if_pos (by rw [e]; exact e2), e]
      exact h'
  · rw [if_pos e] at h
    simp only [decide_eq_true_eq] at h
    by_cases e2 : b.V = c.V
    · rw [if_pos (by rw [← e2]; exact e), ← e2]
      simpa using h
    · rw [if_pos e2] at h'
      simp only [decide_eq_true_eq] at h'
      rw [if_pos (by omega)]
      simp only [decide_eq_true_eq]
      omega
theorem drop_getD (l : List Int) (n : Nat) (h : n < l.length) : l.drop n = l.getD n 0 :: l.drop (n + 1) := by
  rw [List.drop_eq_getElem_cons h]
  simp [List.getD, h]
theorem addr_Less_wp (a b : api_IP) (w : World) : WP (addr_Less a b) w (fun r w' => r = lessB a b ∧ Below w.heap.size w w') := by
  unfold addr_Less
  refine WP.slot (WP.slot ?_)
  have hb : Below w.heap.size w ((w.alloc (.cells #[] 24)).alloc (.cells #[] 24)) := below_then (below_alloc _) (below_alloc _)
  revert hb
  generalize ((w.alloc (.cells #[] 24)).alloc (.cells #[] 24)) = w1
  intro hb
  refine WP.ite (fun h => ?_) (fun h => ?_)
  · exact WP.ret ⟨by rw [lessB, if_pos h], hb⟩
  · rw [show lessB a b = lexB a.A.l b.A.l by rw [lessB, if_neg h]]
    have la := a.A.h
    have lb := b.A.h
    refine WP.loop (fun s w2 => 0 ≤ s ∧ s ≤ 16 ∧ lexB a.A.l b.A.l = lexB (a.A.l.drop s.toNat) (b.A.l.drop s.toNat) ∧ Below w.heap.size w w2) (fun s _ => (16 - s).toNat) ⟨by omega, by omega, rfl, hb⟩ ?_
    rintro s w2 ⟨h0, h1, he, hw⟩
    unfold addr_Less.L1
    refine WP.ite (fun h => ?_) (fun h => ?_)
    · refine WP.draw (WP.chk ⟨h0, by omega⟩ (WP.chk ⟨h0, by omega⟩ ?_))
      rw [drop_getD a.A.l s.toNat (by omega), drop_getD b.A.l s.toNat (by omega)] at he
      refine WP.ite (fun h => ?_) (fun h => ?_)
      · refine WP.draw (WP.chk ⟨h0, by omega⟩ (WP.chk ⟨h0, by omega⟩ (WP.done ⟨?_, hw.trans ⟨rfl, rfl, rfl, Nat.le_refl _, fun _ _ => rfl⟩⟩)))
        rw [he]
        simp only [lexB]
        exact (if_neg h).symm
      · refine WP.next ?_
        simp only [Vec.g, ne_eq, Decidable.not_not] at h
        rw [wrap_i64 (by omega) (by omega)]
        refine ⟨⟨by omega, by omega, ?_, hw.trans ⟨rfl, rfl, rfl, Nat.le_refl _, fun _ _ => rfl⟩⟩, by omega⟩
        rw [he, show (s + 1).toNat = s.toNat + 1 by omega]
        simp only [lexB]
        exact if_pos h
    · refine WP.done ⟨?_, hw⟩
      have : s.toNat = 16 := by omega
      rw [he, this, List.drop_of_length_le (by omega), List.drop_of_length_le (by omega)]
      rfl
theorem lessB_46 : lessB (⟨4, z_api_IP.A⟩ : api_IP) (⟨6, z_api_IP.A⟩ : api_IP) = true := rfl

theorem AddrOrder_true : ∀ (W : World) (u0 : api_IP) (u1 : api_IP) (u2 : api_IP), (G24 W u0) → (G24 W u1) → (G24 W u2) → ∃ W', weirlaw4_AddrOrder u0 u1 u2 W = some (true, W') ∧ Below W.heap.size W W' := by
  intro W a b c _ _ _
  have main : WP (weirlaw4_AddrOrder a b c) W (fun r W' => r = true ∧ Below W.heap.size W W') := by
    unfold weirlaw4_AddrOrder
    refine WP.slot (WP.slot (WP.slot ?_))
    have hb : Below W.heap.size W (((W.alloc (.cells #[] 24)).alloc (.cells #[] 24)).alloc (.cells #[] 24)) := below_then (below_then (below_alloc _) (below_alloc _)) (below_alloc _)
    refine WP.step (addr_Less_wp a b _) ?_
    rintro _ w1 ⟨rfl, h1⟩
    replace hb := below_then hb h1
    refine WP.step (addr_Less_wp b a _) ?_
    rintro _ w2 ⟨rfl, h1⟩
    replace hb := below_then hb h1
    refine WP.step (addr_Less_wp b c _) ?_
    rintro _ w3 ⟨rfl, h1⟩
    replace hb := below_then hb h1
    refine WP.step (addr_Less_wp a c _) ?_
    rintro _ w4 ⟨rfl, h1⟩
    replace hb := below_then hb h1
    refine WP.step (addr_Less_wp _ _ _) ?_
    rintro _ w5 ⟨rfl, h1⟩
    replace hb := below_then hb h1
    rw [lessB_46, if_pos rfl]
    refine WP.step (R := fun r w' => r = true ∧ Below W.heap.size W w') (WP.step (addr_Less_wp _ _ _) ?_) ?_
    · rintro _ w6 ⟨rfl, h1⟩
      exact WP.ret ⟨by rw [lessB_self]; rfl, below_then hb h1⟩
    rintro _ w6 ⟨rfl, h2⟩
    rw [if_pos rfl]
    refine WP.step (R := fun r w' => r = true ∧ w6 = w') (WP.ret ⟨?_, rfl⟩) ?_
    · have := lessB_both a b
      rw [show (!(lessB a b == lessB b a)) = (lessB a b != lessB b a) from rfl, this]
      rw [show (!eqv a b) = decide (a ≠ b) by rw [Bool.eq_iff_iff]; simp [eqv]]
      simp
    rintro _ _ ⟨rfl, rfl⟩
    rw [if_pos rfl]
    refine WP.step (R := fun r w' => r = true ∧ w6 = w') (WP.step (R := fun r w' => r = false ∧ w6 = w') ?_ ?_) ?_
    · refine WP.ite (fun h => WP.ret ⟨lessB_asym _ _ h, rfl⟩) (fun _ => WP.ret ⟨rfl, rfl⟩)
    · rintro _ _ ⟨rfl, rfl⟩
      exact WP.ret ⟨rfl, rfl⟩
    rintro _ _ ⟨rfl, rfl⟩
    rw [if_pos rfl]
    refine WP.step (R := fun r w' => r = true ∧ w6 = w') ?_ ?_
    · refine WP.step (R := fun r w' => (r = true ∨ lessB a c = true) ∧ w6 = w') ?_ ?_
      · refine WP.ite (fun h => WP.ret ⟨.inl rfl, rfl⟩) (fun h => WP.ret ⟨?_, rfl⟩)
        simp only [Decidable.not_not] at h
        cases hbc : lessB b c with
        | false => exact .inl rfl
        | true => exact .inr (lessB_trans a b c h hbc)
      rintro r _ ⟨h, rfl⟩
      refine WP.step (R := fun r w' => r = true ∧ w6 = w') ?_ ?_
      · refine WP.ite (fun h => WP.ret ⟨rfl, rfl⟩) (fun h' => WP.ret ⟨h.resolve_left h', rfl⟩)
      rintro _ _ ⟨rfl, rfl⟩
      exact WP.ret ⟨rfl, rfl⟩
    rintro _ _ ⟨rfl, rfl⟩
    exact WP.ret ⟨rfl, h2⟩
  obtain ⟨r, W', h1, rfl, h2⟩ := main
  exact ⟨W', h1, h2⟩
end Go.Proofs.Ytgddbpmfendaeaa.Lx
