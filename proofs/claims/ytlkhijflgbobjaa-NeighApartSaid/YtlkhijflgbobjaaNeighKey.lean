/- Neighbours' keys and their order; the functions that compare them. -/
import Derived.Test.YtlkhijflgbobjaaNeighSort5
import Derived.Test.YtlkhijflgbobjaaLxO
import Derived.Test.YtlkhijflgbobjaaLxY
set_option linter.unusedVariables false
set_option linter.unusedSimpArgs false
namespace Go.Proofs.Ytlkhijflgbobjaa.Lx
open Go Go.Proofs Go.RowKit
def llt : List Int → List Int → Bool
  | a :: x, b :: y => if a = b then llt x y else decide (a < b)
  | [], _ :: _ => true
  | _, [] => false
theorem llt_irrefl : ∀ l, llt l l = false
  | [] => rfl
  | a :: l => by simp [llt, llt_irrefl l]
theorem llt_trans : ∀ x y z, llt x y = true → llt y z = true → llt x z = true
  | [], [], _, h, _ => by simp [llt] at h
  | _ :: _, [], _, h, _ => by simp [llt] at h
  | _, _ :: _, [], _, h => by simp [llt] at h
  | [], _ :: _, _ :: _, _, _ => rfl
  | a :: x, b :: y, c :: z, h, h' => by
    unfold llt at h h' ⊢
    split at h <;> split at h'
    · subst_vars
      rw [if_pos rfl]
      exact llt_trans x y z h h'
    · subst_vars
      rw [if_neg ‹_›]
      exact h'
    · subst_vars
      rw [if_neg ‹_›]
      exact h
    · have h := of_decide_eq_true h
      have h' := of_decide_eq_true h'
      rw [if_neg (by omega)]
      exact decide_eq_true (by omega)
theorem llt_total : ∀ x y, llt x y = false → llt y x = false → x = y
  | [], [], _, _ => rfl
  | _ :: _, [], _, h => by simp [llt] at h
  | [], _ :: _, h, _ => by simp [llt] at h
  | a :: x, b :: y, h, h' => by
    unfold llt at h h'
    by_cases e : a = b
    · subst e
      rw [if_pos rfl] at h h'
      rw [llt_total x y h h']
    · rw [if_neg e] at h
      rw [if_neg (fun h => e h.symm)] at h'
      have h := of_decide_eq_false h
      have h' := of_decide_eq_false h'
      omega
theorem llt_at : ∀ {x y : List Int} {i : Nat} {a b : Int}, (∀ j, j < i → x[j]? = y[j]?) → x[i]? = some a → y[i]? = some b → a ≠ b → llt x y = decide (a < b)
  | [], _, i, a, b, _, h, _, _ => by simp at h
  | _ :: _, [], i, a, b, _, _, h, _ => by simp at h
  | c :: x, d :: y, 0, a, b, _, h1, h2, hne => by
    simp only [List.getElem?_cons_zero, Option.some.injEq] at h1 h2
    subst h1 h2
    unfold llt
    rw [if_neg hne]
  | c :: x, d :: y, i + 1, a, b, h, h1, h2, hne => by
    have h0 := h 0 (by omega)
    simp only [List.getElem?_cons_zero, Option.some.injEq] at h0
    subst h0
    unfold llt
    rw [if_pos rfl]
    refine llt_at (i := i) (fun j hj => ?_) (by simpa using h1) (by simpa using h2) hne
    have := h (j + 1) (by omega)
    simpa using this
def ilt (p q : api_IP) : Bool := if p.V = q.V then llt p.A.l q.A.l else decide (p.V < q.V)
def klt (p q : neigh_key) : Bool := if p.port = q.port then ilt p.ip q.ip else decide (p.port < q.port)
theorem ilt_irrefl (p : api_IP) : ilt p p = false := by unfold ilt; rw [if_pos rfl]; exact llt_irrefl _
theorem klt_irrefl (p : neigh_key) : klt p p = false := by unfold klt; rw [if_pos rfl]; exact ilt_irrefl _
theorem ilt_trans (x y z : api_IP) (h : ilt x y = true) (h' : ilt y z = true) : ilt x z = true := by
  unfold ilt at *
  split at h <;> split at h'
  · rw [if_pos (by omega)]
    exact llt_trans _ _ _ h h'
  · have h' := of_decide_eq_true h'
    rw [if_neg (by omega)]
    exact decide_eq_true (by omega)
  · have h := of_decide_eq_true h
    rw [if_neg (by omega)]
    exact decide_eq_true (by omega)
  · have h := of_decide_eq_true h
    have h' := of_decide_eq_true h'
    rw [if_neg (by omega)]
    exact decide_eq_true (by omega)
theorem klt_trans (x y z : neigh_key) (h : klt x y = true) (h' : klt y z = true) : klt x z = true := by
  unfold klt at *
  split at h <;> split at h'
  · rw [if_pos (by omega)]
    exact ilt_trans _ _ _ h h'
  · have h' := of_decide_eq_true h'
    rw [if_neg (by omega)]
    exact decide_eq_true (by omega)
  · have h := of_decide_eq_true h
    rw [if_neg (by omega)]
    exact decide_eq_true (by omega)
  · have h := of_decide_eq_true h
    have h' := of_decide_eq_true h'
    rw [if_neg (by omega)]
    exact decide_eq_true (by omega)
theorem ilt_total (x y : api_IP) (h : ilt x y = false) (h' : ilt y x = false) : x = y := by
  unfold ilt at *
  split at h
  · rename_i e
    rw [if_pos e.symm] at h'
    have := Vec.eq (llt_total _ _ h h')
    cases x; cases y
    simp only at e this
    rw [e, this]
  · rename_i e
    rw [if_neg (fun h => e h.symm)] at h'
    have h := of_decide_eq_false h
    have h' := of_decide_eq_false h'
    omega
theorem klt_total (x y : neigh_key) (h : klt x y = false) (h' : klt y x = false) : x = y := by
  unfold klt at *
  split at h
  · rename_i e
    rw [if_pos e.symm] at h'
    have := ilt_total _ _ h h'
    cases x; cases y
    simp only at e this
    rw [e, this]
  · rename_i e
    rw [if_neg (fun h => e h.symm)] at h'
    have h := of_decide_eq_false h
    have h' := of_decide_eq_false h'
    omega
theorem klt_asymm {x y : neigh_key} (h : klt x y = true) : klt y x = false := by
  cases h' : klt y x with
  | false => rfl
  | true =>
    have := klt_trans _ _ _ h h'
    rw [klt_irrefl] at this
    cases this
theorem swo_klt {α : Type} (f : α → neigh_key) : Go.Sort.SWO (fun x y => klt (f x) (f y)) where
  irrefl := fun x => klt_irrefl _
  trans := fun x y z h h' => klt_trans _ _ _ h h'
  ntrans := fun x y z h h' => by
    cases h2 : klt (f x) (f z) with
    | false => rfl
    | true =>
      -- y is none of them
      cases h3 : klt (f y) (f x) with
      | true =>
        have := klt_trans _ _ _ h3 h2
        rw [h'] at this
        cases this
      | false =>
        rw [klt_total _ _ h h3] at h2
        rw [h'] at h2
        cases h2
abbrev Bts (l : List Int) : Prop := ∀ x ∈ l, 0 ≤ x ∧ x ≤ 255
theorem bstr_at {xs : List Int} {i : Nat} (h : i < xs.length) : (bstr xs)[i]! = UInt8.ofNat (xs[i].toNat) := by
  have h2 : i < (bstr xs).size := by
    show i < (bstr xs).data.size
    simp [bstr, h]
  rw [getElem!_pos (bstr xs) i h2]
  show (bstr xs).data[i] = _
  simp [bstr]
theorem bstr_size (xs : List Int) : (bstr xs).size = xs.length := by
  show (bstr xs).data.size = _
  simp [bstr]
theorem u8_lt {x y : Int} (hx : 0 ≤ x ∧ x ≤ 255) (hy : 0 ≤ y ∧ y ≤ 255) : UInt8.ofNat x.toNat < UInt8.ofNat y.toNat ↔ x < y := by
  rw [UInt8.lt_iff_toNat_lt, UInt8.toNat_ofNat', UInt8.toNat_ofNat']
  omega
theorem u8_eq {x y : Int} (hx : 0 ≤ x ∧ x ≤ 255) (hy : 0 ≤ y ∧ y ≤ 255) : UInt8.ofNat x.toNat = UInt8.ofNat y.toNat ↔ x = y := by
  constructor
  · intro h
    have := congrArg UInt8.toNat h
    rw [UInt8.toNat_ofNat', UInt8.toNat_ofNat'] at this
    omega
  · rintro rfl
    rfl
theorem cmp_llt {xs ys : List Int} (hx : Bts xs) (hy : Bts ys) (hl : xs.length = ys.length) : decide (Extern.BytealgCompare.cmp (bstr xs) (bstr ys) < 0) = llt xs ys := by
  unfold Extern.BytealgCompare.cmp
  rw [bstr_size, bstr_size, hl, Nat.min_self]
  have hat : ∀ i, i < ys.length → ((bstr xs)[i]! = (bstr ys)[i]! ↔ xs[i]? = ys[i]?) := by
    intro i hi
    rw [bstr_at (by omega), bstr_at hi, u8_eq (hx _ (List.getElem_mem _)) (hy _ (List.getElem_mem _)), List.getElem?_eq_getElem hi, List.getElem?_eq_getElem (by omega), Option.some.injEq]
  split
  · rename_i i hi
    rw [List.find?_range_eq_some] at hi
    obtain ⟨h1, h2, h3⟩ := hi
    have hi := List.mem_range.1 h2
    simp only [bne_iff_ne, ne_eq] at h1
    have hne : xs[i] ≠ ys[i] := fun h => h1 ((hat i hi).2 (by rw [List.getElem?_eq_getElem hi, List.getElem?_eq_getElem (by omega), h]))
    rw [llt_at (i := i) (fun j hj => ?_) (List.getElem?_eq_getElem (by omega)) (List.getElem?_eq_getElem hi) hne]
    · have hu : ((bstr xs)[i]! < (bstr ys)[i]!) ↔ xs[i] < ys[i] := by
        rw [bstr_at (by omega), bstr_at hi]
        exact u8_lt (hx _ (List.getElem_mem _)) (hy _ (List.getElem_mem _))
      refine decide_eq_decide.2 ?_
      by_cases hc : (bstr xs)[i]! < (bstr ys)[i]!
      · simp only [if_pos hc]
        exact ⟨fun _ => hu.1 hc, fun _ => by decide⟩
      · simp only [if_neg hc]
        exact ⟨fun h => absurd h (by decide), fun h => absurd (hu.2 h) hc⟩
    · have := h3 j hj
      simp only [Bool.not_eq_true', bne_eq_false_iff_eq] at this
      exact (hat j (by omega)).1 this
  · rename_i hn
    have : xs = ys := by
      refine List.ext_getElem? fun i => ?_
      by_cases hi : i < ys.length
      · rw [List.find?_eq_none] at hn
        have := hn i (List.mem_range.2 hi)
        simp only [bne_iff_ne, ne_eq, Decidable.not_not] at this
        exact (hat i hi).1 this
      · rw [List.getElem?_eq_none (by omega), List.getElem?_eq_none (by omega)]
    subst this
    rw [llt_irrefl]
    simp
end Go.Proofs.Ytlkhijflgbobjaa.Lx
