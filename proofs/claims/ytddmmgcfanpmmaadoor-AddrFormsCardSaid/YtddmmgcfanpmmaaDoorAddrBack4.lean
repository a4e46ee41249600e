/- Plain law: an address of version 4 is read back. -/
import Derived.Test.YtddmmgcfanpmmaaDoorAddrFourBack
set_option linter.unusedVariables false
set_option linter.unusedSimpArgs false
namespace Go.Proofs.YtddmmgcfanpmmaaDoor.Lx
open Go Go.Proofs Go.RowKit
theorem firstM_none {l : List Int} {q : Int} (h : ∀ c ∈ l, c ≠ q) : firstM l q = l.length := by
  unfold firstM
  have := run_at (p := fun c => decide (c ≠ q)) (pre := []) (mid := l) (post := []) (fun c hc => decide_eq_true (h c hc)) (by intro c r hh; cases hh)
  simpa using this
theorem isDig_range {c : Int} (h : isDig c = true) : 48 ≤ c ∧ c ≤ 57 := of_decide_eq_true h
theorem dec3_dig {n : Nat} (h : n < 1000) {c : Int} (hc : c ∈ dec3 n) : 48 ≤ c ∧ c ≤ 57 := isDig_range (List.all_eq_true.1 (dec3_tab ⟨n, h⟩).1 c hc)
theorem dec3_le {n : Nat} (h : n < 1000) : (dec3 n).length ≤ 3 := (dec3_tab ⟨n, h⟩).2.2.1
theorem dots_mem {xs : List Nat} (h : ∀ x ∈ xs, x ≤ 255) {c : Int} (hc : c ∈ dots xs) : c = 46 ∨ (48 ≤ c ∧ c ≤ 57) := by
  unfold dots at hc
  obtain ⟨x, hx, hc⟩ := List.mem_flatMap.1 hc
  have := h x hx
  rcases List.mem_cons.1 hc with hc | hc
  · exact .inl hc
  · exact .inr (dec3_dig (by omega) hc)
theorem dots_len : ∀ {xs : List Nat}, (∀ x ∈ xs, x ≤ 255) → (dots xs).length ≤ 4 * xs.length
  | [], _ => by simp [dots]
  | x :: r, h => by
    rw [dots_cons]
    have h1 := dots_len (xs := r) (fun y hy => h y (by simp [hy]))
    have h2 := dec3_le (n := x) (by have := h x (by simp); omega)
    simp only [List.length_cons, List.length_append]
    omega
theorem parse_dotted {a : Nat} {r : List Nat} (hr : r.length = 3) (ha : a ≤ 255) (hx : ∀ x ∈ r, x ≤ 255) : parseM (dec3 a ++ dots r) = .ok ⟨4, v4V (a :: r)⟩ := by
  have h1 := dots_len hx
  have h2 := dec3_le (n := a) (by omega)
  have hf : firstM (dec3 a ++ dots r) 58 = (dec3 a ++ dots r).length := firstM_none fun c hc => by
    rcases List.mem_append.1 hc with hc | hc
    · have := dec3_dig (by omega) hc
      omega
    · rcases dots_mem hx hc with h | h <;> omega
  have h3 := fourM_at (pre := []) hr ha hx
  unfold parseM
  rw [if_neg (by rw [List.length_append]; omega), hf, if_neg (Nat.lt_irrefl _)]
  rw [show fourM (dec3 a ++ dots r) 0 = .ok (a :: r) from h3]
theorem back4 {ip : api_IP} (hb : Byt ip.A.l) (hv : ip.V = 4) (hs : ip.A.l.drop 4 = List.replicate 12 0) : parseM (dotM (ip.A.l.take 4)) = .ok ip := by
  obtain ⟨V, l, hl⟩ := ip
  simp only at hv hb hs
  subst hv
  match l, hl with
  | a :: b :: c :: d :: r, hl =>
    have hs : r = List.replicate 12 0 := hs
    subst hs
    have ha := hb a (by simp)
    have hb' := hb b (by simp)
    have hc := hb c (by simp)
    have hd := hb d (by simp)
    show parseM (dotM [a, b, c, d]) = _
    rw [dotM_eq, parse_dotted rfl (by omega) (by
      intro x hx
      simp only [List.map_cons, List.map_nil, List.mem_cons, List.not_mem_nil, or_false] at hx
      rcases hx with rfl | rfl | rfl <;> omega)]
    have e : v4V (a.toNat :: [b, c, d].map Int.toNat) = (⟨a :: b :: c :: d :: List.replicate 12 0, hl⟩ : Vec Int 16) := by
      refine Vec.eq ?_
      show [((a.toNat : Nat) : Int), ((b.toNat : Nat) : Int), ((c.toNat : Nat) : Int), ((d.toNat : Nat) : Int), 0, 0, 0, 0, 0, 0, 0, 0, 0, 0, 0, 0] = _
      rw [Int.toNat_of_nonneg ha.1, Int.toNat_of_nonneg hb'.1, Int.toNat_of_nonneg hc.1, Int.toNat_of_nonneg hd.1]
      rfl
    rw [e]
end Go.Proofs.YtddmmgcfanpmmaaDoor.Lx
