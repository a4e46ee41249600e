
import Derived.Test.YtfgcobigollfjaaDoorRouteFind
import Derived.Test.YtfgcobigollfjaaDoorRouteAdd
set_option linter.unusedVariables false
set_option linter.unusedSimpArgs false
namespace Go.Proofs.YtfgcobigollfjaaDoor.Lx
open Go Go.Proofs Go.RowKit
theorem size_V {a b : api_IP} (ha : sizeM a > 0) (hb : sizeM b > 0) (e : a.V = b.V) : sizeM a = sizeM b := by
 rw [← sizeM_bits ha, ← sizeM_bits hb, e]
theorem ct_iff {p : api_Prefix} {ip : api_IP} (hv : vpM p = 0) : ctM p ip = true ↔ p ∈ pxs ip := by
 obtain ⟨g1, g2, g3, g4⟩ := vpM_len hv
 have hz := sizeM_le p.IP
 unfold ctM
 rw [decide_eq_true_iff]
 constructor
 ·rintro ⟨_, h1, h2, h3⟩
  have hs := size_V (a := p.IP) (b := ip) (by omega) h1 h2
  have := pxs_get (ip := ip) (i := (sizeM ip - p.Len).toNat) h1 (by omega)
  have e : (pxs ip)[(sizeM ip - p.Len).toNat]? = some p := by
   rw [this, show sizeM ip - (((sizeM ip - p.Len).toNat : Nat) : Int) = p.Len by omega, h3, ← h2]
  exact List.mem_of_getElem? e
 ·intro h
  by_cases h0 : sizeM ip > 0
  ·unfold pxs at h
   rw [if_pos h0] at h
   obtain ⟨j, hj, e⟩ := List.mem_map.1 h
   have hj' := List.mem_range.1 hj
   have e1 : p.IP.V = ip.V := by rw [← e]
   have e2 : p.Len = sizeM ip - (j : Int) := by rw [← e]
   have e3 : p.IP.A = maskM ip.A (sizeM ip - (j : Int)) := by rw [← e]
   exact ⟨hv, h0, e1, by rw [e3, e2]⟩
  ·unfold pxs at h
   rw [if_neg h0] at h
   cases h
theorem pxs_falls (ip : api_IP) : (pxs ip).Pairwise fun a b => b.Len < a.Len := by
 unfold pxs
 split
 ·refine List.Pairwise.map _ (R := fun (a b : Nat) => a < b) (fun a b h => ?_) List.pairwise_lt_range
  show sizeM ip - (b : Int) < sizeM ip - (a : Int)
  omega
 ·exact List.Pairwise.nil
section
variable {L : List api_Route} {ip : api_IP}
theorem match_mem (nd : (L.map (·.Prefix)).Nodup) (hv : ∀ r ∈ L, isPx r.Prefix = true) {r : api_Route} : r ∈ matchesM L ip ↔ r ∈ L ∧ ctM r.Prefix ip = true := by
 unfold matchesM
 rw [List.mem_filterMap]
 constructor
 ·rintro ⟨k, hk, hr⟩
  obtain ⟨h1, rfl⟩ := lookR_mem hr
  exact ⟨h1, (ct_iff (by simpa [isPx] using hv r h1)).2 hk⟩
 ·rintro ⟨h1, h2⟩
  exact ⟨r.Prefix, (ct_iff (by simpa [isPx] using hv r h1)).1 h2, lookR_some nd h1 rfl⟩
theorem match_falls : (matchesM L ip).Pairwise fun a b => b.Prefix.Len < a.Prefix.Len := by
 unfold matchesM
 refine List.Pairwise.filterMap _ (R := fun (a b : api_Prefix) => b.Len < a.Len) (fun a b h x hx y hy => ?_) (pxs_falls ip)
 obtain ⟨_, e1⟩ := lookR_mem hx
 obtain ⟨_, e2⟩ := lookR_mem hy
 rw [e1, e2]
 exact h
theorem find_head : findM L ip = match (matchesM L ip).head? with
  | some r => (r, true)
  | none => (z_api_Route, false) := by
 unfold findM matchesM
 rw [List.head?_filterMap]
 cases (pxs ip).findSome? (lookR L) <;> rfl
end
theorem putR_ok {L : List api_Route} {r x : api_Route} (h : x ∈ putR L r (addR L r)) : x ∈ L ∨ (x = r ∧ isPx r.Prefix = true) := by
 rw [putR_fill] at h
 split at h
 ·rename_i h0
  rcases List.mem_append.1 h with h | h
  ·exact .inl h
  ·refine .inr ⟨by simpa using h, ?_⟩
   cases hp : isPx r.Prefix with
   | true => rfl
   | false =>
    unfold addR addM at h0
    rw [if_pos hp] at h0
    omega
 ·exact .inl h
theorem fillR_ok : ∀ {l L : List api_Route} {x : api_Route}, x ∈ fillR L l → x ∈ L ∨ (x ∈ l ∧ isPx x.Prefix = true)
 | [], L, x, h => .inl h
 | r :: l, L, x, h => by
  rcases fillR_ok (l := l) h with h | ⟨h, hp⟩
  ·rcases putR_ok h with h | ⟨rfl, hp⟩
   ·exact .inl h
   ·exact .inr ⟨List.mem_cons_self .., hp⟩
  ·exact .inr ⟨List.mem_cons_of_mem _ h, hp⟩
theorem fillR_sub : ∀ {l L : List api_Route} {x : api_Route}, x ∈ L → x ∈ fillR L l
 | [], L, x, h => h
 | r :: l, L, x, h => fillR_sub (l := l) (by
   rw [putR_fill]
   split
   ·exact List.mem_append_left _ h
   ·exact h)
theorem route0_in {l : List api_Route} : route0M ∈ fillR [] ((route0M :: l).take 600) := by
 have : (route0M :: l).take 600 = route0M :: l.take 599 := rfl
 rw [this]
 have e : addR [] route0M = 0 := by decide +kernel
 show route0M ∈ fillR (putR [] route0M (addR [] route0M)) (l.take 599)
 refine fillR_sub ?_
 rw [putR_fill, if_pos e]
 simp
end Go.Proofs.YtfgcobigollfjaaDoor.Lx
