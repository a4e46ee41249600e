
import Derived.Test.YtfgcobigollfjaaDoorRouteFind
import Derived.Test.YtfgcobigollfjaaDoorRouteAdd
set_option linter.unusedVariables false
set_option linter.unusedSimpArgs false
namespace Go.Proofs.YtfgcobigollfjaaDoor.Lx
open Go Go.Proofs Go.RowKit
theorem Znp {a b : ZaH} (ha : Zbo a > 0) (hb : Zbo b > 0) (e : a.V = b.V) : Zbo a = Zbo b := by
 rw [← ZeY ha, ← ZeY hb, e]
theorem ZmE {p : Zar} {ip : ZaH} (hv : vpM p = 0) : ctM p ip = true ↔ p ∈ pxs ip := by
 obtain ⟨g1, g2, g3, g4⟩ := ZhI hv
 have hz := Zd2 p.IP
 unfold ctM
 rw [decide_eq_true_iff]
 constructor
 ·rintro ⟨_, h1, h2, h3⟩
  have hs := Znp (a := p.IP) (b := ip) (by omega) h1 h2
  have := ZkN (ip := ip) (i := (Zbo ip - p.Len).toNat) h1 (by omega)
  have e : (pxs ip)[(Zbo ip - p.Len).toNat]? = some p := by
   rw [this, show Zbo ip - (((Zbo ip - p.Len).toNat : Nat) : Int) = p.Len by omega, h3, ← h2]
  exact List.mem_of_getElem? e
 ·intro h
  by_cases h0 : Zbo ip > 0
  ·unfold pxs at h
   rw [if_pos h0] at h
   obtain ⟨j, hj, e⟩ := List.mem_map.1 h
   have hj' := List.mem_range.1 hj
   have e1 : p.IP.V = ip.V := by rw [← e]
   have e2 : p.Len = Zbo ip - (j : Int) := by rw [← e]
   have e3 : p.IP.A = ZeQ ip.A (Zbo ip - (j : Int)) := by rw [← e]
   exact ⟨hv, h0, e1, by rw [e3, e2]⟩
  ·unfold pxs at h
   rw [if_neg h0] at h
   cases h
theorem ZkO (ip : ZaH) : (pxs ip).Pairwise fun a b => b.Len < a.Len := by
 unfold pxs
 split
 ·refine List.Pairwise.map _ (R := fun (a b : Nat) => a < b) (fun a b h => ?_) List.pairwise_lt_range
  show Zbo ip - (b : Int) < Zbo ip - (a : Int)
  omega
 ·exact List.Pairwise.nil
section
variable {L : List Zab} {ip : ZaH}
theorem Ziq (nd : (L.map (·.Prefix)).Nodup) (hv : ∀ r ∈ L, isPx r.Prefix = true) {r : Zab} : r ∈ Zbz L ip ↔ r ∈ L ∧ ctM r.Prefix ip = true := by
 unfold Zbz
 rw [List.mem_filterMap]
 constructor
 ·rintro ⟨k, hk, hr⟩
  obtain ⟨h1, rfl⟩ := ZeR hr
  exact ⟨h1, (ZmE (by simpa [isPx] using hv r h1)).2 hk⟩
 ·rintro ⟨h1, h2⟩
  exact ⟨r.Prefix, (ZmE (by simpa [isPx] using hv r h1)).1 h2, Zep nd h1 rfl⟩
theorem Zjc : (Zbz L ip).Pairwise fun a b => b.Prefix.Len < a.Prefix.Len := by
 unfold Zbz
 refine List.Pairwise.filterMap _ (R := fun (a b : Zar) => b.Len < a.Len) (fun a b h x hx y hy => ?_) (ZkO ip)
 obtain ⟨_, e1⟩ := ZeR hx
 obtain ⟨_, e2⟩ := ZeR hy
 rw [e1, e2]
 exact h
theorem ZiF : ZeB L ip = match (Zbz L ip).head? with
  | some r => (r, true)
  | none => (Zaa, false) := by
 unfold ZeB Zbz
 rw [List.head?_filterMap]
 cases (pxs ip).findSome? (ZcN L) <;> rfl
theorem Zlh {r : Zab} (h : ZeB L ip = (r, true)) : (Zbz L ip)[0]? = some r := by
 rw [ZiF] at h
 rw [← List.head?_eq_getElem?]
 cases e : (Zbz L ip).head? with
 | none => rw [e] at h; cases h
 | some q => rw [e] at h; cases h; rfl
end
theorem ZkP {L : List Zab} {r x : Zab} (h : x ∈ putR L r (addR L r)) : x ∈ L ∨ (x = r ∧ isPx r.Prefix = true) := by
 rw [Zih] at h
 split at h
 ·rename_i h0
  rcases List.mem_append.1 h with h | h
  ·exact .inl h
  ·refine .inr ⟨by simpa using h, ?_⟩
   cases hp : isPx r.Prefix with
   | true => rfl
   | false =>
    unfold addR addM at h0
    rw [if_pos hp] at h0
    omega
 ·exact .inl h
end Go.Proofs.YtfgcobigollfjaaDoor.Lx
