
import Derived.Test.YtfgcobigollfjaaDoorRoutePlain
set_option linter.unusedVariables false
set_option linter.unusedSimpArgs false
namespace Go.Proofs.YtfgcobigollfjaaDoor.Lx
open Go Go.Proofs Go.RowKit
def stat (r : api_Route) : Prop := isPx r.Prefix = true ∧ ¬ (r.Port < 0 ∨ r.Port ≥ 8) ∧ viaOk r = true
theorem addR_zero {M : List api_Route} {r : api_Route} : addR M r = 0 ↔ stat r ∧ known M r.Prefix = false ∧ M.length ≠ 256 := by
 unfold addR addM addE stat
 constructor
 ·intro h
  split at h
  ·omega
  ·rename_i h1
   split at h
   ·omega
   ·rename_i h2
    split at h
    ·omega
    ·rename_i h3
     split at h
     ·omega
     ·rename_i h4
      split at h
      ·omega
      ·rename_i h5
       exact ⟨⟨by simpa using h1, h2, by simpa using h3⟩, by simpa using h4, h5⟩
 ·rintro ⟨⟨h1, h2, h3⟩, h4, h5⟩
  rw [if_neg (by rw [h1]; decide), if_neg h2, if_neg (by rw [h3]; decide), if_neg (by rw [h4]; decide), if_neg h5]
theorem putR_stat {L : List api_Route} {r x : api_Route} (h : x ∈ putR L r (addR L r)) : x ∈ L ∨ (x = r ∧ stat x) := by
 rw [putR_fill] at h
 split at h
 ·rename_i h0
  rcases List.mem_append.1 h with h | h
  ·exact .inl h
  ·have e := List.mem_singleton.1 h
   exact .inr ⟨e, e ▸ (addR_zero.1 h0).1⟩
 ·exact .inl h
theorem fillR_stat : ∀ {l L : List api_Route} {x : api_Route}, x ∈ fillR L l → x ∈ L ∨ stat x
 | [], L, x, h => .inl h
 | r :: l, L, x, h => by
  rcases fillR_stat (l := l) h with h | h
  ·rcases putR_stat h with h | ⟨_, h⟩
   ·exact .inl h
   ·exact .inr h
  ·exact .inr h
theorem look_perm {L M : List api_Route} (nd : (L.map (·.Prefix)).Nodup) (p : L.Perm M) (k : api_Prefix) : lookR L k = lookR M k := by
 have nd2 : (M.map (·.Prefix)).Nodup := ((p.map _).nodup_iff).1 nd
 cases h : lookR M k with
 | none => exact lookR_none.2 fun x hx => lookR_none.1 h x (p.mem_iff.1 hx)
 | some x =>
  obtain ⟨h1, h2⟩ := lookR_mem h
  exact lookR_some nd (p.mem_iff.2 h1) h2
theorem findSome_congr {α β : Type} {f g : α → Option β} : ∀ {l : List α}, (∀ x ∈ l, f x = g x) → l.findSome? f = l.findSome? g
 | [], _ => rfl
 | a :: l, h => by
  rw [List.findSome?_cons, List.findSome?_cons, h a (List.mem_cons_self ..), findSome_congr (l := l) (fun x hx => h x (List.mem_cons_of_mem _ hx))]
theorem find_perm {L M : List api_Route} (nd : (L.map (·.Prefix)).Nodup) (p : L.Perm M) (ip : api_IP) : findM L ip = findM M ip := by
 unfold findM
 rw [findSome_congr (fun k _ => look_perm nd p k)]
end Go.Proofs.YtfgcobigollfjaaDoor.Lx
