
import Derived.Test.YtfgcobigollfjaaDoorRouteRef
import Derived.Test.YtfgcobigollfjaaDoorRoutePlain
set_option linter.unusedVariables false
set_option linter.unusedSimpArgs false
namespace Go.Proofs.YtfgcobigollfjaaDoor.Lx
open Go Go.Proofs Go.RowKit
structure TOk (L : List api_Route) : Prop where
 len : L.length ≤ 256
 px : ∀ r ∈ L, isPx r.Prefix = true
 byt : ∀ r ∈ L, RByt r
theorem TOk.nil : TOk [] := ⟨by simp, by simp, by simp⟩
theorem TOk.put {L : List api_Route} (h : TOk L) {r : api_Route} (hr : RByt r) : TOk (putR L r (addR L r)) :=
 ⟨addR_le h.len, fun x hx => (putR_ok hx).elim (h.px x) (fun e => e.1 ▸ e.2), fun x hx => (putR_ok hx).elim (h.byt x) (fun e => e.1 ▸ hr)⟩
theorem TOk.drop {L : List api_Route} (h : TOk L) (k : api_Prefix) : TOk (dropR L k) :=
 ⟨Nat.le_trans (List.length_filter_le ..) h.len, fun x hx => h.px x (List.mem_filter.1 hx).1, fun x hx => h.byt x (List.mem_filter.1 hx).1⟩
theorem TOk.perm {L M : List api_Route} (h : TOk L) (p : M.Perm L) : TOk M := ⟨by rw [p.length_eq]; exact h.len, fun x hx => h.px x (p.mem_iff.1 hx), fun x hx => h.byt x (p.mem_iff.1 hx)⟩
theorem known_perm {L M : List api_Route} (p : M.Perm L) (k : api_Prefix) : known M k = known L k := by
 rw [Bool.eq_iff_iff, known_iff, known_iff]
 exact ⟨fun ⟨x, h, e⟩ => ⟨x, p.mem_iff.1 h, e⟩, fun ⟨x, h, e⟩ => ⟨x, p.mem_iff.2 h, e⟩⟩
theorem addR_perm {L M : List api_Route} (p : M.Perm L) (r : api_Route) : addR M r = addR L r := by
 unfold addR addM addE
 rw [known_perm p, p.length_eq]
theorem addR_known {L : List api_Route} {r : api_Route} (h : addR L r = 0) : known L r.Prefix = false := by
 cases hk : known L r.Prefix with
 | false => rfl
 | true =>
  unfold addR addM addE at h
  rw [if_pos hk] at h
  split at h
  ·omega
  ·split at h
   ·omega
   ·split at h <;> omega
theorem nd_snoc {L : List api_Route} {r : api_Route} (nd : (L.map (·.Prefix)).Nodup) (h : known L r.Prefix = false) : ((L ++ [r]).map (·.Prefix)).Nodup := by
 have p : ((L ++ [r]).map (·.Prefix)).Perm ((r :: L).map (·.Prefix)) := (List.perm_append_comm).map _
 rw [p.nodup_iff, List.map_cons, List.nodup_cons]
 refine ⟨fun hm => ?_, nd⟩
 obtain ⟨x, hx, e⟩ := List.mem_map.1 hm
 have := known_iff.2 ⟨x, hx, e⟩
 rw [h] at this
 cases this
theorem putD_sort {L : List api_Route} {r : api_Route} (nd : (L.map (·.Prefix)).Nodup) : putD (sortR L) r = sortR (putR L r (addR L r)) := by
 unfold putD
 rw [addR_perm (sortR_perm L), putR_fill]
 split
 ·rename_i h
  exact sortR_eq (l := r :: L) (((List.perm_append_comm (l₁ := [r]) (l₂ := L)).map (·.Prefix)).nodup_iff.2 (nd_snoc nd (addR_known h))) (List.perm_append_comm (l₁ := [r]) (l₂ := L))
 ·rfl
theorem dropR_sort {L : List api_Route} {k : api_Prefix} (nd : (L.map (·.Prefix)).Nodup) : dropR (sortR L) k = sortR (dropR L k) := by
 have p1 : (dropR (sortR L) k).Perm (dropR L k) := (sortR_perm L).filter _
 refine srtd_eq ?_ ((sortR_srtd L).filter _) (sortR_srtd _) (p1.trans (sortR_perm _).symm)
 have : (dropR L k).Sublist L := List.filter_sublist
 exact ((p1.map _).nodup_iff).2 (nd.sublist (this.map _))
section
variable {W w : World} {Hs : List HP} {sl : Sl} {D : List api_Route}
def Two (p b : Nat) (sl : Sl) (L : List api_Route) : List HP := TblHs p b L ++ [rdS cRt false sl (sortR L)]
variable {p b : Nat} {L : List api_Route}
theorem Two.ok (s : Ss W (Two p b sl L ++ Hs) w) (hL : TOk L) : TOk (sortR L) ∧ ((sortR L).map (·.Prefix)).Nodup ∧ (L.map (·.Prefix)).Nodup := by
 have nd : (L.map (·.Prefix)).Nodup := TblHs.nd (p := p) (Hs := rdS cRt false sl (sortR L) :: Hs) s
 exact ⟨hL.perm (sortR_perm L), (((sortR_perm L).map _).nodup_iff).2 nd, nd⟩
theorem turned_wp (s : Ss W (Two p b sl L ++ Hs) w) (t : Nat) (et : nth Hs t = some TabC) (hL : TOk L) (kp : Any) (st : weirlaw14_Step) (hb : RByt st.R) :
  WP (weirlaw14_turned ⟨some (pt p 0), sl, kp⟩ st) w (fun r w' => ∃ sl' L', r = (⟨some (pt p 0), sl', kp⟩, true) ∧ TOk L' ∧ (L' = if st.Kind = 1 then putR L st.R (addR L st.R) else dropR L st.R.Prefix) ∧ Ss W (Two p b sl' L' ++ Hs) w') := by
 unfold weirlaw14_turned
 obtain ⟨hD, ndD, nd⟩ := Two.ok s hL
 refine WP.slot' s (fun _ w s => WP.slot' s (fun _ w s => WP.slot' s (fun _ w s => WP.ite (fun h => ?_) (fun h => ?_))))
 ·have s : Ss W (TblHs p b L ++ (rdS cRt false sl (sortR L) :: Hs)) w := s
  refine WP.step (Add_wp s (t + 3) et st.R hb) ?_
  rintro _ w ⟨rfl, s⟩
  have s : Ss W (TblHs p b (putR L st.R (addR L st.R)) ++ (rdS cRt false sl (sortR L) :: Hs)) w := s
  refine WP.step (radd_wp s 2 rfl hD.len st.R hb) ?_
  rintro ⟨sl', e⟩ w ⟨h1, s⟩
  simp only at h1 s
  rw [putD_sort nd] at s
  rw [if_pos h]
  have s : Ss W (rdS cRt false sl' (sortR (putR L st.R (addR L st.R))) :: (TblHs p b (putR L st.R (addR L st.R)) ++ (rdS cRt false sl (sortR L) :: Hs))) w := s
  refine WP.ret ⟨sl', _, ?_, hL.put hb, rfl, ?_⟩
  ·rw [h1, addR_perm (sortR_perm L)]
   simp
  ·exact (s.use [3] rfl).drop.use [1, 1, 0] rfl
 ·have s : Ss W (TblHs p b L ++ (rdS cRt false sl (sortR L) :: Hs)) w := s
  refine WP.step (Drop_wp s st.R.Prefix) ?_
  rintro _ w ⟨rfl, s⟩
  have s : Ss W (TblHs p b (dropR L st.R.Prefix) ++ (rdS cRt false sl (sortR L) :: Hs)) w := s
  refine WP.step (rdrop_wp s 2 rfl hD.len ndD st.R.Prefix) ?_
  rintro ⟨sl', e⟩ w ⟨h1, s⟩
  simp only at h1 s
  rw [dropR_sort nd] at s
  rw [if_neg h]
  have s : Ss W (rdS cRt false sl' (sortR (dropR L st.R.Prefix)) :: (TblHs p b (dropR L st.R.Prefix) ++ (rdS cRt false sl (sortR L) :: Hs))) w := s
  refine WP.ret ⟨sl', _, ?_, hL.drop _, rfl, ?_⟩
  ·rw [h1, known_perm (sortR_perm L)]
   simp
  ·exact (s.use [3] rfl).drop.use [1, 1, 0] rfl
end
end Go.Proofs.YtfgcobigollfjaaDoor.Lx
