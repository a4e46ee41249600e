
import Derived.Test.YtfgcobigollfjaaDoorRouteTab
import Derived.Test.YtfgcobigollfjaaDoorAddrClass
set_option linter.unusedVariables false
set_option linter.unusedSimpArgs false
namespace Go.Proofs.YtfgcobigollfjaaDoor.Lx
open Go Go.Proofs Go.RowKit
def viaOk (r : api_Route) : Bool := decide (r.Via = z_api_IP ∨ (sizeM r.Via > 0 ∧ r.Via.V = r.Prefix.IP.V ∧ (classM r.Via = 7 ∨ classM r.Via = 4)))
def RByt (r : api_Route) : Prop := Byt r.Prefix.IP.A.l ∧ Byt r.Via.A.l
def addR (L : List api_Route) (r : api_Route) : Int := addM (viaOk r) L r
section
variable {W w : World} {Hs : List HP} {p b : Nat} {L : List api_Route}
theorem Add_wp (s : Ss W (TblHs p b L ++ Hs) w) (t : Nat) (et : nth (TblHs p b L ++ Hs) t = some TabC) (r : api_Route) (hb : RByt r) : WP (route_Table_Add (some (pt p 0)) r) w (fun e w' => e = addR L r ∧ Ss W (TblHs p b (putR L r e) ++ Hs) w') := by
 unfold route_Table_Add addR
 refine WP.slot' s (fun _ w s => WP.step (isPrefix_wp s r.Prefix hb.1) ?_)
 rintro _ w ⟨rfl, s⟩
 refine WP.ite (fun h => WP.ret ⟨?_, s⟩) (fun h => ?_)
 ·unfold addM
  rw [if_pos (by simpa using h)]
 have h' : ¬ isPx r.Prefix = false := by simpa using h
 refine WP.step (R := fun y w' => y = decide (r.Port < 0 ∨ r.Port ≥ 8) ∧ Ss W (TblHs p b L ++ Hs) w') (WP.ite (fun h => WP.ret ⟨by simp [h], s⟩) (fun h => WP.ret ⟨by simp [h], s⟩)) ?_
 rintro _ w ⟨rfl, s⟩
 refine WP.ite (fun h2 => WP.ret ⟨?_, s⟩) (fun h2 => ?_)
 ·unfold addM
  rw [if_neg h', if_pos (of_decide_eq_true h2)]
 have h2' : ¬ (r.Port < 0 ∨ r.Port ≥ 8) := fun h => h2 (decide_eq_true h)
 have e1 : viaOk r = true → addM (viaOk r) L r = addE L r := fun hv => by
  unfold addM
  rw [if_neg h', if_neg h2', if_neg (by rw [hv]; decide)]
 have e0 : viaOk r = false → addM (viaOk r) L r = 142 := fun hv => by
  unfold addM
  rw [if_neg h', if_neg h2', if_pos hv]
 refine WP.ite (fun h3 => ?_) (fun h3 => ?_)
 ·refine WP.step (Class_wp s t et r.Via hb.2) ?_
  rintro _ w ⟨rfl, s⟩
  refine WP.step (Valid_wp s r.Via) ?_
  rintro _ w ⟨rfl, s⟩
  refine WP.step (R := fun y w' => y = decide (¬ sizeM r.Via > 0 ∨ r.Via.V ≠ r.Prefix.IP.V) ∧ Ss W (TblHs p b L ++ Hs) w') (WP.ite (fun h => WP.ret ⟨?_, s⟩) (fun h => WP.ret ⟨?_, s⟩)) ?_
  ·simp only [decide_eq_true_eq] at h
   exact (decide_eq_true (.inl h)).symm
  ·simp only [decide_eq_true_eq, Decidable.not_not] at h
   rw [bne, Bool.eq_iff_iff]
   simp [h]
  rintro _ w ⟨rfl, s⟩
  refine WP.step (R := fun y w' => y = decide (¬ sizeM r.Via > 0 ∨ r.Via.V ≠ r.Prefix.IP.V ∨ (classM r.Via ≠ 7 ∧ classM r.Via ≠ 4)) ∧ Ss W (TblHs p b L ++ Hs) w') (WP.ite (fun h => WP.ret ⟨?_, s⟩) (fun h => ?_)) ?_
  ·refine (decide_eq_true ?_).symm
   rcases of_decide_eq_true h with h | h
   ·exact .inl h
   ·exact .inr (.inl h)
  ·have hn : ¬ (¬ sizeM r.Via > 0 ∨ r.Via.V ≠ r.Prefix.IP.V) := fun h' => h (decide_eq_true h')
   have e5 : decide (¬ sizeM r.Via > 0 ∨ r.Via.V ≠ r.Prefix.IP.V ∨ (classM r.Via ≠ 7 ∧ classM r.Via ≠ 4)) = decide (classM r.Via ≠ 7 ∧ classM r.Via ≠ 4) := by
    rw [Bool.eq_iff_iff]
    simp only [decide_eq_true_eq]
    exact ⟨fun h => by
     rcases h with h | h | h
     ·exact absurd (.inl h) hn
     ·exact absurd (.inr h) hn
     ·exact h, fun h => .inr (.inr h)⟩
   rw [e5]
   refine WP.step (R := fun y w' => y = decide (classM r.Via ≠ 7 ∧ classM r.Via ≠ 4) ∧ Ss W (TblHs p b L ++ Hs) w') (WP.ite (fun h => WP.ret ⟨?_, s⟩) (fun h => WP.ret ⟨by simp [h], s⟩)) (fun y w h => WP.ret h)
   rw [bne, Bool.eq_iff_iff]
   simp [h]
  rintro _ w ⟨rfl, s⟩
  refine WP.ite (fun h => WP.ret ⟨?_, s⟩) (fun h => ?_)
  ·refine (e0 (decide_eq_false fun hv => ?_)).symm
   have h4 := of_decide_eq_true h
   rcases hv with hv | ⟨g1, g2, g3⟩
   ·exact h3 hv
   ·rcases h4 with h4 | h4 | h4
    ·exact h4 g1
    ·exact h4 g2
    ·omega
  ·have hn : ¬ (¬ sizeM r.Via > 0 ∨ r.Via.V ≠ r.Prefix.IP.V ∨ (classM r.Via ≠ 7 ∧ classM r.Via ≠ 4)) := fun h' => h (decide_eq_true h')
   rw [e1 (decide_eq_true (.inr ⟨Decidable.not_not.1 fun h' => hn (.inl h'), Decidable.not_not.1 fun h' => hn (.inr (.inl h')), Decidable.or_iff_not_imp_left.2 fun h7 => Decidable.not_not.1 fun h4 => hn (.inr (.inr ⟨h7, h4⟩))⟩))]
   exact AddK2_wp s r
 ·rw [e1 (decide_eq_true (.inl (Decidable.not_not.1 h3)))]
  exact AddK2_wp s r
def route0M : api_Route := ⟨⟨⟨4, v16 [10]⟩, 8⟩, 1, z_api_IP⟩
theorem putR_fill {L : List api_Route} {r : api_Route} : putR L r (addR L r) = if addR L r = 0 then L ++ [r] else L := rfl
theorem addR_le {L : List api_Route} {r : api_Route} (h : L.length ≤ 256) : (putR L r (addR L r)).length ≤ 256 := by
 unfold putR
 split
 ·rename_i h0
  have : L.length ≠ 256 := by
   intro e
   unfold addR addM addE at h0
   rw [if_pos e] at h0
   repeat' split at h0
   all_goals omega
  simp
  omega
 ·exact h
theorem route0_wp (s : Ss W Hs w) : WP weirlaw14_route0 w (fun r w' => r = route0M ∧ Ss W Hs w') := by
 unfold weirlaw14_route0
 refine WP.slot' s (fun _ w s => WP.ret ⟨?_, s⟩)
 rfl
end
end Go.Proofs.YtfgcobigollfjaaDoor.Lx
