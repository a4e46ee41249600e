
import Derived.Test.YtfgcobigollfjaaDoorRouteTab
import Derived.Test.YtfgcobigollfjaaDoorAddrClass
set_option linter.unusedVariables false
set_option linter.unusedSimpArgs false
namespace Go.Proofs.YtfgcobigollfjaaDoor.Lx
open Go Go.Proofs Go.RowKit
def ZiW (r : Zab) : Bool := decide (r.Via = Zby ∨ (Zbo r.Via > 0 ∧ r.Via.V = r.Prefix.IP.V ∧ (ZcB r.Via = 7 ∨ ZcB r.Via = 4)))
def RByt (r : Zab) : Prop := Byt r.Prefix.IP.A.l ∧ Byt r.Via.A.l
def addR (L : List Zab) (r : Zab) : Int := addM (ZiW r) L r
section
variable {W w : World} {Hs : List HP} {p b : Nat} {L : List Zab}
theorem ZnP (s : Ss W (Zbr p b L ++ Hs) w) (t : Nat) (et : nth (Zbr p b L ++ Hs) t = some TabC) (r : Zab) (hb : RByt r) : WP (ZaM (some (pt p 0)) r) w (fun e w' => e = addR L r ∧ Ss W (Zbr p b (putR L r e) ++ Hs) w') := by
 unfold ZaM addR
 refine WP.slot' s (fun _ w s => WP.step (Zji s r.Prefix hb.1) ?_)
 rintro _ w ⟨rfl, s⟩
 refine WP.ite (fun h => WP.ret ⟨?_, s⟩) (fun h => ?_)
 ·unfold addM
  rw [if_pos (by simpa using h)]
 have h' : ¬ isPx r.Prefix = false := by simpa using h
 refine WP.step (R := fun y w' => y = decide (r.Port < 0 ∨ r.Port ≥ 8) ∧ Ss W (Zbr p b L ++ Hs) w') (WP.ite (fun h => WP.ret ⟨by simp [h], s⟩) (fun h => WP.ret ⟨by simp [h], s⟩)) ?_
 rintro _ w ⟨rfl, s⟩
 refine WP.ite (fun h2 => WP.ret ⟨?_, s⟩) (fun h2 => ?_)
 ·unfold addM
  rw [if_neg h', if_pos (of_decide_eq_true h2)]
 have h2' : ¬ (r.Port < 0 ∨ r.Port ≥ 8) := fun h => h2 (decide_eq_true h)
 have e1 : ZiW r = true → addM (ZiW r) L r = addE L r := fun hv => by
  unfold addM
  rw [if_neg h', if_neg h2', if_neg (by rw [hv]; decide)]
 have e0 : ZiW r = false → addM (ZiW r) L r = 142 := fun hv => by
  unfold addM
  rw [if_neg h', if_neg h2', if_pos hv]
 refine WP.ite (fun h3 => ?_) (fun h3 => ?_)
 ·refine WP.step (Zmp s t et r.Via hb.2) ?_
  rintro _ w ⟨rfl, s⟩
  refine WP.step (Zgx s r.Via) ?_
  rintro _ w ⟨rfl, s⟩
  refine WP.step (R := fun y w' => y = decide (¬ Zbo r.Via > 0 ∨ r.Via.V ≠ r.Prefix.IP.V) ∧ Ss W (Zbr p b L ++ Hs) w') (WP.ite (fun h => WP.ret ⟨?_, s⟩) (fun h => WP.ret ⟨?_, s⟩)) ?_
  ·simp only [decide_eq_true_eq] at h
   exact (decide_eq_true (.inl h)).symm
  ·simp only [decide_eq_true_eq, Decidable.not_not] at h
   rw [bne, Bool.eq_iff_iff]
   simp [h]
  rintro _ w ⟨rfl, s⟩
  refine WP.step (R := fun y w' => y = decide (¬ Zbo r.Via > 0 ∨ r.Via.V ≠ r.Prefix.IP.V ∨ (ZcB r.Via ≠ 7 ∧ ZcB r.Via ≠ 4)) ∧ Ss W (Zbr p b L ++ Hs) w') (WP.ite (fun h => WP.ret ⟨?_, s⟩) (fun h => ?_)) ?_
  ·refine (decide_eq_true ?_).symm
   rcases of_decide_eq_true h with h | h
   ·exact .inl h
   ·exact .inr (.inl h)
  ·have hn : ¬ (¬ Zbo r.Via > 0 ∨ r.Via.V ≠ r.Prefix.IP.V) := fun h' => h (decide_eq_true h')
   have e5 : decide (¬ Zbo r.Via > 0 ∨ r.Via.V ≠ r.Prefix.IP.V ∨ (ZcB r.Via ≠ 7 ∧ ZcB r.Via ≠ 4)) = decide (ZcB r.Via ≠ 7 ∧ ZcB r.Via ≠ 4) := by
    rw [Bool.eq_iff_iff]
    simp only [decide_eq_true_eq]
    exact ⟨fun h => by
     rcases h with h | h | h
     ·exact absurd (.inl h) hn
     ·exact absurd (.inr h) hn
     ·exact h, fun h => .inr (.inr h)⟩
   rw [e5]
   refine WP.step (R := fun y w' => y = decide (ZcB r.Via ≠ 7 ∧ ZcB r.Via ≠ 4) ∧ Ss W (Zbr p b L ++ Hs) w') (WP.ite (fun h => WP.ret ⟨?_, s⟩) (fun h => WP.ret ⟨by simp [h], s⟩)) (fun y w h => WP.ret h)
   rw [bne, Bool.eq_iff_iff]
   simp [h]
  rintro _ w ⟨rfl, s⟩
  refine WP.ite (fun h => WP.ret ⟨?_, s⟩) (fun h => ?_)
  ·refine (e0 (decide_eq_false fun hv => ?_)).symm
   have h4 := of_decide_eq_true h
   rcases hv with hv | ⟨g1, g2, g3⟩
   ·exact h3 hv
   ·rcases h4 with h4 | h4 | h4
    ·exact h4 g1
    ·exact h4 g2
    ·omega
  ·have hn : ¬ (¬ Zbo r.Via > 0 ∨ r.Via.V ≠ r.Prefix.IP.V ∨ (ZcB r.Via ≠ 7 ∧ ZcB r.Via ≠ 4)) := fun h' => h (decide_eq_true h')
   rw [e1 (decide_eq_true (.inr ⟨Decidable.not_not.1 fun h' => hn (.inl h'), Decidable.not_not.1 fun h' => hn (.inr (.inl h')), Decidable.or_iff_not_imp_left.2 fun h7 => Decidable.not_not.1 fun h4 => hn (.inr (.inr ⟨h7, h4⟩))⟩))]
   exact ZjZ s r
 ·rw [e1 (decide_eq_true (.inl (Decidable.not_not.1 h3)))]
  exact ZjZ s r
def ZgD : Zab := ⟨⟨⟨4, v16 [10]⟩, 8⟩, 1, Zby⟩
theorem Zih {L : List Zab} {r : Zab} : putR L r (addR L r) = if addR L r = 0 then L ++ [r] else L := rfl
theorem Znc {L : List Zab} {r : Zab} (h : L.length ≤ 256) : (putR L r (addR L r)).length ≤ 256 := by
 unfold putR
 split
 ·rename_i h0
  have : L.length ≠ 256 := by
   intro e
   unfold addR addM addE at h0
   rw [if_pos e] at h0
   repeat' split at h0
   all_goals omega
  simp
  omega
 ·exact h
theorem ZkE (s : Ss W Hs w) : WP Zb7 w (fun r w' => r = ZgD ∧ Ss W Hs w') := by
 unfold Zb7
 refine WP.slot' s (fun _ w s => WP.ret ⟨?_, s⟩)
 rfl
end
end Go.Proofs.YtfgcobigollfjaaDoor.Lx
