/- weirlaw4.AddrNets: what a prefix holds; nets within one another: the plain law and the walk. -/
import Derived.Test.YtddmmgcfanpmmaaDoorAddrLawBack
import Derived.Test.YtddmmgcfanpmmaaDoorAddrMaskC
set_option linter.unusedVariables false
set_option linter.unusedSimpArgs false
namespace Go.Proofs.YtddmmgcfanpmmaaDoor.Lx
open Go Go.Proofs Go.RowKit
theorem pow_le2 {a b : Nat} (h : a ≤ b) : (2 : Int) ^ b = 2 ^ (b - a) * 2 ^ a := by rw [← Int.pow_add]; congr 1; omega
theorem mbyte2 {c : Int} (h : 0 ≤ c) (j k : Int) : mbyte (mbyte c j) k = mbyte c (min j k) := by
  have e : clampK (min j k) = min (clampK j) (clampK k) := by unfold clampK; omega
  unfold mbyte
  rw [e]
  have p1 : (0 : Int) < 2 ^ (8 - clampK j) := Int.pow_pos (by omega)
  have p2 : (0 : Int) < 2 ^ (8 - clampK k) := Int.pow_pos (by omega)
  by_cases hk : clampK k ≤ clampK j
  · rw [Nat.min_eq_right hk]
    have e2 := pow_le2 (a := 8 - clampK j) (b := 8 - clampK k) (by omega)
    congr 1
    rw [e2, Int.mul_comm (2 ^ _) (2 ^ (8 - clampK j)), ← Int.ediv_ediv_of_nonneg (by omega), Int.mul_ediv_cancel _ (by omega), Int.ediv_ediv_of_nonneg (by omega)]
  · rw [Nat.min_eq_left (by omega)]
    have e2 := pow_le2 (a := 8 - clampK k) (b := 8 - clampK j) (by omega)
    rw [Int.ediv_mul_cancel]
    exact ⟨c / 2 ^ (8 - clampK j) * 2 ^ (8 - clampK j - (8 - clampK k)), by
      rw [Int.mul_comm (2 ^ (8 - clampK k)), Int.mul_assoc, ← e2]⟩
theorem maskL_get {a : List Int} {n : Int} {i : Nat} (h : i < 16) : (maskL a n).getD i 0 = mbyte (a.getD i 0) (n - 8 * (i : Int)) := by
  unfold maskL
  rw [List.getD, List.getElem?_map, List.getElem?_range h]
  rfl
theorem maskM2 {a : Vec Int 16} (hb : Byt a.l) (n m : Int) : maskM (maskM a n) m = maskM a (min n m) := by
  refine Vec.eq (show maskL (maskL a.l n) m = maskL a.l (min n m) from List.map_congr_left fun i hi => ?_)
  have hi := List.mem_range.1 hi
  show mbyte ((maskL a.l n).getD i 0) _ = _
  rw [maskL_get hi, mbyte2 (getD_byt hb i).1]
  congr 1
  omega
theorem mbyte_zero (k : Int) : mbyte 0 k = 0 := by
  unfold mbyte
  rw [Int.zero_ediv, Int.zero_mul]
theorem sizeM_mask {ip : api_IP} (n : Int) (h : sizeM ip ≠ 0) : sizeM ⟨ip.V, maskM ip.A n⟩ = sizeM ip := by
  unfold sizeM at h ⊢
  simp only
  by_cases h6 : ip.V = 6
  · rw [if_pos h6, if_pos h6]
  · rw [if_neg h6] at h ⊢
    rw [if_neg h6]
    by_cases h4 : ip.V = 4 ∧ ip.A.l.drop 4 = List.replicate 12 0
    · have : (maskM ip.A n).l.drop 4 = List.replicate 12 0 := by
        show (maskL ip.A.l n).drop 4 = _
        rw [List.eq_replicate_iff]
        refine ⟨by simp [maskL], fun b hb => ?_⟩
        unfold maskL at hb
        rw [← List.map_drop, show (List.range 16).drop 4 = [4, 5, 6, 7, 8, 9, 10, 11, 12, 13, 14, 15] from rfl] at hb
        obtain ⟨i, hi, rfl⟩ := List.mem_map.1 hb
        have hi : 4 ≤ i ∧ i < 16 := by
          simp only [List.mem_cons, List.not_mem_nil, or_false] at hi
          omega
        have : ip.A.l.getD i 0 = 0 := by
          have e := congrArg (fun l => l.getD (i - 4) 0) h4.2
          simp only [List.getD, List.getElem?_drop] at e
          rw [show 4 + (i - 4) = i by omega, List.getElem?_replicate, if_pos (show i - 4 < 12 by omega)] at e
          exact e
        rw [this, mbyte_zero]
      rw [if_pos ⟨h4.1, this⟩, if_pos h4]
    · rw [if_neg h4] at h
      exact absurd rfl h
theorem sizeM_V {a b : api_IP} (h : a.V = b.V) (ha : sizeM a > 0) (hb : sizeM b > 0) : sizeM a = sizeM b := by
  unfold sizeM at ha hb ⊢
  rw [h] at ha ⊢
  split
  · rfl
  · rename_i h6
    rw [if_neg h6] at ha hb
    split at ha
    · split at hb
      · rename_i x y
        rw [if_pos x, if_pos y]
      · omega
    · omega
theorem mkM_zero {ip : api_IP} {n : Int} (h : (mkM ip n).2 = 0) : sizeM ip > 0 ∧ 0 ≤ n ∧ n ≤ sizeM ip ∧ mkM ip n = (⟨ip.V, maskM ip.A n⟩, 0) := by
  have h0 := sizeM_le ip
  unfold mkM at h ⊢
  split at h
  · cases h
  · rename_i h1
    split at h
    · cases h
    · rename_i h2
      rw [if_neg h1, if_neg h2]
      exact ⟨by omega, by omega, by omega, rfl⟩
theorem mkM_pos {ip : api_IP} {n : Int} (h1 : sizeM ip > 0) (h2 : 0 ≤ n) (h3 : n ≤ sizeM ip) : mkM ip n = (⟨ip.V, maskM ip.A n⟩, 0) := by
  unfold mkM
  rw [if_neg (by omega), if_neg (by omega)]
theorem mkM_err {ip : api_IP} {n : Int} (h : (mkM ip n).2 ≠ 0) : (mkM ip n).1 = z_api_IP := by
  unfold mkM at h ⊢
  split at h
  · rename_i h1
    rw [if_pos h1]
  · rename_i h1
    split at h
    · rename_i h2
      rw [if_neg h1, if_pos h2]
    · exact absurd rfl h
theorem vpM_mask {ip : api_IP} (hb : Byt ip.A.l) {n : Int} (h1 : sizeM ip > 0) (h2 : 0 ≤ n) (h3 : n ≤ sizeM ip) : vpM ⟨⟨ip.V, maskM ip.A n⟩, n⟩ = 0 := by
  unfold vpM
  simp only
  rw [sizeM_mask n (by omega), if_neg (by omega), if_neg (by omega), maskM2 hb, Int.min_self, if_pos rfl]
theorem ctM_iff {ip o : api_IP} (hb : Byt ip.A.l) {n : Int} (h1 : sizeM ip > 0) (h2 : 0 ≤ n) (h3 : n ≤ sizeM ip) : ctM ⟨⟨ip.V, maskM ip.A n⟩, n⟩ o = decide (sizeM o > 0 ∧ ip.V = o.V ∧ maskM o.A n = maskM ip.A n) := by
  unfold ctM
  rw [vpM_mask hb h1 h2 h3]
  simp
theorem in_iff {ip o : api_IP} {n : Int} (h1 : sizeM ip > 0) (h2 : 0 ≤ n) (h3 : n ≤ sizeM ip) : (sizeM o > 0 ∧ ip.V = o.V ∧ maskM o.A n = maskM ip.A n) ↔ ((mkM o n).2 = 0 ∧ o.V = ip.V ∧ (mkM o n).1 = ⟨ip.V, maskM ip.A n⟩) := by
  constructor
  · rintro ⟨a, b, c⟩
    have hs := sizeM_V b h1 a
    rw [mkM_pos a h2 (by omega)]
    exact ⟨rfl, b.symm, by rw [b, c]⟩
  · rintro ⟨a, b, c⟩
    obtain ⟨d, _, _, e⟩ := mkM_zero a
    rw [e] at c
    exact ⟨d, b.symm, congrArg api_IP.A c⟩
section
variable {W w : World} {Hs : List HP}
theorem AddrNets_wp (s : Ss W Hs w) (t t' : Nat) (et : nth Hs t = some TabN) (et' : nth Hs t' = some TabC) (ip o : api_IP) (hb : Byt ip.A.l) (ho : Byt o.A.l) (n m : Int) : WP (weirlaw4_AddrNets ip o n m) w (fun r w' => r = true ∧ Ss W Hs w') := by
  unfold weirlaw4_AddrNets
  refine WP.slot' s (fun _ w s => WP.slot' s (fun _ w s => WP.step (Mask_wp s ip hb n) ?_))
  rintro _ w ⟨rfl, s⟩
  refine WP.slot' s (fun _ w s => num_wp (WP.ite (fun h => WP.step (started_wp s t t' et et') ?_) (fun h => ?_)))
  · rintro _ w ⟨rfl, s⟩
    refine WP.step (R := fun y w' => y = true ∧ w = w') (WP.ite (fun _ => WP.ret ⟨eqv_iff.2 (mkM_err h), rfl⟩) (fun h => absurd rfl h)) ?_
    rintro _ _ ⟨rfl, rfl⟩
    exact WP.ret ⟨rfl, s⟩
  obtain ⟨h1, h2, h3, e⟩ := mkM_zero (Decidable.not_not.1 h)
  rw [e]
  have hv := vpM_mask hb h1 h2 h3
  have hma := maskL_byt n hb
  have hsa := sizeM_mask n (show sizeM ip ≠ 0 by omega)
  refine WP.slot' s (fun _ w s => WP.step (ValidPrefix_wp s _ hma) ?_)
  rintro _ w ⟨rfl, s⟩
  rw [hv]
  refine num_wp ?_
  refine WP.step (R := fun y w' => y = false ∧ Ss W Hs w') (WP.ite (fun h => absurd rfl h) (fun _ => WP.step (Contains_wp s _ hma ip hb) ?_)) ?_
  · rintro _ w ⟨rfl, s⟩
    refine WP.ret ⟨?_, s⟩
    rw [ctM_iff hb h1 h2 h3, decide_eq_true ⟨h1, rfl, rfl⟩]
    rfl
  rintro _ w ⟨rfl, s⟩
  refine WP.step (R := fun y w' => y = false ∧ Ss W Hs w') (WP.ite (fun h => by cases h) (fun _ => WP.step (Contains_wp s _ hma _ hma) ?_)) ?_
  · rintro _ w ⟨rfl, s⟩
    refine WP.ret ⟨?_, s⟩
    rw [ctM_iff hb h1 h2 h3, decide_eq_true ⟨by rw [hsa]; exact h1, rfl, by rw [maskM2 hb, Int.min_self]⟩]
    rfl
  rintro _ w ⟨rfl, s⟩
  refine WP.ite (fun h => by cases h) (fun _ => WP.step (Mask_wp s o ho n) ?_)
  rintro _ w ⟨rfl, s⟩
  refine WP.slot' s (fun _ w s => num_wp ?_)
  refine WP.step (R := fun y w' => y = decide ((mkM o n).2 = 0 ∧ o.V = ip.V) ∧ w = w') (WP.ite (fun h => WP.ret ⟨?_, rfl⟩) (fun h => WP.ret ⟨?_, rfl⟩)) ?_
  · by_cases hV : o.V = ip.V <;> simp [h, hV]
  · simp [h]
  rintro _ _ ⟨rfl, rfl⟩
  refine WP.step (R := fun y w' => y = decide (sizeM o > 0 ∧ ip.V = o.V ∧ maskM o.A n = maskM ip.A n) ∧ w = w') (WP.ite (fun h => WP.ret ⟨?_, rfl⟩) (fun h => WP.ret ⟨?_, rfl⟩)) ?_
  · have h := of_decide_eq_true h
    rw [Bool.eq_iff_iff, eqv_iff, decide_eq_true_iff, in_iff h1 h2 h3]
    exact ⟨fun e => ⟨h.1, h.2, e⟩, fun e => e.2.2⟩
  · refine (decide_eq_false fun e => h (decide_eq_true ?_)).symm
    have := (in_iff h1 h2 h3).1 e
    exact ⟨this.1, this.2.1⟩
  rintro _ _ ⟨rfl, rfl⟩
  refine WP.step (Contains_wp s _ hma o ho) ?_
  rintro _ w ⟨rfl, s⟩
  rw [ctM_iff hb h1 h2 h3]
  refine WP.ite (fun h => absurd rfl h) (fun _ => WP.step (Mask_wp s _ hma m) ?_)
  rintro _ w ⟨rfl, s⟩
  refine WP.slot' s (fun _ w s => num_wp (WP.ite (fun h => WP.step (started_wp s t t' et et') ?_) (fun h => ?_)))
  · rintro _ w ⟨rfl, s⟩
    exact WP.ret ⟨rfl, s⟩
  obtain ⟨k1, k2, k3, k4⟩ := mkM_zero (Decidable.not_not.1 h)
  rw [hsa] at k3
  rw [k4]
  have hmin : (if m < n then m else n) = min n m := by
    split <;> omega
  rw [hmin]
  have m1 : 0 ≤ min n m := by omega
  have m2 : min n m ≤ sizeM ip := by omega
  refine WP.step (Mask_wp s ip hb _) ?_
  rintro _ w ⟨rfl, s⟩
  rw [mkM_pos h1 m1 m2]
  refine WP.slot' s (fun _ w s => WP.slot' s (fun _ w s => WP.step (started_wp s t t' et et') ?_))
  rintro _ w ⟨rfl, s⟩
  refine WP.step (R := fun y w' => y = true ∧ w = w') (WP.ite (fun _ => num_wp (WP.ret ⟨rfl, rfl⟩)) (fun h => absurd rfl h)) ?_
  rintro _ _ ⟨rfl, rfl⟩
  refine WP.step (R := fun y w' => y = true ∧ w = w') (WP.ite (fun _ => WP.ret ⟨eqv_iff.2 (by simp only; rw [maskM2 hb]), rfl⟩) (fun h => absurd rfl h)) ?_
  rintro _ _ ⟨rfl, rfl⟩
  have hmb := maskL_byt (min n m) hb
  refine WP.step (R := fun y w' => y = true ∧ Ss W Hs w') (WP.ite (fun _ => WP.step (Contains_wp s _ hmb ip hb) ?_) (fun h => absurd rfl h)) ?_
  · rintro _ w ⟨rfl, s⟩
    refine WP.ret ⟨?_, s⟩
    rw [ctM_iff hb h1 m1 m2]
    exact decide_eq_true ⟨h1, rfl, rfl⟩
  rintro _ w ⟨rfl, s⟩
  refine WP.step (R := fun y w' => y = true ∧ Ss W Hs w') (WP.ite (fun _ => WP.step (R := fun y w' => y = true ∧ Ss W Hs w') (WP.ite (fun _ => WP.ret ⟨rfl, s⟩) (fun h => WP.step (Contains_wp s _ hmb o ho) ?_)) (fun r w h => WP.ret h)) (fun h => absurd rfl h)) ?_
  · have h := of_decide_eq_true (Decidable.not_not.1 h)
    rintro _ w ⟨rfl, s⟩
    refine WP.ret ⟨?_, s⟩
    rw [ctM_iff hb h1 m1 m2]
    refine decide_eq_true ⟨h.1, h.2.1, ?_⟩
    rw [← maskM2 ho, ← maskM2 hb, h.2.2]
  rintro _ w ⟨rfl, s⟩
  exact WP.ret ⟨rfl, s⟩
end
end Go.Proofs.YtddmmgcfanpmmaaDoor.Lx
