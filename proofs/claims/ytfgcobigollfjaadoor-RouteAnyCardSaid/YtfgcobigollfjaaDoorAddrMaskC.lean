
import Derived.Test.YtfgcobigollfjaaDoorAddrMask
set_option linter.unusedVariables false
set_option linter.unusedSimpArgs false
namespace Go.Proofs.YtfgcobigollfjaaDoor.Lx
open Go Go.Proofs Go.RowKit
section
variable {W w : World} {Hs : List HP}
theorem Mask_wp (s : Ss W Hs w) (ip : api_IP) (hb : Byt ip.A.l) (n : Int) : WP (addr_Mask ip n) w (fun r w' => r = mkM ip n ∧ Ss W Hs w') := by
  unfold addr_Mask
  have hz := sizeM_le ip
  refine WP.slot' s (fun _ w s => WP.slot' s (fun _ w s => WP.step (size_wp s ip) ?_))
  rintro _ w ⟨rfl, s⟩
  refine WP.ite (fun h => WP.ret ⟨by unfold mkM; rw [if_pos h], s⟩) (fun h0 => ?_)
  refine WP.step (R := fun y w' => y = decide (n < 0 ∨ n > sizeM ip) ∧ Ss W Hs w') (WP.ite (fun h => WP.ret ⟨by simp [h], s⟩) (fun h => WP.ret ⟨by simp [h], s⟩)) ?_
  rintro _ w ⟨rfl, s⟩
  refine WP.ite (fun h => WP.ret ⟨by unfold mkM; rw [if_neg h0, if_pos (of_decide_eq_true h)], s⟩) (fun h => WP.draw' s (fun w s => ?_))
  have hn : ¬ (n < 0 ∨ n > sizeM ip) := fun h' => h (decide_eq_true h')
  refine WP.step (masked_wp s ip.A hb (by omega) (by omega)) ?_
  rintro _ w ⟨rfl, s⟩
  exact WP.ret ⟨by unfold mkM; rw [if_neg h0, if_neg hn], s⟩
theorem Contains_wp (s : Ss W Hs w) (p : api_Prefix) (hb : Byt p.IP.A.l) (ip : api_IP) (hb2 : Byt ip.A.l) : WP (addr_Contains p ip) w (fun r w' => r = ctM p ip ∧ Ss W Hs w') := by
  unfold addr_Contains
  refine WP.slot' s (fun _ w s => WP.slot' s (fun _ w s => WP.step (ValidPrefix_wp s p hb) ?_))
  rintro _ w ⟨rfl, s⟩
  refine WP.step (R := fun y w' => y = decide (vpM p ≠ 0 ∨ ¬ sizeM ip > 0) ∧ Ss W Hs w') (WP.ite (fun h => WP.ret ⟨by simp [h], s⟩) (fun h => WP.step (Valid_wp s ip) ?_)) ?_
  · rintro _ w ⟨rfl, s⟩
    exact WP.ret ⟨by rw [Bool.eq_iff_iff]; simp [Decidable.not_not.1 h], s⟩
  rintro _ w ⟨rfl, s⟩
  refine WP.step (R := fun y w' => y = decide (vpM p ≠ 0 ∨ ¬ sizeM ip > 0 ∨ p.IP.V ≠ ip.V) ∧ Ss W Hs w') (WP.ite (fun h => WP.ret ⟨?_, s⟩) (fun h => WP.ret ⟨?_, s⟩)) ?_
  · have := of_decide_eq_true h
    refine (decide_eq_true ?_).symm
    rcases this with h | h
    · exact .inl h
    · exact .inr (.inl h)
  · have hn : ¬ (vpM p ≠ 0 ∨ ¬ sizeM ip > 0) := fun h' => h (decide_eq_true h')
    rw [bne, Bool.eq_iff_iff]
    simp only [Bool.not_eq_true', beq_eq_false_iff_ne, ne_eq, decide_eq_true_eq]
    exact ⟨fun h => .inr (.inr h), fun h => by
      rcases h with h | h | h
      · exact absurd (.inl h) hn
      · exact absurd (.inr h) hn
      · exact h⟩
  rintro _ w ⟨rfl, s⟩
  refine WP.ite (fun h => WP.ret ⟨?_, s⟩) (fun h => WP.draw' s (fun w s => ?_))
  · have := of_decide_eq_true h
    refine (decide_eq_false fun h2 => ?_).symm
    rcases this with h | h | h
    · exact h h2.1
    · exact h h2.2.1
    · exact h h2.2.2.1
  · have hn : ¬ (vpM p ≠ 0 ∨ ¬ sizeM ip > 0 ∨ p.IP.V ≠ ip.V) := fun h' => h (decide_eq_true h')
    have hv : vpM p = 0 := Decidable.not_not.1 fun h' => hn (.inl h')
    obtain ⟨_, l0, l1, _⟩ := vpM_len hv
    have hz := sizeM_le p.IP
    refine WP.step (masked_wp s ip.A hb2 l0 (by omega)) ?_
    rintro _ w ⟨rfl, s⟩
    refine WP.ret ⟨eqv_of ?_, s⟩
    unfold ctM
    rw [decide_eq_true_iff]
    exact ⟨fun h => h.2.2.2, fun h => ⟨hv, Decidable.not_not.1 fun h' => hn (.inr (.inl h')), Decidable.not_not.1 fun h' => hn (.inr (.inr h')), h⟩⟩
end
end Go.Proofs.YtfgcobigollfjaaDoor.Lx
