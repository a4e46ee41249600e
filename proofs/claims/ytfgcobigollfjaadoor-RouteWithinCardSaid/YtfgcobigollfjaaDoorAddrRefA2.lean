
import Derived.Test.YtfgcobigollfjaaDoorAddrRefA
set_option linter.unusedVariables false
set_option linter.unusedSimpArgs false
namespace Go.Proofs.YtfgcobigollfjaaDoor.Lx
open Go Go.Proofs Go.RowKit
section
variable {W w : World} {Hs : List HP}
theorem rContains_wp (s : Ss W Hs w) (p : api_Prefix) (hb : Byt p.IP.A.l) (ip : api_IP) (hb2 : Byt ip.A.l) : WP (weirref4_Contains p ip) w (fun r w' => r = ctM p ip ∧ Ss W Hs w') := by
 unfold weirref4_Contains
 refine WP.slot' s (fun _ w s => WP.slot' s (fun _ w s => WP.step (rValidPrefix_wp s p hb) ?_))
 rintro _ w ⟨rfl, s⟩
 refine WP.step (rValid_wp s ip) ?_
 rintro _ w ⟨rfl, s⟩
 refine WP.step (R := fun y w' => y = decide (vpM p ≠ 0 ∨ ¬ sizeM ip > 0) ∧ w = w') (WP.ite (fun h => WP.ret ⟨by simp [h], rfl⟩) (fun h => WP.ret ⟨by rw [Bool.eq_iff_iff]; simp [Decidable.not_not.1 h], rfl⟩)) ?_
 rintro _ _ ⟨rfl, rfl⟩
 refine WP.step (R := fun y w' => y = decide (vpM p ≠ 0 ∨ ¬ sizeM ip > 0 ∨ p.IP.V ≠ ip.V) ∧ w = w') (WP.ite (fun h => WP.ret ⟨?_, rfl⟩) (fun h => WP.ret ⟨?_, rfl⟩)) ?_
 ·have := of_decide_eq_true h
  refine (decide_eq_true ?_).symm
  rcases this with h | h
  ·exact .inl h
  ·exact .inr (.inl h)
 ·have hn : ¬ (vpM p ≠ 0 ∨ ¬ sizeM ip > 0) := fun h' => h (decide_eq_true h')
  rw [bne, Bool.eq_iff_iff]
  simp only [Bool.not_eq_true', beq_eq_false_iff_ne, ne_eq, decide_eq_true_eq]
  exact ⟨fun h => .inr (.inr h), fun h => by
   rcases h with h | h | h
   ·exact absurd (.inl h) hn
   ·exact absurd (.inr h) hn
   ·exact h⟩
 rintro _ _ ⟨rfl, rfl⟩
 refine WP.ite (fun h => WP.ret ⟨?_, s⟩) (fun h => ?_)
 ·have := of_decide_eq_true h
  refine (decide_eq_false fun h2 => ?_).symm
  rcases this with h | h | h
  ·exact h h2.1
  ·exact h h2.2.1
  ·exact h h2.2.2.1
 have hn : ¬ (vpM p ≠ 0 ∨ ¬ sizeM ip > 0 ∨ p.IP.V ≠ ip.V) := fun h' => h (decide_eq_true h')
 have hv : vpM p = 0 := Decidable.not_not.1 fun h' => hn (.inl h')
 have hs : sizeM ip > 0 := Decidable.not_not.1 fun h' => hn (.inr (.inl h'))
 have hV : p.IP.V = ip.V := Decidable.not_not.1 fun h' => hn (.inr (.inr h'))
 obtain ⟨_, l0, l1, l2⟩ := vpM_len hv
 have hz := sizeM_le p.IP
 have hct : ctM p ip = decide (∀ i : Nat, i < 128 → (i : Int) < p.Len → bitM ip.A.l i = bitM p.IP.A.l i) := by
  unfold ctM
  rw [decide_eq_decide, ← mask_same hb2 hb, l2]
  exact ⟨fun h => h.2.2.2, fun h => ⟨hv, hs, hV, h⟩⟩
 refine WP.loopG (γ := Nat) (fun i (x : Int) w => x = (i : Int) ∧ (i : Int) ≤ p.Len ∧ (∀ j : Nat, j < i → bitM ip.A.l j = bitM p.IP.A.l j) ∧ Ss W Hs w) (fun i _ => p.Len.toNat - i) 0 ⟨rfl, by omega, fun j h => by omega, s⟩ ?_
 clear s
 rintro i _ w ⟨rfl, h1, hq, s⟩
 show WP (weirref4_Contains.L1 p ip (i : Int)) w _
 unfold weirref4_Contains.L1
 refine WP.ite (fun h => WP.draw' s (fun w s => WP.step (bit_wp s p.IP hb (i := i) (by omega)) ?_)) (fun h => WP.done ⟨?_, s⟩)
 ·rintro _ w ⟨rfl, s⟩
  refine WP.step (bit_wp s ip hb2 (i := i) (by omega)) ?_
  rintro _ w ⟨rfl, s⟩
  refine WP.ite (fun e => WP.done ⟨?_, s⟩) (fun e => ?_)
  ·rw [hct]
   exact (decide_eq_false fun hh => e (hh i (by omega) (by omega)).symm).symm
  ·rw [wrap_i64 (by omega) (by omega)]
   refine WP.next ⟨i + 1, ⟨by omega, by omega, fun j j1 => ?_, s⟩, by omega⟩
   by_cases ej : j = i
   ·subst ej
    exact (Decidable.not_not.1 e).symm
   ·exact hq j (by omega)
 ·rw [hct]
  exact (decide_eq_true fun j _ j2 => hq j (by omega)).symm
end
end Go.Proofs.YtfgcobigollfjaaDoor.Lx
