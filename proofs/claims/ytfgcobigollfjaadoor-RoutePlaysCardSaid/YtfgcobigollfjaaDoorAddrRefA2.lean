
import Derived.Test.YtfgcobigollfjaaDoorAddrRefA
set_option linter.unusedVariables false
set_option linter.unusedSimpArgs false
namespace Go.Proofs.YtfgcobigollfjaaDoor.Lx
open Go Go.Proofs Go.RowKit
section
variable {W w : World} {Hs : List HP}
theorem Zgg (s : Ss W Hs w) (p : Zar) (hb : Byt p.IP.A.l) (ip : ZaH) (hb2 : Byt ip.A.l) : WP (ZaU p ip) w (fun r w' => r = ctM p ip ∧ Ss W Hs w') := by
 unfold ZaU
 refine WP.slot' s (fun _ w s => WP.slot' s (fun _ w s => WP.step (ZdQ s p hb) ?_))
 rintro _ w ⟨rfl, s⟩
 refine WP.step (ZgJ s ip) ?_
 rintro _ w ⟨rfl, s⟩
 refine WP.step (R := fun y w' => y = decide (vpM p ≠ 0 ∨ ¬ Zbo ip > 0) ∧ w = w') (WP.ite (fun h => WP.ret ⟨by simp [h], rfl⟩) (fun h => WP.ret ⟨by rw [Bool.eq_iff_iff]; simp [Decidable.not_not.1 h], rfl⟩)) ?_
 rintro _ _ ⟨rfl, rfl⟩
 refine WP.step (R := fun y w' => y = decide (vpM p ≠ 0 ∨ ¬ Zbo ip > 0 ∨ p.IP.V ≠ ip.V) ∧ w = w') (WP.ite (fun h => WP.ret ⟨?_, rfl⟩) (fun h => WP.ret ⟨?_, rfl⟩)) ?_
 ·have := of_decide_eq_true h
  refine (decide_eq_true ?_).symm
  rcases this with h | h
  ·exact .inl h
  ·exact .inr (.inl h)
 ·have hn : ¬ (vpM p ≠ 0 ∨ ¬ Zbo ip > 0) := fun h' => h (decide_eq_true h')
  rw [bne, Bool.eq_iff_iff]
  simp only [Bool.not_eq_true', beq_eq_false_iff_ne, ne_eq, decide_eq_true_eq]
  exact ⟨fun h => .inr (.inr h), fun h => by
   rcases h with h | h | h
   ·exact absurd (.inl h) hn
   ·exact absurd (.inr h) hn
   ·exact h⟩
 rintro _ _ ⟨rfl, rfl⟩
 refine WP.ite (fun h => WP.ret ⟨?_, s⟩) (fun h => ?_)
 ·have := of_decide_eq_true h
  refine (decide_eq_false fun h2 => ?_).symm
  rcases this with h | h | h
  ·exact h h2.1
  ·exact h h2.2.1
  ·exact h h2.2.2.1
 have hn : ¬ (vpM p ≠ 0 ∨ ¬ Zbo ip > 0 ∨ p.IP.V ≠ ip.V) := fun h' => h (decide_eq_true h')
 have hv : vpM p = 0 := Decidable.not_not.1 fun h' => hn (.inl h')
 have hs : Zbo ip > 0 := Decidable.not_not.1 fun h' => hn (.inr (.inl h'))
 have hV : p.IP.V = ip.V := Decidable.not_not.1 fun h' => hn (.inr (.inr h'))
 obtain ⟨_, l0, l1, l2⟩ := ZhI hv
 have hz := Zd2 p.IP
 have hct : ctM p ip = decide (∀ i : Nat, i < 128 → (i : Int) < p.Len → bitM ip.A.l i = bitM p.IP.A.l i) := by
  unfold ctM
  rw [decide_eq_decide, ← Zk0 hb2 hb, l2]
  exact ⟨fun h => h.2.2.2, fun h => ⟨hv, hs, hV, h⟩⟩
 refine WP.loopG (γ := Nat) (fun i (x : Int) w => x = (i : Int) ∧ (i : Int) ≤ p.Len ∧ (∀ j : Nat, j < i → bitM ip.A.l j = bitM p.IP.A.l j) ∧ Ss W Hs w) (fun i _ => p.Len.toNat - i) 0 ⟨rfl, by omega, fun j h => by omega, s⟩ ?_
 clear s
 rintro i _ w ⟨rfl, h1, hq, s⟩
 show WP (ZaU.L1 p ip (i : Int)) w _
 unfold ZaU.L1
 refine WP.ite (fun h => WP.draw' s (fun w s => WP.step (Zly s p.IP hb (i := i) (by omega)) ?_)) (fun h => WP.done ⟨?_, s⟩)
 ·rintro _ w ⟨rfl, s⟩
  refine WP.step (Zly s ip hb2 (i := i) (by omega)) ?_
  rintro _ w ⟨rfl, s⟩
  refine WP.ite (fun e => WP.done ⟨?_, s⟩) (fun e => ?_)
  ·rw [hct]
   exact (decide_eq_false fun hh => e (hh i (by omega) (by omega)).symm).symm
  ·rw [ZaP (by omega) (by omega)]
   refine WP.next ⟨i + 1, ⟨by omega, by omega, fun j j1 => ?_, s⟩, by omega⟩
   by_cases ej : j = i
   ·subst ej
    exact (Decidable.not_not.1 e).symm
   ·exact hq j (by omega)
 ·rw [hct]
  exact (decide_eq_true fun j _ j2 => hq j (by omega)).symm
end
end Go.Proofs.YtfgcobigollfjaaDoor.Lx
