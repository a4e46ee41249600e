
import Derived.Test.YtfgcobigollfjaaDoorAddrBits
set_option linter.unusedVariables false
set_option linter.unusedSimpArgs false
namespace Go.Proofs.YtfgcobigollfjaaDoor.Lx
open Go Go.Proofs Go.RowKit
section
variable {W w : World} {Hs : List HP}
theorem vecg {a : Vec Int 16} (i : Nat) : Vec.g a (i : Int) 0 = a.l.getD i 0 := by
 unfold Vec.g
 rw [Int.toNat_natCast]
theorem ZgJ (s : Ss W Hs w) (ip : ZaH) : WP (Za3 ip) w (fun r w' => r = decide (Zbo ip > 0) ∧ Ss W Hs w') := by
 unfold Za3
 refine WP.slot' s (fun _ w s => WP.ite (fun h => WP.ret ⟨?_, s⟩) (fun h => ?_))
 ·unfold Zbo
  by_cases h6 : ip.V = 6
  ·simp [h6]
  ·rw [if_neg h6, if_neg (fun h' => h h'.1)]
   simp [h6]
 have h4 : ip.V = 4 := Decidable.not_not.1 h
 have hs : Zbo ip > 0 ↔ ∀ j, 4 ≤ j → j < 16 → ip.A.l.getD j 0 = 0 := by
  have hl := ip.A.h
  unfold Zbo
  rw [if_neg (by omega)]
  constructor
  ·intro h j h1 h2
   split at h
   ·rename_i hz
    have e := congrArg (fun l => l.getD (j - 4) 0) hz.2
    simp only [List.getD, List.getElem?_drop] at e
    rw [show 4 + (j - 4) = j by omega, List.getElem?_replicate, if_pos (show j - 4 < 12 by omega)] at e
    exact e
   ·omega
  ·intro h
   have hz : ip.A.l.drop 4 = List.replicate 12 0 := by
    rw [List.eq_replicate_iff]
    refine ⟨by rw [List.length_drop]; omega, fun b hb => ?_⟩
    obtain ⟨q, hq⟩ := List.mem_iff_getElem?.1 hb
    have hlt := (List.getElem?_eq_some_iff.1 hq).1
    rw [List.length_drop] at hlt
    rw [List.getElem?_drop] at hq
    have := h (4 + q) (by omega) (by omega)
    rw [List.getD, hq] at this
    exact this
   have e : (if ip.V = 4 ∧ ip.A.l.drop 4 = List.replicate 12 0 then (32 : Int) else 0) = 32 := if_pos ⟨h4, hz⟩
   omega
 refine WP.loopG (γ := Nat) (fun i (x : Int) w => x = (i : Int) ∧ 4 ≤ i ∧ i ≤ 16 ∧ (∀ j, 4 ≤ j → j < i → ip.A.l.getD j 0 = 0) ∧ Ss W Hs w) (fun i _ => 16 - i) 4 ⟨rfl, by omega, by omega, fun j h1 h2 => by omega, s⟩ ?_
 clear s
 rintro i _ w ⟨rfl, h1, h2, hz, s⟩
 show WP (Za3.L1 ip (i : Int)) w _
 unfold Za3.L1
 refine WP.ite (fun h => WP.chk ⟨by omega, by omega⟩ ?_) (fun h => WP.done ⟨?_, s⟩)
 ·rw [vecg]
  refine WP.ite (fun h' => WP.done ⟨?_, s⟩) (fun h' => ?_)
  ·rw [decide_eq_false]
   intro hh
   exact h' (hs.1 hh i h1 (by omega))
  ·rw [ZaP (by omega) (by omega)]
   refine WP.next ⟨i + 1, ⟨by omega, by omega, by omega, fun j j1 j2 => ?_, s⟩, by omega⟩
   by_cases e : j = i
   ·subst e
    exact Decidable.not_not.1 h'
   ·exact hz j j1 (by omega)
 ·exact (decide_eq_true (hs.2 fun j j1 j2 => hz j j1 (by omega))).symm
theorem Zjt (s : Ss W Hs w) (ip : ZaH) (h : Zbo ip > 0) : WP (Zcc ip) w (fun r w' => r = Zbo ip ∧ Ss W Hs w') := by
 unfold Zcc
 rw [ZlQ h]
 exact WP.slot' s (fun _ w s => WP.ite (fun h => WP.ret ⟨by rw [if_pos h], s⟩) (fun h => WP.ret ⟨by rw [if_neg h], s⟩))
theorem Zly (s : Ss W Hs w) (ip : ZaH) (hb : Byt ip.A.l) {i : Nat} (hi : i < 128) : WP (Zbe ip (i : Int)) w (fun r w' => r = bitM ip.A.l i ∧ Ss W Hs w') := by
 unfold Zbe
 have e1 : IntKind.wrap .i64 (Int.tdiv (i : Int) 8) = ((i / 8 : Nat) : Int) := by
  rw [Int.tdiv_eq_ediv_of_nonneg (by omega), ZaP (by omega) (by omega)]
  omega
 have e2 : Int.tmod (i : Int) 8 = ((i % 8 : Nat) : Int) := by
  rw [Int.tmod_eq_emod_of_nonneg (by omega)]
  omega
 have hc := ZiD hb (i / 8)
 rw [e1, e2, vecg, ZaP (by omega) (by omega)]
 refine WP.slot' s (fun _ w s => WP.chk ⟨by omega, by omega⟩ ?_)
 refine WP.loopG (γ := Nat) (fun k (x : Int × Int) w => x.1 = ip.A.l.getD (i / 8) 0 / 2 ^ (k - i % 8) ∧ x.2 = (k : Int) ∧ i % 8 ≤ k ∧ k ≤ 7 ∧ Ss W Hs w) (fun k _ => 7 - k) (i % 8) ⟨by simp, rfl, Nat.le_refl _, by omega, s⟩ ?_
 clear s
 rintro k ⟨_, _⟩ w ⟨rfl, rfl, h1, h2, s⟩
 show WP (Zbe.L1 (ip.A.l.getD (i / 8) 0 / 2 ^ (k - i % 8)) (k : Int)) w _
 unfold Zbe.L1
 have hp : (0 : Int) < 2 ^ (k - i % 8) := Int.pow_pos (by omega)
 have hq : 0 ≤ ip.A.l.getD (i / 8) 0 / 2 ^ (k - i % 8) := Int.ediv_nonneg hc.1 (by omega)
 have hq2 : ip.A.l.getD (i / 8) 0 / 2 ^ (k - i % 8) ≤ 255 := by
  have := Int.ediv_le_self (2 ^ (k - i % 8)) hc.1
  omega
 refine WP.ite (fun h => ?_) (fun h => WP.done ⟨?_, s⟩)
 ·rw [ZaP (n := (k : Int) + 1) (by omega) (by omega), Int.tdiv_eq_ediv_of_nonneg hq, ZaP (by omega) (by omega)]
  refine WP.next ⟨k + 1, ⟨?_, by simp, by omega, by omega, s⟩, by omega⟩
  simp only
  rw [Int.ediv_ediv_of_nonneg (by omega), show k + 1 - i % 8 = (k - i % 8) + 1 by omega, Int.pow_succ]
 ·have hk : k = 7 := by omega
  subst hk
  rw [Int.tmod_eq_emod_of_nonneg hq]
  rfl
theorem ZdQ (s : Ss W Hs w) (p : Zar) (hb : Byt p.IP.A.l) : WP (ZaL p) w (fun r w' => r = vpM p ∧ Ss W Hs w') := by
 have hz := Zd2 p.IP
 unfold ZaL
 refine WP.slot' s (fun _ w s => WP.step (ZgJ s p.IP) ?_)
 rintro _ w ⟨rfl, s⟩
 refine WP.ite (fun h => WP.ret ⟨?_, s⟩) (fun h => ?_)
 ·unfold vpM
  rw [if_pos]
  have : ¬ Zbo p.IP > 0 := fun h' => h (decide_eq_true h')
  omega
 have hv : Zbo p.IP > 0 := of_decide_eq_true (Decidable.not_not.1 h)
 refine WP.step (Zjt s p.IP hv) ?_
 rintro _ w ⟨rfl, s⟩
 refine WP.step (R := fun y w' => y = decide (p.Len < 0 ∨ p.Len > Zbo p.IP) ∧ w = w') (WP.ite (fun h => WP.ret ⟨by simp [h], rfl⟩) (fun h => WP.ret ⟨by simp [h], rfl⟩)) ?_
 rintro _ _ ⟨rfl, rfl⟩
 refine WP.ite (fun h => WP.ret ⟨by unfold vpM; rw [if_neg (by omega), if_pos (of_decide_eq_true h)], s⟩) (fun h => ?_)
 have hn : ¬ (p.Len < 0 ∨ p.Len > Zbo p.IP) := fun h' => h (decide_eq_true h')
 have hv2 : vpM p = if ∀ i : Nat, i < 128 → p.Len ≤ (i : Int) → bitM p.IP.A.l i = 0 then 0 else 46 := by
  unfold vpM
  rw [if_neg (by omega), if_neg hn]
  by_cases e : ZeQ p.IP.A p.Len = p.IP.A
  ·rw [if_pos e, if_pos ((Zis hb).1 e)]
  ·rw [if_neg e, if_neg (fun h => e ((Zis hb).2 h))]
 refine WP.loopG (γ := Nat) (fun i (x : Int) w => x = (i : Int) ∧ p.Len ≤ (i : Int) ∧ (i : Int) ≤ Zbo p.IP ∧ (∀ j : Nat, p.Len ≤ (j : Int) → j < i → bitM p.IP.A.l j = 0) ∧ Ss W Hs w) (fun i _ => (Zbo p.IP).toNat - i) p.Len.toNat ⟨by omega, by omega, by omega, fun j h1 h2 => by omega, s⟩ ?_
 clear s
 rintro i _ w ⟨rfl, h1, h2, hq, s⟩
 show WP (ZaL.L1 p (Zbo p.IP) (i : Int)) w _
 unfold ZaL.L1
 refine WP.ite (fun h => WP.step (Zly s p.IP hb (i := i) (by omega)) ?_) (fun h => WP.done ⟨?_, s⟩)
 ·rintro _ w ⟨rfl, s⟩
  refine WP.ite (fun e => WP.done ⟨?_, s⟩) (fun e => ?_)
  ·rw [hv2, if_neg (fun hh => by have := hh i (by omega) h1; omega)]
  ·have e0 : bitM p.IP.A.l i = 0 := (Zm8 _ _).resolve_right e
   rw [ZaP (by omega) (by omega)]
   refine WP.next ⟨i + 1, ⟨by omega, by omega, by omega, fun j j1 j2 => ?_, s⟩, by omega⟩
   by_cases ej : j = i
   ·subst ej
    exact e0
   ·exact hq j j1 (by omega)
 ·rw [hv2, if_pos]
  intro j j1 j2
  by_cases ej : j < i
  ·exact hq j j2 ej
  ·exact Zmh hv (by omega) j1
end
end Go.Proofs.YtfgcobigollfjaaDoor.Lx
