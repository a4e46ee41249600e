
import Derived.Test.YtpmhinidiplhiaaGreatDoorAddrBits
set_option linter.unusedVariables false
set_option linter.unusedSimpArgs false
namespace Go.Proofs.YtpmhinidiplhiaaGreatDoor.Lx
open Go Go.Proofs Go.RowKit
section
variable {W w : World} {Hs : List HP}
theorem vecg {a : Vec Int 16} (i : Nat) : Vec.g a (i : Int) 0 = a.l.getD i 0 := by
 unfold Vec.g
 rw [Int.toNat_natCast]
theorem Zmq (s : Ss W Hs w) (ip : Zbe) : WP (Za8 ip) w (fun r w' => r = decide (Zdq ip > 0) ∧ Ss W Hs w') := by
 unfold Za8
 refine WP.slot' s (fun _ w s => WP.ite (fun h => WP.ret ⟨?_, s⟩) (fun h => ?_))
 ·unfold Zdq
  by_cases h6 : ip.V = 6
  ·simp [h6]
  ·rw [if_neg h6, if_neg (fun h' => h h'.1)]
   simp [h6]
 have h4 : ip.V = 4 := Decidable.not_not.1 h
 have hs : Zdq ip > 0 ↔ ∀ j, 4 ≤ j → j < 16 → ip.A.l.getD j 0 = 0 := by
  have hl := ip.A.h
  unfold Zdq
  rw [if_neg (by omega)]
  constructor
  ·intro h j h1 h2
   split at h
   ·rename_i hz
    have e := congrArg (fun l => l.getD (j - 4) 0) hz.2
    simp only [List.getD, List.getElem?_drop] at e
    rw [show 4 + (j - 4) = j by omega, List.getElem?_replicate, if_pos (show j - 4 < 12 by omega)] at e
    exact e
   ·omega
  ·intro h
   have hz : ip.A.l.drop 4 = List.replicate 12 0 := by
    rw [List.eq_replicate_iff]
    refine ⟨by rw [List.length_drop]; omega, fun b hb => ?_⟩
    obtain ⟨q, hq⟩ := List.mem_iff_getElem?.1 hb
    have hlt := (List.getElem?_eq_some_iff.1 hq).1
    rw [List.length_drop] at hlt
    rw [List.getElem?_drop] at hq
    have := h (4 + q) (by omega) (by omega)
    rw [List.getD, hq] at this
    exact this
   have e : (if ip.V = 4 ∧ ip.A.l.drop 4 = List.replicate 12 0 then (32 : Int) else 0) = 32 := if_pos ⟨h4, hz⟩
   omega
 refine WP.loopG (γ := Nat) (fun i (x : Int) w => x = (i : Int) ∧ 4 ≤ i ∧ i ≤ 16 ∧ (∀ j, 4 ≤ j → j < i → ip.A.l.getD j 0 = 0) ∧ Ss W Hs w) (fun i _ => 16 - i) 4 ⟨rfl, by omega, by omega, fun j h1 h2 => by omega, s⟩ ?_
 clear s
 rintro i _ w ⟨rfl, h1, h2, hz, s⟩
 show WP (Za8.L1 ip (i : Int)) w _
 unfold Za8.L1
 refine WP.ite (fun h => WP.chk ⟨by omega, by omega⟩ ?_) (fun h => WP.done ⟨?_, s⟩)
 ·rw [vecg]
  refine WP.ite (fun h' => WP.done ⟨?_, s⟩) (fun h' => ?_)
  ·rw [decide_eq_false]
   intro hh
   exact h' (hs.1 hh i h1 (by omega))
  ·rw [Zah (by omega) (by omega)]
   refine WP.next ⟨i + 1, ⟨by omega, by omega, by omega, fun j j1 j2 => ?_, s⟩, by omega⟩
   by_cases e : j = i
   ·subst e
    exact Decidable.not_not.1 h'
   ·exact hz j j1 (by omega)
 ·exact (decide_eq_true (hs.2 fun j j1 j2 => hz j j1 (by omega))).symm
theorem Zq6 (s : Ss W Hs w) (ip : Zbe) (h : Zdq ip > 0) : WP (Zdl ip) w (fun r w' => r = Zdq ip ∧ Ss W Hs w') := by
 unfold Zdl
 rw [Zrj h]
 exact WP.slot' s (fun _ w s => WP.ite (fun h => WP.ret ⟨by rw [if_pos h], s⟩) (fun h => WP.ret ⟨by rw [if_neg h], s⟩))
theorem Zt4 (s : Ss W Hs w) (ip : Zbe) (hb : Byt ip.A.l) {i : Nat} (hi : i < 128) : WP (Zbr ip (i : Int)) w (fun r w' => r = bitM ip.A.l i ∧ Ss W Hs w') := by
 unfold Zbr
 have e1 : IntKind.wrap .i64 (Int.tdiv (i : Int) 8) = ((i / 8 : Nat) : Int) := by
  rw [Int.tdiv_eq_ediv_of_nonneg (by omega), Zah (by omega) (by omega)]
  omega
 have e2 : Int.tmod (i : Int) 8 = ((i % 8 : Nat) : Int) := by
  rw [Int.tmod_eq_emod_of_nonneg (by omega)]
  omega
 have hc := Zhp hb (i / 8)
 rw [e1, e2, vecg, Zah (by omega) (by omega)]
 refine WP.slot' s (fun _ w s => WP.chk ⟨by omega, by omega⟩ ?_)
 refine WP.loopG (γ := Nat) (fun k (x : Int × Int) w => x.1 = ip.A.l.getD (i / 8) 0 / 2 ^ (k - i % 8) ∧ x.2 = (k : Int) ∧ i % 8 ≤ k ∧ k ≤ 7 ∧ Ss W Hs w) (fun k _ => 7 - k) (i % 8) ⟨by simp, rfl, Nat.le_refl _, by omega, s⟩ ?_
 clear s
 rintro k ⟨_, _⟩ w ⟨rfl, rfl, h1, h2, s⟩
 show WP (Zbr.L1 (ip.A.l.getD (i / 8) 0 / 2 ^ (k - i % 8)) (k : Int)) w _
 unfold Zbr.L1
 have hp : (0 : Int) < 2 ^ (k - i % 8) := Int.pow_pos (by omega)
 have hq : 0 ≤ ip.A.l.getD (i / 8) 0 / 2 ^ (k - i % 8) := Int.ediv_nonneg hc.1 (by omega)
 have hq2 : ip.A.l.getD (i / 8) 0 / 2 ^ (k - i % 8) ≤ 255 := by
  have := Int.ediv_le_self (2 ^ (k - i % 8)) hc.1
  omega
 refine WP.ite (fun h => ?_) (fun h => WP.done ⟨?_, s⟩)
 ·rw [Zah (n := (k : Int) + 1) (by omega) (by omega), Int.tdiv_eq_ediv_of_nonneg hq, Zah (by omega) (by omega)]
  refine WP.next ⟨k + 1, ⟨?_, by simp, by omega, by omega, s⟩, by omega⟩
  simp only
  rw [Int.ediv_ediv_of_nonneg (by omega), show k + 1 - i % 8 = (k - i % 8) + 1 by omega, Int.pow_succ]
 ·have hk : k = 7 := by omega
  subst hk
  rw [Int.tmod_eq_emod_of_nonneg hq]
  rfl
theorem ZgD (s : Ss W Hs w) (p : Zap) (hb : Byt p.IP.A.l) : WP (ZaM p) w (fun r w' => r = vpM p ∧ Ss W Hs w') := by
 have hz := Zg1 p.IP
 unfold ZaM
 refine WP.slot' s (fun _ w s => WP.step (Zmq s p.IP) ?_)
 rintro _ w ⟨rfl, s⟩
 refine WP.ite (fun h => WP.ret ⟨?_, s⟩) (fun h => ?_)
 ·unfold vpM
  rw [if_pos]
  have : ¬ Zdq p.IP > 0 := fun h' => h (decide_eq_true h')
  omega
 have hv : Zdq p.IP > 0 := of_decide_eq_true (Decidable.not_not.1 h)
 refine WP.step (Zq6 s p.IP hv) ?_
 rintro _ w ⟨rfl, s⟩
 refine WP.step (R := fun y w' => y = decide (p.Len < 0 ∨ p.Len > Zdq p.IP) ∧ w = w') (WP.ite (fun h => WP.ret ⟨by simp [h], rfl⟩) (fun h => WP.ret ⟨by simp [h], rfl⟩)) ?_
 rintro _ _ ⟨rfl, rfl⟩
 refine WP.ite (fun h => WP.ret ⟨by unfold vpM; rw [if_neg (by omega), if_pos (of_decide_eq_true h)], s⟩) (fun h => ?_)
 have hn : ¬ (p.Len < 0 ∨ p.Len > Zdq p.IP) := fun h' => h (decide_eq_true h')
 have hv2 : vpM p = if ∀ i : Nat, i < 128 → p.Len ≤ (i : Int) → bitM p.IP.A.l i = 0 then 0 else 46 := by
  unfold vpM
  rw [if_neg (by omega), if_neg hn]
  by_cases e : Zp6 p.IP.A p.Len = p.IP.A
  ·rw [if_pos e, if_pos ((ZmD hb).1 e)]
  ·rw [if_neg e, if_neg (fun h => e ((ZmD hb).2 h))]
 refine WP.loopG (γ := Nat) (fun i (x : Int) w => x = (i : Int) ∧ p.Len ≤ (i : Int) ∧ (i : Int) ≤ Zdq p.IP ∧ (∀ j : Nat, p.Len ≤ (j : Int) → j < i → bitM p.IP.A.l j = 0) ∧ Ss W Hs w) (fun i _ => (Zdq p.IP).toNat - i) p.Len.toNat ⟨by omega, by omega, by omega, fun j h1 h2 => by omega, s⟩ ?_
 clear s
 rintro i _ w ⟨rfl, h1, h2, hq, s⟩
 show WP (ZaM.L1 p (Zdq p.IP) (i : Int)) w _
 unfold ZaM.L1
 refine WP.ite (fun h => WP.step (Zt4 s p.IP hb (i := i) (by omega)) ?_) (fun h => WP.done ⟨?_, s⟩)
 ·rintro _ w ⟨rfl, s⟩
  refine WP.ite (fun e => WP.done ⟨?_, s⟩) (fun e => ?_)
  ·rw [hv2, if_neg (fun hh => by have := hh i (by omega) h1; omega)]
  ·have e0 : bitM p.IP.A.l i = 0 := (Zte _ _).resolve_right e
   rw [Zah (by omega) (by omega)]
   refine WP.next ⟨i + 1, ⟨by omega, by omega, by omega, fun j j1 j2 => ?_, s⟩, by omega⟩
   by_cases ej : j = i
   ·subst ej
    exact e0
   ·exact hq j j1 (by omega)
 ·rw [hv2, if_pos]
  intro j j1 j2
  by_cases ej : j < i
  ·exact hq j j2 ej
  ·exact ZrU hv (by omega) j1
end
end Go.Proofs.YtpmhinidiplhiaaGreatDoor.Lx
