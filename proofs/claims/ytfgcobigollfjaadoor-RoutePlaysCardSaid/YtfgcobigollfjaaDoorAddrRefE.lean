
import Derived.Test.YtfgcobigollfjaaDoorAddrRefD
set_option linter.unusedVariables false
set_option linter.unusedSimpArgs false
namespace Go.Proofs.YtfgcobigollfjaaDoor.Lx
open Go Go.Proofs Go.RowKit
section
variable {W w : World} {Hs : List HP}
theorem Zi4 (s : Ss W Hs w) (t : ByteArray) : WP (ZaY t) w (fun r w' => r = ipM (strI t) ∧ Ss W Hs w') := by
 have hl := Zdb t
 unfold ZaY ipM Zfb
 refine WP.slot' s (fun _ w s => WP.ite (fun h => WP.ret ⟨?_, s⟩) (fun h => WP.step (ZnH s t (by omega) 58) ?_))
 ·rw [if_pos (by omega)]
  rfl
 rw [if_neg (by omega)]
 rintro _ w ⟨rfl, s⟩
 refine WP.ite (fun h58 => WP.step (ZlR s t (by omega)) ?_) (fun h58 => WP.step (Zhk s t (by omega) 0 (Nat.zero_le _)) ?_)
 ·rw [if_pos (of_decide_eq_true h58)]
  intro r w hr
  cases hm : ZfF (strI t) with
  | error f =>
   rw [hm] at hr
   obtain ⟨hr, s⟩ := hr
   obtain ⟨v, e, a⟩ := r
   cases hr
   have hb := (Zig hm).1
   exact WP.slot' s (fun _ w s => WP.ite (fun _ => WP.ret ⟨rfl, s⟩) (fun h => absurd hb h))
  | ok st =>
   rw [hm] at hr
   obtain ⟨rfl, s⟩ := hr
   exact WP.slot' s (fun _ w s => WP.ite (fun h => absurd rfl h) (fun _ => WP.ret ⟨rfl, s⟩))
 ·rw [if_neg (fun h => h58 (decide_eq_true h))]
  rintro ⟨sl, e, at'⟩ w hr
  cases hm : Ze8 (strI t) 0 with
  | error f =>
   rw [hm] at hr
   obtain ⟨hr, s⟩ := hr
   cases hr
   have hb := (ZfK (Nat.zero_le _) hm).1
   exact WP.ite (fun _ => WP.ret ⟨rfl, s⟩) (fun h => absurd hb h)
  | ok a =>
   rw [hm] at hr
   obtain ⟨hr, sp, s⟩ := hr
   cases hr
   obtain ⟨a4, a5⟩ := ZfJ (Nat.zero_le _) hm
   obtain ⟨n1, n2, n3, n4, rfl⟩ : ∃ n1 n2 n3 n4, a = [n1, n2, n3, n4] := by
    match a, a4 with
    | [n1, n2, n3, n4], _ => exact ⟨n1, n2, n3, n4, rfl⟩
   refine WP.ite (fun h => absurd rfl h) (fun _ => WP.slot' s (fun _ w s => ?_))
   refine WP.loopG (γ := Nat) (fun i (x : Int × ZaH) w => x.1 = (i : Int) ∧ i ≤ 4 ∧ x.2 = ⟨4, v4V ([n1, n2, n3, n4].take i)⟩ ∧ Ss W (vec (cI .u8) sl ([n1, n2, n3, n4].map (fun n : Nat => (n : Int))) sp :: Hs) w) (fun i _ => 4 - i) 0 ⟨rfl, by omega, rfl, s⟩ ?_
   clear s
   rintro i ⟨_, _⟩ w ⟨rfl, hi, rfl, s⟩
   show WP (ZaY.L1 (sl, 0, 0) (i : Int) ⟨4, v4V ([n1, n2, n3, n4].take i)⟩) w _
   unfold ZaY.L1
   refine WP.ite (fun h => ?_) (fun h => WP.done ⟨?_, s.drop⟩)
   ·have hi4 : i < 4 := by omega
    refine WP.rdxp0 s 0 rfl ZcG (by omega) (x := (([n1, n2, n3, n4].getD i 0 : Nat) : Int)) (y := (([n1, n2, n3, n4].getD i 0 : Nat) : Int)) ?_ rfl (At.whole _) (WP.chk ⟨by omega, by omega⟩ ?_)
    ·rw [Int.toNat_natCast]
     match i, hi4 with
     | 0, _ => rfl
     | 1, _ => rfl
     | 2, _ => rfl
     | 3, _ => rfl
    ·rw [ZaP (by omega) (by omega)]
     refine WP.next ⟨i + 1, ⟨by simp, hi4, ?_, s⟩, by omega⟩
     match i, hi4 with
     | 0, _ => rfl
     | 1, _ => rfl
     | 2, _ => rfl
     | 3, _ => rfl
   ·have : i = 4 := by omega
    subst this
    rfl
theorem ZgK (s : Ss W Hs w) (t : ByteArray) : WP (Zaq t) w (fun r w' => r = Zi6 (strI t) ∧ Ss W Hs w') := by
 have hl := Zdb t
 unfold Zaq Zi6
 refine WP.slot' s (fun _ w s => WP.ite (fun h => WP.ret ⟨?_, s⟩) (fun h => ?_))
 ·unfold ZmP
  rw [if_pos (by omega)]
  rfl
 have h49 : ¬ (strI t).length > 49 := by omega
 have hfl := Zlf (strI t) 47
 refine WP.loopG (γ := Nat) (fun k (x : Int) w => x = (k : Int) ∧ k ≤ Zdo (strI t) 47 ∧ Ss W Hs w) (fun k _ => t.size - k) 0 ⟨rfl, Nat.zero_le _, s⟩ ?_
 clear s
 rintro k _ w ⟨rfl, hk, s⟩
 show WP (Zaq.L2 t (k : Int)) w _
 unfold Zaq.L2
 have hgo := Zf0 (p := fun c => decide (c ≠ 47)) (l := strI t) (i := 0) (k := k) (Nat.zero_le _) hk
 have hgo : (k < t.size ∧ (strI t).getD k 0 ≠ 47) ↔ k < Zdo (strI t) 47 := by
  rw [← hl, show (k < Zdo (strI t) 47) ↔ _ from hgo.symm]
  simp
 refine WP.step (R := fun y w' => y = decide (k < Zdo (strI t) 47) ∧ w = w') (WP.ite (fun h => WP.chk ⟨by omega, by omega⟩ (WP.ret ⟨?_, rfl⟩)) (fun h => WP.ret ⟨?_, rfl⟩)) ?_
 ·rw [Zd3, Bool.eq_iff_iff, decide_eq_true_iff, ← hgo, bne_iff_ne]
  exact ⟨fun h' => ⟨by omega, h'⟩, And.right⟩
 ·exact (decide_eq_false fun h' => h (by have := (hgo.2 h').1; omega)).symm
 rintro _ _ ⟨rfl, rfl⟩
 refine WP.ite (fun h => ?_) (fun h => ?_)
 ·have h := of_decide_eq_true h
  rw [ZaP (by omega) (by omega)]
  exact WP.next ⟨k + 1, ⟨by simp, by omega, s⟩, by omega⟩
 have hk : Zdo (strI t) 47 = k := by
  have : ¬ k < Zdo (strI t) 47 := fun h' => h (decide_eq_true h')
  omega
 refine WP.step ?_ (fun r w h => WP.done h)
 unfold Zaq.K2 ZmP
 rw [if_neg h49, hk]
 refine WP.ite (fun h => WP.ret ⟨?_, s⟩) (fun h => WP.chk ⟨by omega, by omega, by omega⟩ (WP.step (Zi4 s _) ?_))
 ·rw [if_neg (by omega)]
  simp only
  rw [hl]
 rw [if_pos (by omega)]
 have ex : strI (ByteArray.extract t (Int.toNat 0) (Int.toNat (k : Int))) = (strI t).take k := by
  rw [Zib]
  simp
 rw [ex]
 rintro _ w ⟨rfl, s⟩
 cases hm : Zfb ((strI t).take k) with
 | error f =>
  have hb := (Zj8 hm).1
  have e : ipM ((strI t).take k) = (Zby, f.1, (f.2 : Int)) := by
   unfold ipM
   rw [hm]
  rw [e]
  exact WP.slot' s (fun _ w s => WP.ite (fun _ => WP.ret ⟨rfl, s⟩) (fun h => absurd hb h))
 | ok ip =>
  have hsz := Zi8 hm
  have hby := Zj7 hm
  have e : ipM ((strI t).take k) = (ip, 0, 0) := by
   unfold ipM
   rw [hm]
  rw [e]
  refine WP.slot' s (fun _ w s => WP.ite (fun h => absurd rfl h) (fun _ => ?_))
  simp only
  have hk1 : k + 1 ≤ t.size := by omega
  have ek : IntKind.wrap .i64 ((k : Int) + 1) = ((k + 1 : Nat) : Int) := by
   rw [ZaP (by omega) (by omega)]
   omega
  rw [ek]
  obtain ⟨r1, r2⟩ := ZfZ (p := Zdl) (l := strI t) (i := k + 1) (by omega)
  refine WP.loopG (γ := Nat) (fun q (x : Int) w => x = (q : Int) ∧ k + 1 ≤ q ∧ q ≤ runE Zdl (strI t) (k + 1) ∧ Ss W Hs w) (fun q _ => t.size - q) (k + 1) ⟨rfl, Nat.le_refl _, r1, s⟩ ?_
  clear s
  rintro q _ w ⟨rfl, q1, q2, s⟩
  show WP (Zaq.L1 t (k : Int) (ip, 0, 0) (q : Int)) w _
  unfold Zaq.L1
  have hgo := Zf0 q1 q2
  rw [hl] at hgo
  refine WP.step (R := fun y w' => y = decide (q < runE Zdl (strI t) (k + 1)) ∧ w = w') (WP.ite (fun h => WP.chk ⟨by omega, by omega⟩ (WP.step (ZgG _) ?_)) (fun h => WP.ret ⟨?_, rfl⟩)) ?_
  ·rintro _ _ ⟨rfl, rfl⟩
   refine WP.ret ⟨?_, rfl⟩
   rw [Zd3, Bool.eq_iff_iff, decide_eq_true_iff, ← hgo]
   exact ⟨fun h' => ⟨by omega, h'⟩, fun h' => h'.2⟩
  ·refine (decide_eq_false fun h' => ?_).symm
   have := hgo.2 h'
   omega
  rintro _ _ ⟨rfl, rfl⟩
  refine WP.ite (fun h => WP.next ⟨q + 1, ⟨?_, by omega, by have := of_decide_eq_true h; omega, s⟩, by have := of_decide_eq_true h; omega⟩) (fun h => ?_)
  ·rw [ZaP (by omega) (by omega)]
   simp
  have hq : q = runE Zdl (strI t) (k + 1) := by
   have : ¬ q < runE Zdl (strI t) (k + 1) := fun h' => h (decide_eq_true h')
   omega
  have hdig : ∀ j, k + 1 ≤ j → j < q → Zdl ((strI t).getD j 0) = true := fun j j1 j2 => ZfB j1 (by omega)
  have hnm := ZjE (strI t) (k + 1) (Zbo ip) 45
  rw [← hq] at hnm
  rw [hnm]
  refine WP.step ?_ (fun r w h => WP.done h)
  unfold Zaq.K1
  rw [ek]
  refine WP.ite (fun h => WP.step (ZhX t q (by omega)) ?_) (fun h => ?_)
  ·rintro _ _ ⟨rfl, rfl⟩
   rw [if_pos (by omega), show q = k + 1 by omega]
   exact WP.ret ⟨rfl, s⟩
  rw [if_neg (by omega)]
  refine WP.step (Zjt s ip hsz) ?_
  rintro _ w ⟨rfl, s⟩
  refine WP.step (ZhA s t (by omega) q1 (by omega) (Zbo ip) hdig) ?_
  rintro _ w ⟨rfl, s⟩
  refine WP.ite (fun h => WP.ret ⟨by rw [if_pos h], s⟩) (fun h => ?_)
  rw [if_neg h]
  simp only
  have hcast : (((decM (strI t) (k + 1) q (Zbo ip)).toNat : Nat) : Int) = decM (strI t) (k + 1) q (Zbo ip) := by omega
  refine WP.ite (fun h => WP.ret ⟨by rw [if_pos (by omega)], s⟩) (fun h => ?_)
  rw [if_neg (by omega), hcast]
  refine WP.slot' s (fun _ w s => WP.step (ZdQ s ⟨ip, _⟩ hby) ?_)
  rintro _ w ⟨rfl, s⟩
  refine WP.ite (fun h => WP.ret ⟨by rw [if_pos h]; rfl, s⟩) (fun h => WP.ret ⟨by rw [if_neg h], s⟩)
end
end Go.Proofs.YtfgcobigollfjaaDoor.Lx
