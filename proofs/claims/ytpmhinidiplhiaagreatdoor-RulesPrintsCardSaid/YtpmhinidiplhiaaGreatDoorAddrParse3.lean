
import Derived.Test.YtpmhinidiplhiaaGreatDoorAddrPrint3
set_option linter.unusedVariables false
set_option linter.unusedSimpArgs false
namespace Go.Proofs.YtpmhinidiplhiaaGreatDoor.Lx
open Go Go.Proofs Go.RowKit
section
variable {W w : World} {Hs : List HP}
theorem pfK1 {r3 : Zbe × Option Addr} {j8 : Int} {b : Nat} {f : Flt} (s : Ss W (pts true (pt b 0) (flt f) :: Hs) w) : WP (Zas.K1 r3 j8 (some (pt b 0))) w (fun r w' => r = (Zbl, f.1, (f.2 : Int)) ∧ Ss W Hs w') := by
 unfold Zas.K1
 exact WP.ite (fun _ => WP.draw' s (fun w s => WP.nilck (WP.ld s 0 rfl (o := 0) (by simp [Addr.add]) (Zd4 _) (WP.nilck (WP.ld s 0 rfl (o := 1) rfl (Zd5 _) (WP.same s 0 rfl (o := 1) rfl (Zd5 _) (WP.same s 0 rfl (o := 0) (by simp [Addr.add]) (Zd4 _) (WP.ret ⟨rfl, s.drop⟩)))))))) (fun h => absurd (by simp) h)
theorem pfK2 {r3 : Zbe × Option Addr} {j8 : Int} {b : Nat} {f : Flt} (s : Ss W (pts true (pt b 0) (flt f) :: Hs) w) : WP (Zas.K2 r3 j8 (some (pt b 0))) w (fun r w' => r = (Zbl, f.1, (f.2 : Int)) ∧ Ss W Hs w') := by
 unfold Zas.K2
 refine WP.slot' s (fun _ w s => WP.step (R := fun y w' => y = false ∧ w = w') (WP.ite (fun h => by cases h) (fun _ => WP.ret ⟨rfl, rfl⟩)) ?_)
 rintro _ _ ⟨rfl, rfl⟩
 exact WP.ite (fun h => by cases h) (fun _ => pfK1 s)
theorem pfK3 {t : ByteArray} {r3 : Zbe × Option Addr} {j8 j9 : Int} {b : Nat} {f : Flt} (s : Ss W (pts true (pt b 0) (flt f) :: Hs) w) : WP (Zas.K3 t r3 (some (pt b 0)) j8 j9) w (fun r w' => r = (Zbl, f.1, (f.2 : Int)) ∧ Ss W Hs w') := by
 unfold Zas.K3
 refine WP.step (R := fun y w' => y = false ∧ w = w') (WP.ite (fun h => by cases h) (fun _ => WP.ret ⟨rfl, rfl⟩)) ?_
 rintro _ _ ⟨rfl, rfl⟩
 exact WP.ite (fun h => by cases h) (fun _ => pfK2 s)
theorem Zhu (s : Ss W Hs w) (t : ByteArray) : WP (Zas t) w (fun r w' => r = Znx (strI t) ∧ Ss W Hs w') := by
 have hl := ZbJ t
 unfold Zas Znx Zmu
 refine WP.slot' s (fun _ w s => WP.ite (fun h => WP.ret ⟨?_, s⟩) (fun h => ?_))
 ·rw [if_pos (by omega)]
  rfl
 rw [if_neg (by omega)]
 refine WP.step (Zug s t (by omega) (q := 47) (by omega) (by decide)) ?_
 rintro ⟨ta, tb, y⟩ w ⟨⟨c1, c2⟩, s⟩
 simp only at c1 c2 ⊢
 subst c1
 refine WP.ite (fun h => WP.ret ⟨?_, s⟩) (fun h => ?_)
 ·have h : ¬ ZbE (strI t) 47 < (strI t).length := fun h' => h (decide_eq_true (by rw [← hl]; exact h'))
  rw [if_neg h, ← hl]
 have h : ZbE (strI t) 47 < t.size := of_decide_eq_true (by simpa using h)
 have h' : ZbE (strI t) 47 < (strI t).length := by omega
 rw [if_pos h']
 have c2 : strI ta = (strI t).take (ZbE (strI t) 47) := (c2 h).1
 rw [← c2]
 have hta : ta.size = ZbE (strI t) 47 := by
  rw [← ZbJ, c2, List.length_take]
  omega
 refine WP.step (Zok s ta) ?_
 intro r w hr
 cases hm : Zfp (strI ta) with
 | error f =>
  rw [hm] at hr
  obtain ⟨b, hb, s⟩ := hr
  refine WP.slot' s (fun _ w s => ?_)
  rw [hb]
  exact WP.ite (fun h => by cases h) (fun _ => pfK3 s)
 | ok ip =>
  have hbyt := Zg2 hm
  rw [hm] at hr
  obtain ⟨rfl, s⟩ := hr
  refine WP.slot' s (fun _ w s => WP.ite (fun _ => WP.step (Zno s ip) ?_) (fun h => absurd rfl h))
  rintro _ w ⟨rfl, s⟩
  have e1 : IntKind.wrap .i64 ((ta.size : Int) + 1) = ((ZbE (strI t) 47 + 1 : Nat) : Int) := by
   rw [hta, Zah (by omega) (by omega)]
   rfl
  simp only
  rw [e1]
  refine WP.step (Zmy s t (by omega) (ZbE (strI t) 47 + 1) (by omega) (Zdq ip) 45) ?_
  intro r w hr
  cases hn : numM (strI t) (ZbE (strI t) 47 + 1) (Zdq ip) 45 with
  | error f =>
   rw [hn] at hr
   obtain ⟨b, rfl, s⟩ := hr
   exact pfK3 s
  | ok x =>
   obtain ⟨n, e⟩ := x
   rw [hn] at hr
   obtain ⟨rfl, s⟩ := hr
   unfold Zas.K3
   refine WP.step (R := fun y w' => y = decide (e < (strI t).length) ∧ w = w') (WP.ite (fun _ => WP.ret ⟨?_, rfl⟩) (fun h => absurd rfl h)) ?_
   ·rw [Bool.eq_iff_iff, decide_eq_true_iff, decide_eq_true_iff]
    simp only
    omega
   rintro _ _ ⟨rfl, rfl⟩
   refine WP.ite (fun h => WP.newv s (fun b w s => ?_)) (fun h => ?_)
   ·simp only
    rw [if_pos (of_decide_eq_true h)]
    exact pfK2 (f := (41, e)) s
   ·simp only
    rw [if_neg (fun h' => h (decide_eq_true h'))]
    unfold Zas.K2
    refine WP.slot' s (fun _ w s => WP.step (R := fun y w' => y = decide (vpM ⟨ip, (n : Int)⟩ ≠ 0) ∧ Ss W Hs w') (WP.ite (fun _ => WP.step (ZfG s ⟨ip, (n : Int)⟩ hbyt) ?_) (fun h => absurd rfl h)) ?_)
    ·rintro _ w ⟨rfl, s⟩
     refine WP.ret ⟨?_, s⟩
     rw [Bool.eq_iff_iff, bne_iff_ne, decide_eq_true_iff]
    rintro _ w ⟨rfl, s⟩
    refine WP.ite (fun h => WP.newv s (fun b w s => ?_)) (fun h => ?_)
    ·rw [if_pos (of_decide_eq_true h)]
     exact pfK1 (f := (46, 0)) s
    ·rw [if_neg (fun h' => h (decide_eq_true h'))]
     unfold Zas.K1
     exact WP.ite (fun h => absurd rfl h) (fun _ => WP.ret ⟨rfl, s⟩)
end
end Go.Proofs.YtpmhinidiplhiaaGreatDoor.Lx
