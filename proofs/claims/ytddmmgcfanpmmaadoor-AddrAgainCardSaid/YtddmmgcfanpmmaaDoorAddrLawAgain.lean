/- weirlaw4.AddrAgain: what is read may be, and its printed text is read as the same: the walk. -/
import Derived.Test.YtddmmgcfanpmmaaDoorAddrLawBack
import Derived.Test.YtddmmgcfanpmmaaDoorAddrErr
set_option linter.unusedVariables false
set_option linter.unusedSimpArgs false
namespace Go.Proofs.YtddmmgcfanpmmaaDoor.Lx
open Go Go.Proofs Go.RowKit
theorem ipM_cases (l : List Int) : ((ipM l).2.1 = 0 ∧ (ipM l).2.2 = 0 ∧ sizeM (ipM l).1 > 0 ∧ Byt (ipM l).1.A.l) ∨ ((ipM l).2.1 ≠ 0 ∧ (ipM l).1 = z_api_IP ∧ 0 ≤ (ipM l).2.2 ∧ (ipM l).2.2 ≤ (l.length : Int)) := by
  unfold ipM
  cases h : parseM l with
  | error f =>
    obtain ⟨h1, h2⟩ := parseM_bad h
    exact .inr ⟨h1, rfl, by simp only; omega, by simp only; omega⟩
  | ok ip => exact .inl ⟨rfl, rfl, parseM_size h, parseM_byt h⟩
theorem prefixM_cases (l : List Int) : ((prefixM l).2.1 = 0 ∧ vpM (prefixM l).1 = 0 ∧ Byt (prefixM l).1.IP.A.l) ∨ ((prefixM l).2.1 ≠ 0 ∧ (prefixM l).1 = z_api_Prefix ∧ 0 ≤ (prefixM l).2.2 ∧ (prefixM l).2.2 ≤ (l.length : Int)) := by
  unfold prefixM
  cases h : prefM l with
  | error f =>
    obtain ⟨h1, h2⟩ := prefM_bad h
    exact .inr ⟨h1, rfl, by simp only; omega, by simp only; omega⟩
  | ok p => exact .inl ⟨rfl, (prefM_ok h).1, (prefM_ok h).2⟩
section
variable {W w : World} {Hs : List HP}
theorem againK1 (s : Ss W Hs w) (t t' : Nat) (et : nth Hs t = some TabN) (et' : nth Hs t' = some TabC) (x : ByteArray) : WP (weirlaw4_AddrAgain.K1 x) w (fun r w' => r = true ∧ Ss W Hs w') := by
  unfold weirlaw4_AddrAgain.K1
  have hb := macP_byt (strI x)
  have hz := macP_none (strI x)
  refine WP.step (ParseMac_wp s x) ?_
  rintro _ w ⟨rfl, s⟩
  refine WP.slot' s (fun _ w s => WP.step (PrintMac_wp s _ hb) ?_)
  rintro _ w ⟨rfl, s⟩
  refine WP.step (ParseMac_wp s _) ?_
  rintro _ w ⟨rfl, s⟩
  rw [mac_again hb]
  refine WP.slot' s (fun _ w s => WP.step (started_wp s t t' et et') ?_)
  rintro _ w ⟨rfl, s⟩
  refine WP.step (R := fun y w' => y = true ∧ w = w') (WP.ite (fun _ => num_wp (WP.step (R := fun y w' => y = true ∧ w = w') (WP.ite (fun _ => WP.ret ⟨rfl, rfl⟩) (fun h => WP.ret ⟨eqv_iff.2 (hz.resolve_left h), rfl⟩)) (fun r w h => WP.ret h))) (fun h => absurd rfl h)) ?_
  rintro _ _ ⟨rfl, rfl⟩
  refine WP.step (R := fun y w' => y = true ∧ w = w') (WP.ite (fun _ => num_wp (WP.ret ⟨rfl, rfl⟩)) (fun h => absurd rfl h)) ?_
  rintro _ _ ⟨rfl, rfl⟩
  refine WP.step (R := fun y w' => y = true ∧ w = w') (WP.ite (fun _ => WP.ret ⟨eqv_iff.2 rfl, rfl⟩) (fun h => absurd rfl h)) ?_
  rintro _ _ ⟨rfl, rfl⟩
  exact WP.ret ⟨rfl, s⟩
theorem againK2 (s : Ss W Hs w) (t t' : Nat) (et : nth Hs t = some TabN) (et' : nth Hs t' = some TabC) (x : ByteArray) : WP (weirlaw4_AddrAgain.K2 x) w (fun r w' => r = true ∧ Ss W Hs w') := by
  unfold weirlaw4_AddrAgain.K2
  have hl := strI_len x
  have hc := prefixM_cases (strI x)
  refine WP.step (ParsePrefix_wp s x) ?_
  rintro _ w ⟨rfl, s⟩
  refine WP.slot' s (fun _ w s => num_wp ?_)
  refine WP.ite (fun h => ?_) (fun h => ?_)
  · obtain ⟨-, c2, c3⟩ := hc.resolve_right (fun c => c.1 h)
    refine WP.step (PrintPrefix_wp s t et _ c3) ?_
    rintro _ w ⟨rfl, s⟩
    have e : ppM (prefixM (strI x)).1 = (bstr (prIP (prefixM (strI x)).1.IP ++ 47 :: dec3 (prefixM (strI x)).1.Len.toNat), 0) := by
      unfold ppM
      rw [if_pos c2]
    rw [e]
    refine WP.step (ParsePrefix_wp s _) ?_
    rintro _ w ⟨rfl, s⟩
    rw [pref_again c3 c2]
    refine WP.slot' s (fun _ w s => num_wp ?_)
    refine WP.step (R := fun y w' => y = false ∧ w = w') (WP.ite (fun h => absurd rfl h) (fun _ => num_wp (WP.ret ⟨rfl, rfl⟩))) ?_
    rintro _ _ ⟨rfl, rfl⟩
    refine WP.step (R := fun y w' => y = false ∧ w = w') (WP.ite (fun h => by cases h) (fun _ => WP.ret ⟨by rw [eqv_refl]; rfl, rfl⟩)) ?_
    rintro _ _ ⟨rfl, rfl⟩
    refine WP.step (R := fun y w' => y = false ∧ Ss W Hs w') (WP.ite (fun h => by cases h) (fun _ => WP.step (ValidPrefix_wp s _ c3) ?_)) ?_
    · rintro _ w ⟨rfl, s⟩
      exact num_wp (WP.ret ⟨by rw [c2]; rfl, s⟩)
    rintro _ w ⟨rfl, s⟩
    exact WP.ite (fun h => by cases h) (fun _ => againK1 s t t' et et' x)
  · obtain ⟨-, c2, c3, c4⟩ := hc.resolve_left (fun c => h c.1)
    refine WP.step (R := fun y w' => y = false ∧ w = w') (WP.ite (fun h => absurd c2 h) (fun _ => WP.ret ⟨decide_eq_false (by omega), rfl⟩)) ?_
    rintro _ _ ⟨rfl, rfl⟩
    refine WP.step (R := fun y w' => y = false ∧ w = w') (WP.ite (fun h => by cases h) (fun _ => WP.ret ⟨decide_eq_false (by omega), rfl⟩)) ?_
    rintro _ _ ⟨rfl, rfl⟩
    exact WP.ite (fun h => by cases h) (fun _ => againK1 s t t' et et' x)
theorem AddrAgain_wp (s : Ss W Hs w) (t t' : Nat) (et : nth Hs t = some TabN) (et' : nth Hs t' = some TabC) (x : ByteArray) : WP (weirlaw4_AddrAgain x) w (fun r w' => r = true ∧ Ss W Hs w') := by
  unfold weirlaw4_AddrAgain
  have hl := strI_len x
  have hc := ipM_cases (strI x)
  refine WP.step (ParseIP_wp s x) ?_
  rintro _ w ⟨rfl, s⟩
  refine WP.slot' s (fun _ w s => num_wp ?_)
  refine WP.ite (fun h => ?_) (fun h => ?_)
  · obtain ⟨-, c1, c2, c3⟩ := hc.resolve_right (fun c => c.1 h)
    refine WP.step (PrintIP_wp s t et _ c3) ?_
    rintro _ w ⟨rfl, s⟩
    have e : piM (ipM (strI x)).1 = (bstr (prIP (ipM (strI x)).1), 0) := by
      unfold piM
      rw [if_pos c2]
    rw [e]
    refine WP.step (ParseIP_wp s _) ?_
    rintro _ w ⟨rfl, s⟩
    rw [ip_again c3 c2]
    refine WP.slot' s (fun _ w s => num_wp ?_)
    refine WP.step (R := fun y w' => y = false ∧ w = w') (WP.ite (fun h => absurd rfl h) (fun _ => num_wp (WP.ret ⟨rfl, rfl⟩))) ?_
    rintro _ _ ⟨rfl, rfl⟩
    refine WP.step (R := fun y w' => y = false ∧ w = w') (WP.ite (fun h => by cases h) (fun _ => WP.ret ⟨by rw [eqv_refl]; rfl, rfl⟩)) ?_
    rintro _ _ ⟨rfl, rfl⟩
    refine WP.step (R := fun y w' => y = false ∧ w = w') (WP.ite (fun h => by cases h) (fun _ => WP.ret ⟨by rw [c1]; rfl, rfl⟩)) ?_
    rintro _ _ ⟨rfl, rfl⟩
    refine WP.step (R := fun y w' => y = false ∧ Ss W Hs w') (WP.ite (fun h => by cases h) (fun _ => WP.step (Valid_wp s _) ?_)) ?_
    · rintro _ w ⟨rfl, s⟩
      exact WP.ret ⟨by rw [decide_eq_true c2]; rfl, s⟩
    rintro _ w ⟨rfl, s⟩
    exact WP.ite (fun h => by cases h) (fun _ => againK2 s t t' et et' x)
  · obtain ⟨-, c2, c3, c4⟩ := hc.resolve_left (fun c => h c.1)
    refine WP.step (R := fun y w' => y = false ∧ w = w') (WP.ite (fun h => absurd c2 h) (fun _ => WP.ret ⟨decide_eq_false (by omega), rfl⟩)) ?_
    rintro _ _ ⟨rfl, rfl⟩
    refine WP.step (R := fun y w' => y = false ∧ w = w') (WP.ite (fun h => by cases h) (fun _ => WP.ret ⟨decide_eq_false (by omega), rfl⟩)) ?_
    rintro _ _ ⟨rfl, rfl⟩
    exact WP.ite (fun h => by cases h) (fun _ => againK2 s t t' et et' x)
end
end Go.Proofs.YtddmmgcfanpmmaaDoor.Lx
