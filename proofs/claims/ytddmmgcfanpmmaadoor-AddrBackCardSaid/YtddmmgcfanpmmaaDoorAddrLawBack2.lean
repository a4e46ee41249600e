/- weirlaw4.AddrBack: the walk. -/
import Derived.Test.YtddmmgcfanpmmaaDoorAddrLawBack
set_option linter.unusedVariables false
set_option linter.unusedSimpArgs false
namespace Go.Proofs.YtddmmgcfanpmmaaDoor.Lx
open Go Go.Proofs Go.RowKit
section
variable {W w : World} {Hs : List HP}
theorem backK1 (s : Ss W Hs w) (t t' : Nat) (et : nth Hs t = some TabN) (et' : nth Hs t' = some TabC) (m : Vec Int 6) (hm : Byt m.l) : WP (weirlaw4_AddrBack.K1 m) w (fun r w' => r = true ∧ Ss W Hs w') := by
  unfold weirlaw4_AddrBack.K1
  refine WP.step (PrintMac_wp s m hm) ?_
  rintro _ w ⟨rfl, s⟩
  refine WP.step (ParseMac_wp s _) ?_
  rintro _ w ⟨rfl, s⟩
  rw [mac_again hm]
  refine WP.slot' s (fun _ w s => WP.step (started_wp s t t' et et') ?_)
  rintro _ w ⟨rfl, s⟩
  refine WP.step (R := fun y w' => y = true ∧ w = w') (WP.ite (fun _ => WP.ret ⟨eqv_iff.2 rfl, rfl⟩) (fun h => absurd rfl h)) ?_
  rintro _ _ ⟨rfl, rfl⟩
  refine WP.step (R := fun y w' => y = true ∧ w = w') (WP.ite (fun _ => num_wp (WP.ret ⟨rfl, rfl⟩)) (fun h => absurd rfl h)) ?_
  rintro _ _ ⟨rfl, rfl⟩
  refine WP.step (R := fun y w' => y = true ∧ w = w') (WP.ite (fun _ => WP.ret ⟨rfl, rfl⟩) (fun h => absurd rfl h)) ?_
  rintro _ _ ⟨rfl, rfl⟩
  exact WP.ret ⟨rfl, s⟩
theorem backK2 (s : Ss W Hs w) (t t' : Nat) (et : nth Hs t = some TabN) (et' : nth Hs t' = some TabC) (p : api_Prefix) (hp : Byt p.IP.A.l) (m : Vec Int 6) (hm : Byt m.l) : WP (weirlaw4_AddrBack.K2 p m) w (fun r w' => r = true ∧ Ss W Hs w') := by
  unfold weirlaw4_AddrBack.K2
  refine WP.step (PrintPrefix_wp s t et p hp) ?_
  rintro _ w ⟨rfl, s⟩
  refine WP.draw' s (fun w s => num_wp (WP.step (ValidPrefix_wp s p hp) ?_))
  rintro _ w ⟨rfl, s⟩
  refine num_wp ?_
  by_cases h : vpM p = 0
  · have e : ppM p = (bstr (prIP p.IP ++ 47 :: dec3 p.Len.toNat), 0) := by
      unfold ppM
      rw [if_pos h]
    rw [e, h]
    refine WP.step (R := fun y w' => y = false ∧ w = w') (WP.ite (fun h => absurd rfl h) (fun _ => num_wp (WP.step (R := fun y w' => y = false ∧ w = w') (WP.ite (fun h => absurd rfl h) (fun _ => WP.ret ⟨rfl, rfl⟩)) (fun r w h => WP.ret h)))) ?_
    rintro _ _ ⟨rfl, rfl⟩
    refine WP.ite (fun h => by cases h) (fun _ => num_wp (WP.ite (fun _ => WP.step (ParsePrefix_wp s _) ?_) (fun h => absurd rfl h)))
    rintro _ w ⟨rfl, s⟩
    rw [pref_again hp h]
    refine WP.slot' s (fun _ w s => WP.step (R := fun y w' => y = false ∧ w = w') (WP.ite (fun h => absurd rfl h) (fun _ => num_wp (WP.ret ⟨rfl, rfl⟩))) ?_)
    rintro _ _ ⟨rfl, rfl⟩
    refine WP.step (R := fun y w' => y = false ∧ w = w') (WP.ite (fun h => by cases h) (fun _ => WP.ret ⟨rfl, rfl⟩)) ?_
    rintro _ _ ⟨rfl, rfl⟩
    exact WP.ite (fun h => by cases h) (fun _ => backK1 s t t' et et' m hm)
  · have e : ppM p = (ByteArray.empty, vpM p) := by
      unfold ppM
      rw [if_neg h]
    rw [e]
    refine WP.step (R := fun y w' => y = false ∧ w = w') (WP.ite (fun h => absurd rfl h) (fun _ => num_wp (WP.step (R := fun y w' => y = false ∧ w = w') (WP.ite (fun _ => WP.ret ⟨by simp, rfl⟩) (fun h' => absurd h h')) (fun r w h => WP.ret h)))) ?_
    rintro _ _ ⟨rfl, rfl⟩
    exact WP.ite (fun h => by cases h) (fun _ => num_wp (WP.ite (fun h' => absurd h' h) (fun _ => backK1 s t t' et et' m hm)))
theorem AddrBack_wp (s : Ss W Hs w) (t t' : Nat) (et : nth Hs t = some TabN) (et' : nth Hs t' = some TabC) (ip : api_IP) (hip : Byt ip.A.l) (p : api_Prefix) (hp : Byt p.IP.A.l) (m : Vec Int 6) (hm : Byt m.l) : WP (weirlaw4_AddrBack ip p m) w (fun r w' => r = true ∧ Ss W Hs w') := by
  unfold weirlaw4_AddrBack
  refine WP.slot' s (fun _ w s => WP.slot' s (fun _ w s => WP.slot' s (fun _ w s => WP.step (PrintIP_wp s t et ip hip) ?_)))
  rintro _ w ⟨rfl, s⟩
  refine WP.draw' s (fun w s => num_wp (WP.step (Valid_wp s ip) ?_))
  rintro _ w ⟨rfl, s⟩
  by_cases h : sizeM ip > 0
  · have e : piM ip = (bstr (prIP ip), 0) := by
      unfold piM
      rw [if_pos h]
    rw [e, decide_eq_true h]
    refine WP.step (R := fun y w' => y = false ∧ w = w') (WP.ite (fun h => absurd rfl h) (fun _ => num_wp (WP.step (R := fun y w' => y = false ∧ w = w') (WP.ite (fun h => absurd rfl h) (fun _ => WP.ret ⟨rfl, rfl⟩)) (fun r w h => WP.ret h)))) ?_
    rintro _ _ ⟨rfl, rfl⟩
    refine WP.ite (fun h => by cases h) (fun _ => num_wp (WP.ite (fun _ => WP.step (ParseIP_wp s _) ?_) (fun h => absurd rfl h)))
    rintro _ w ⟨rfl, s⟩
    rw [ip_again hip h]
    refine WP.slot' s (fun _ w s => WP.step (R := fun y w' => y = false ∧ w = w') (WP.ite (fun h => absurd rfl h) (fun _ => num_wp (WP.ret ⟨rfl, rfl⟩))) ?_)
    rintro _ _ ⟨rfl, rfl⟩
    refine WP.step (R := fun y w' => y = false ∧ w = w') (WP.ite (fun h => by cases h) (fun _ => WP.ret ⟨rfl, rfl⟩)) ?_
    rintro _ _ ⟨rfl, rfl⟩
    exact WP.ite (fun h => by cases h) (fun _ => backK2 s t t' et et' p hp m hm)
  · have e : piM ip = (ByteArray.empty, 40) := by
      unfold piM
      rw [if_neg h]
    rw [e, decide_eq_false h]
    refine WP.step (R := fun y w' => y = false ∧ w = w') (WP.ite (fun h => absurd rfl h) (fun _ => num_wp (WP.step (R := fun y w' => y = false ∧ w = w') (WP.ite (fun _ => WP.ret ⟨by simp, rfl⟩) (fun h' => absurd (by decide) h')) (fun r w h => WP.ret h)))) ?_
    rintro _ _ ⟨rfl, rfl⟩
    exact WP.ite (fun h => by cases h) (fun _ => num_wp (WP.ite (fun h' => absurd h' (by decide)) (fun _ => backK2 s t t' et et' p hp m hm)))
end
end Go.Proofs.YtddmmgcfanpmmaaDoor.Lx
