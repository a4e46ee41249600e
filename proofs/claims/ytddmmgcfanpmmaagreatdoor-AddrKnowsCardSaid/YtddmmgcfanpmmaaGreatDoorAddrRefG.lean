/- The document's own answer for layer 4 (weirref4) and the program's: Class, GroupMac, Solicited. -/
import Derived.Test.YtddmmgcfanpmmaaGreatDoorAddrRefE
import Derived.Test.YtddmmgcfanpmmaaGreatDoorAddrRefA2
import Derived.Test.YtddmmgcfanpmmaaGreatDoorAddrClass
set_option linter.unusedVariables false
set_option linter.unusedSimpArgs false
namespace Go.Proofs.YtddmmgcfanpmmaaGreatDoor.Lx
open Go Go.Proofs Go.RowKit
theorem band127_tab : ∀ c : _root_.Fin 256, band .u8 (c.val : Int) 127 = ((c.val % 128 : Nat) : Int) := by decide +kernel
theorem band127 {c : Int} (h : 0 ≤ c ∧ c ≤ 255) : band .u8 c 127 = c % 128 ∧ Int.tmod c 128 = c % 128 := by
  have := band127_tab ⟨c.toNat, by omega⟩
  simp only [show ((c.toNat : Nat) : Int) = c by omega] at this
  refine ⟨by rw [this]; omega, Int.tmod_eq_emod_of_nonneg h.1⟩
def gmM (ip : api_IP) : Vec Int 6 × Int :=
  if classM ip ≠ 3 then (⟨[0, 0, 0, 0, 0, 0], rfl⟩, 40)
  else if ip.V = 4 then (⟨[1, 0, 94, ip.A.l.getD 1 0 % 128, ip.A.l.getD 2 0, ip.A.l.getD 3 0], rfl⟩, 0)
  else (⟨[51, 51, ip.A.l.getD 12 0, ip.A.l.getD 13 0, ip.A.l.getD 14 0, ip.A.l.getD 15 0], rfl⟩, 0)
def solM (ip : api_IP) : api_IP × Int :=
  if ip.V ≠ 6 ∨ classM ip = 1 ∨ classM ip = 3 then (z_api_IP, 40)
  else (⟨6, ⟨[255, 2, 0, 0, 0, 0, 0, 0, 0, 0, 0, 1, 255, ip.A.l.getD 13 0, ip.A.l.getD 14 0, ip.A.l.getD 15 0], rfl⟩⟩, 0)
def pfx (n : addr_net) : api_Prefix := ⟨⟨n.v, n.a⟩, n.bits⟩
structure NetT (t : ByteArray) (n : addr_net) : Prop where
  p : prefixM (strI t) = (pfx n, 0, 0)
  v : vpM (pfx n) = 0
  b : Byt n.a.l
theorem t0 : NetT str13 ⟨4, v16 [], 32, 1⟩ := ⟨by decide +kernel, by decide +kernel, by unfold Byt; decide +kernel⟩
theorem t1 : NetT str14 ⟨6, v16 [], 128, 1⟩ := ⟨by decide +kernel, by decide +kernel, by unfold Byt; decide +kernel⟩
theorem t2 : NetT str15 ⟨4, v16 [127], 8, 2⟩ := ⟨by decide +kernel, by decide +kernel, by unfold Byt; decide +kernel⟩
theorem t3 : NetT str16 ⟨6, v16 (List.replicate 15 0 ++ [1]), 128, 2⟩ := ⟨by decide +kernel, by decide +kernel, by unfold Byt; decide +kernel⟩
theorem t4 : NetT str17 ⟨4, v16 [224], 4, 3⟩ := ⟨by decide +kernel, by decide +kernel, by unfold Byt; decide +kernel⟩
theorem t5 : NetT str18 ⟨6, v16 [255], 8, 3⟩ := ⟨by decide +kernel, by decide +kernel, by unfold Byt; decide +kernel⟩
theorem t6 : NetT str19 ⟨4, v16 [169, 254], 16, 4⟩ := ⟨by decide +kernel, by decide +kernel, by unfold Byt; decide +kernel⟩
theorem t7 : NetT str20 ⟨6, v16 [254, 128], 10, 4⟩ := ⟨by decide +kernel, by decide +kernel, by unfold Byt; decide +kernel⟩
theorem t8 : NetT str21 ⟨4, v16 [255, 255, 255, 255], 32, 5⟩ := ⟨by decide +kernel, by decide +kernel, by unfold Byt; decide +kernel⟩
theorem t9 : NetT str22 ⟨4, v16 [], 8, 6⟩ := ⟨by decide +kernel, by decide +kernel, by unfold Byt; decide +kernel⟩
theorem t10 : NetT str23 ⟨4, v16 [240], 4, 6⟩ := ⟨by decide +kernel, by decide +kernel, by unfold Byt; decide +kernel⟩
theorem t11 : NetT str24 ⟨6, v16 [], 8, 6⟩ := ⟨by decide +kernel, by decide +kernel, by unfold Byt; decide +kernel⟩
theorem sol_ip : ipM (strI str25) = (⟨6, ⟨[255, 2, 0, 0, 0, 0, 0, 0, 0, 0, 0, 1, 255, 0, 0, 0], rfl⟩⟩, 0, 0) := by decide +kernel
section
variable {W w : World} {Hs : List HP}
theorem of_wp (s : Ss W Hs w) {t : ByteArray} {n : addr_net} (h : NetT t n) (ip : api_IP) (hb : Byt ip.A.l) (hs : sizeM ip > 0) : WP (weirref4_of t ip) w (fun r w' => r = inNet ip n ∧ Ss W Hs w') := by
  unfold weirref4_of
  refine WP.slot' s (fun _ w s => WP.step (rParsePrefix_wp s t) ?_)
  rintro _ w ⟨rfl, s⟩
  rw [h.p]
  refine WP.slot' s (fun _ w s => WP.step (rContains_wp s _ h.b ip hb) ?_)
  rintro _ w ⟨rfl, s⟩
  refine WP.ret ⟨?_, s⟩
  unfold ctM inNet
  exact decide_eq_decide.2 ⟨fun x => x.2.2, fun x => ⟨h.v, hs, x⟩⟩
theorem of2_wp {β : Type} (s : Ss W Hs w) {t t' : ByteArray} {n n' : addr_net} (h : NetT t n) (h' : NetT t' n') (ip : api_IP) (hb : Byt ip.A.l) (hs : sizeM ip > 0) {f : Bool → M β} {Q : β → World → Prop} (k : ∀ w', Ss W Hs w' → WP (f (inNet ip n || inNet ip n')) w' Q) :
    WP (weirref4_of t ip >>= fun r => (if r = true then pure true else weirref4_of t' ip >>= fun r2 => pure r2) >>= f) w Q := by
  refine WP.step (of_wp s h ip hb hs) ?_
  rintro _ w ⟨rfl, s⟩
  refine WP.step (R := fun y w' => y = (inNet ip n || inNet ip n') ∧ Ss W Hs w') (WP.ite (fun h1 => WP.ret ⟨by rw [h1]; rfl, s⟩) (fun h1 => WP.step (of_wp s h' ip hb hs) ?_)) ?_
  · rintro _ w ⟨rfl, s⟩
    refine WP.ret ⟨?_, s⟩
    cases hx : inNet ip n with
    | true => exact absurd hx h1
    | false => rfl
  rintro _ w ⟨rfl, s⟩
  exact k w s
theorem rClass_wp (s : Ss W Hs w) (ip : api_IP) (hb : Byt ip.A.l) : WP (weirref4_Class ip) w (fun r w' => r = classM ip ∧ Ss W Hs w') := by
  unfold weirref4_Class
  refine WP.slot' s (fun _ w s => WP.step (rValid_wp s ip) ?_)
  rintro _ w ⟨rfl, s⟩
  refine WP.ite (fun h => WP.ret ⟨by unfold classM; rw [if_neg (fun h' => h (decide_eq_true h'))], s⟩) (fun h => ?_)
  have hs : sizeM ip > 0 := of_decide_eq_true (Decidable.not_not.1 h)
  have hc : classM ip = if inNet ip ⟨4, v16 [], 32, 1⟩ = true then 1 else if inNet ip ⟨6, v16 [], 128, 1⟩ = true then 1 else if inNet ip ⟨4, v16 [127], 8, 2⟩ = true then 2 else if inNet ip ⟨6, v16 (List.replicate 15 0 ++ [1]), 128, 2⟩ = true then 2 else if inNet ip ⟨4, v16 [224], 4, 3⟩ = true then 3 else if inNet ip ⟨6, v16 [255], 8, 3⟩ = true then 3 else if inNet ip ⟨4, v16 [169, 254], 16, 4⟩ = true then 4 else if inNet ip ⟨6, v16 [254, 128], 10, 4⟩ = true then 4 else if inNet ip ⟨4, v16 [255, 255, 255, 255], 32, 5⟩ = true then 5 else if inNet ip ⟨4, v16 [], 8, 6⟩ = true then 6 else if inNet ip ⟨4, v16 [240], 4, 6⟩ = true then 6 else if inNet ip ⟨6, v16 [], 8, 6⟩ = true then 6 else 7 := by
    unfold classM
    rw [if_pos hs]
    rfl
  rw [hc]
  refine of2_wp s t0 t1 ip hb hs (fun w s => WP.ite (fun h0 => WP.ret ⟨?_, s⟩) (fun h0 => ?_))
  · rcases Bool.or_eq_true_iff.1 h0 with h | h
    · rw [if_pos h]
    · rw [if_pos h]
      split <;> rfl
  rw [Bool.or_eq_true_iff, not_or] at h0
  rw [if_neg h0.1, if_neg h0.2]
  refine of2_wp s t2 t3 ip hb hs (fun w s => WP.ite (fun h0 => WP.ret ⟨?_, s⟩) (fun h0 => ?_))
  · rcases Bool.or_eq_true_iff.1 h0 with h | h
    · rw [if_pos h]
    · rw [if_pos h]
      split <;> rfl
  rw [Bool.or_eq_true_iff, not_or] at h0
  rw [if_neg h0.1, if_neg h0.2]
  refine of2_wp s t4 t5 ip hb hs (fun w s => WP.ite (fun h0 => WP.ret ⟨?_, s⟩) (fun h0 => ?_))
  · rcases Bool.or_eq_true_iff.1 h0 with h | h
    · rw [if_pos h]
    · rw [if_pos h]
      split <;> rfl
  rw [Bool.or_eq_true_iff, not_or] at h0
  rw [if_neg h0.1, if_neg h0.2]
  refine of2_wp s t6 t7 ip hb hs (fun w s => WP.ite (fun h0 => WP.ret ⟨?_, s⟩) (fun h0 => ?_))
  · rcases Bool.or_eq_true_iff.1 h0 with h | h
    · rw [if_pos h]
    · rw [if_pos h]
      split <;> rfl
  rw [Bool.or_eq_true_iff, not_or] at h0
  rw [if_neg h0.1, if_neg h0.2]
  refine WP.step (of_wp s t8 ip hb hs) ?_
  rintro _ w ⟨rfl, s⟩
  refine WP.ite (fun h0 => WP.ret ⟨by rw [if_pos h0], s⟩) (fun h0 => ?_)
  rw [if_neg h0]
  refine of2_wp s t9 t10 ip hb hs (fun w s => ?_)
  refine WP.step (R := fun y w' => y = ((inNet ip ⟨4, v16 [], 8, 6⟩ || inNet ip ⟨4, v16 [240], 4, 6⟩) || inNet ip ⟨6, v16 [], 8, 6⟩) ∧ Ss W Hs w') (WP.ite (fun h1 => WP.ret ⟨by rw [h1]; rfl, s⟩) (fun h1 => WP.step (of_wp s t11 ip hb hs) ?_)) ?_
  · rintro _ w ⟨rfl, s⟩
    refine WP.ret ⟨?_, s⟩
    cases hx : (inNet ip ⟨4, v16 [], 8, 6⟩ || inNet ip ⟨4, v16 [240], 4, 6⟩) with
    | true => exact absurd hx h1
    | false => rfl
  rintro _ w ⟨rfl, s⟩
  refine WP.ite (fun h0 => WP.ret ⟨?_, s⟩) (fun h0 => WP.ret ⟨?_, s⟩)
  · rcases Bool.or_eq_true_iff.1 h0 with h | h
    · rcases Bool.or_eq_true_iff.1 h with h | h
      · rw [if_pos h]
      · rw [if_pos h]
        split <;> rfl
    · rw [if_pos h]
      split
      · rfl
      · split <;> rfl
  · rw [Bool.or_eq_true_iff, Bool.or_eq_true_iff, not_or, not_or] at h0
    rw [if_neg h0.1.1, if_neg h0.1.2, if_neg h0.2]
theorem GroupMac_wp (s : Ss W Hs w) (t' : Nat) (et' : nth Hs t' = some TabC) (ip : api_IP) (hb : Byt ip.A.l) : WP (addr_GroupMac ip) w (fun r w' => r = gmM ip ∧ Ss W Hs w') := by
  unfold addr_GroupMac gmM
  refine WP.slot' s (fun _ w s => WP.slot' s (fun _ w s => WP.slot' s (fun _ w s => WP.step (Class_wp s t' et' ip hb) ?_)))
  rintro _ w ⟨rfl, s⟩
  refine WP.ite (fun h => WP.ret ⟨by rw [if_pos h], s⟩) (fun h => ?_)
  rw [if_neg h]
  refine WP.ite (fun h => WP.ret ⟨?_, s⟩) (fun h => WP.ret ⟨by rw [if_neg h]; rfl, s⟩)
  rw [if_pos h, ← (band127 (getD_b hb 1)).1]
  rfl
theorem rGroupMac_wp (s : Ss W Hs w) (ip : api_IP) (hb : Byt ip.A.l) : WP (weirref4_GroupMac ip) w (fun r w' => r = gmM ip ∧ Ss W Hs w') := by
  unfold weirref4_GroupMac gmM
  refine WP.slot' s (fun _ w s => WP.slot' s (fun _ w s => WP.step (rClass_wp s ip hb) ?_))
  rintro _ w ⟨rfl, s⟩
  refine WP.ite (fun h => WP.ret ⟨by rw [if_pos h], s⟩) (fun h => ?_)
  rw [if_neg h]
  refine WP.ite (fun h => WP.ret ⟨?_, s⟩) (fun h => WP.ret ⟨by rw [if_neg h]; rfl, s⟩)
  rw [if_pos h, ← (band127 (getD_b hb 1)).2]
  rfl
theorem sol_if (s : Ss W Hs w) (ip : api_IP) {β : Type} {f : Bool → M β} {Q : β → World → Prop} (k : ∀ w', Ss W Hs w' → WP (f (decide (ip.V ≠ 6 ∨ classM ip = 1 ∨ classM ip = 3))) w' Q) :
    WP ((if ip.V ≠ 6 then pure true else pure (classM ip == 1)) >>= fun y4 => (if y4 = true then pure true else pure (classM ip == 3)) >>= f) w Q := by
  refine WP.step (R := fun y w' => y = decide (ip.V ≠ 6 ∨ classM ip = 1) ∧ w = w') (WP.ite (fun h => WP.ret ⟨(decide_eq_true (.inl h)).symm, rfl⟩) (fun h => WP.ret ⟨?_, rfl⟩)) ?_
  · rw [Bool.eq_iff_iff, beq_iff_eq, decide_eq_true_iff]
    exact ⟨.inr, fun h' => h'.resolve_left h⟩
  rintro _ _ ⟨rfl, rfl⟩
  refine WP.step (R := fun y w' => y = decide (ip.V ≠ 6 ∨ classM ip = 1 ∨ classM ip = 3) ∧ w = w') (WP.ite (fun h => WP.ret ⟨?_, rfl⟩) (fun h => WP.ret ⟨?_, rfl⟩)) ?_
  · refine (decide_eq_true ?_).symm
    rcases of_decide_eq_true h with h | h
    · exact .inl h
    · exact .inr (.inl h)
  · rw [Bool.eq_iff_iff, beq_iff_eq, decide_eq_true_iff]
    refine ⟨fun h' => .inr (.inr h'), fun h' => ?_⟩
    rcases h' with h' | h' | h'
    · exact absurd (decide_eq_true (.inl h')) h
    · exact absurd (decide_eq_true (.inr h')) h
    · exact h'
  rintro _ _ ⟨rfl, rfl⟩
  exact k _ s
theorem Solicited_wp (s : Ss W Hs w) (t' : Nat) (et' : nth Hs t' = some TabC) (ip : api_IP) (hb : Byt ip.A.l) : WP (addr_Solicited ip) w (fun r w' => r = solM ip ∧ Ss W Hs w') := by
  unfold addr_Solicited solM
  refine WP.slot' s (fun _ w s => WP.slot' s (fun _ w s => WP.step (Class_wp s t' et' ip hb) ?_))
  rintro _ w ⟨rfl, s⟩
  refine sol_if s ip (fun w s => WP.ite (fun h => WP.ret ⟨by rw [if_pos (of_decide_eq_true h)], s⟩) (fun h => WP.ret ⟨?_, s⟩))
  rw [if_neg (fun h' => h (decide_eq_true h'))]
  rfl
theorem rSolicited_wp (s : Ss W Hs w) (ip : api_IP) (hb : Byt ip.A.l) : WP (weirref4_Solicited ip) w (fun r w' => r = solM ip ∧ Ss W Hs w') := by
  unfold weirref4_Solicited solM
  refine WP.slot' s (fun _ w s => WP.slot' s (fun _ w s => WP.step (rClass_wp s ip hb) ?_))
  rintro _ w ⟨rfl, s⟩
  refine sol_if s ip (fun w s => WP.ite (fun h => WP.ret ⟨by rw [if_pos (of_decide_eq_true h)], s⟩) (fun h => WP.step (rParseIP_wp s _) ?_))
  rintro _ w ⟨rfl, s⟩
  rw [if_neg (fun h' => h (decide_eq_true h')), sol_ip]
  refine WP.slot' s (fun _ w s => ?_)
  refine WP.loopG (γ := Nat) (fun i (x : Int × api_IP) w => x.1 = (i : Int) ∧ 13 ≤ i ∧ i ≤ 16 ∧ x.2 = ⟨6, ⟨[255, 2, 0, 0, 0, 0, 0, 0, 0, 0, 0, 1, 255, if 13 < i then ip.A.l.getD 13 0 else 0, if 14 < i then ip.A.l.getD 14 0 else 0, if 15 < i then ip.A.l.getD 15 0 else 0], rfl⟩⟩ ∧ Ss W Hs w) (fun i _ => 16 - i) 13 ⟨rfl, by omega, by omega, rfl, s⟩ ?_
  clear s
  rintro i ⟨_, _⟩ w ⟨rfl, h1, h2, rfl, s⟩
  show WP (weirref4_Solicited.L1 ip (i : Int) _) w _
  unfold weirref4_Solicited.L1
  refine WP.ite (fun h => WP.chk ⟨by omega, by omega⟩ (WP.chk ⟨by omega, by omega⟩ ?_)) (fun h => WP.done ⟨?_, s⟩)
  · have hi : i = 13 ∨ i = 14 ∨ i = 15 := by omega
    rcases hi with rfl | rfl | rfl
    · exact WP.next ⟨14, ⟨show IntKind.wrap .i64 (((13 : Nat) : Int) + 1) = ((14 : Nat) : Int) by decide, by omega, by omega, rfl, s⟩, by omega⟩
    · exact WP.next ⟨15, ⟨show IntKind.wrap .i64 (((14 : Nat) : Int) + 1) = ((15 : Nat) : Int) by decide, by omega, by omega, rfl, s⟩, by omega⟩
    · exact WP.next ⟨16, ⟨show IntKind.wrap .i64 (((15 : Nat) : Int) + 1) = ((16 : Nat) : Int) by decide, by omega, by omega, rfl, s⟩, by omega⟩
  · have : i = 16 := by omega
    subst this
    rfl
end
end Go.Proofs.YtddmmgcfanpmmaaGreatDoor.Lx
