/- weirlaw4.AddrUnlike: what is printed alike is alike: the walk. -/
import Derived.Test.YtddmmgcfanpmmaaDoorAddrLawBack
import Derived.Test.YtddmmgcfanpmmaaDoorAddrText
set_option linter.unusedVariables false
set_option linter.unusedSimpArgs false
namespace Go.Proofs.YtddmmgcfanpmmaaDoor.Lx
open Go Go.Proofs Go.RowKit
theorem piM_pos {a : api_IP} (h : (piM a).2 = 0) : sizeM a > 0 ∧ (piM a).1 = bstr (prIP a) := by
  unfold piM at h ⊢
  by_cases e : sizeM a > 0
  · rw [if_pos e]
    exact ⟨e, rfl⟩
  · rw [if_neg e] at h
    cases h
theorem ppM_pos {p : api_Prefix} (h : (ppM p).2 = 0) : vpM p = 0 ∧ (ppM p).1 = bstr (prIP p.IP ++ 47 :: dec3 p.Len.toNat) := by
  unfold ppM at h ⊢
  by_cases e : vpM p = 0
  · rw [if_pos e]
    exact ⟨e, rfl⟩
  · rw [if_neg e] at h
    exact absurd h e
theorem piM_same {a b : api_IP} (ha : Byt a.A.l) (hb : Byt b.A.l) (h1 : (piM a).2 = 0) (h2 : (piM b).2 = 0) : (piM a).1 = (piM b).1 ↔ a = b := by
  obtain ⟨a1, a2⟩ := piM_pos h1
  obtain ⟨b1, b2⟩ := piM_pos h2
  refine ⟨fun h => ?_, fun h => by rw [h]⟩
  have e1 := ip_again ha a1
  rw [← a2, h, b2, ip_again hb b1] at e1
  exact (Prod.mk.inj e1).1.symm
theorem ppM_same {a b : api_Prefix} (ha : Byt a.IP.A.l) (hb : Byt b.IP.A.l) (h1 : (ppM a).2 = 0) (h2 : (ppM b).2 = 0) : (ppM a).1 = (ppM b).1 ↔ a = b := by
  obtain ⟨a1, a2⟩ := ppM_pos h1
  obtain ⟨b1, b2⟩ := ppM_pos h2
  refine ⟨fun h => ?_, fun h => by rw [h]⟩
  have e1 := pref_again ha a1
  rw [← a2, h, b2, pref_again hb b1] at e1
  exact (Prod.mk.inj e1).1.symm
theorem mac_same {a b : Vec Int 6} (ha : Byt a.l) (hb : Byt b.l) : bstr (macL a.l) = bstr (macL b.l) ↔ a = b := by
  refine ⟨fun h => ?_, fun h => by rw [h]⟩
  have e1 := mac_again ha
  rw [h, mac_again hb] at e1
  exact (Prod.mk.inj e1).1.symm
section
variable {W w : World} {Hs : List HP}
theorem pair_wp {β : Type} {x y : ByteArray × Int} {α : Type} {a b : α} {f : Bool → M β} {Q : β → World → Prop} (hs : x.2 = 0 → y.2 = 0 → (x.1 = y.1 ↔ a = b)) (h : WP (f false) w Q) :
    WP (weirlaw4_num x.2 >>= fun r9 => (if r9 = 0 then weirlaw4_num y.2 >>= fun r10 => pure (r10 == 0) else pure false) >>= fun y11 => (if y11 = true then pure (!((x.1.toList == y.1.toList) == (eqv a b))) else pure false) >>= f) w Q := by
  refine num_wp ?_
  refine WP.step (R := fun z w' => z = decide (x.2 = 0 ∧ y.2 = 0) ∧ w = w') ?_ ?_
  · by_cases h1 : x.2 = 0
    · refine WP.ite (fun _ => num_wp (WP.ret ⟨?_, rfl⟩)) (fun h => absurd h1 h)
      by_cases h2 : y.2 = 0 <;> simp [h1, h2]
    · refine WP.ite (fun h => absurd h h1) (fun _ => WP.ret ⟨?_, rfl⟩)
      simp [h1]
  · rintro _ _ ⟨rfl, rfl⟩
    refine WP.step (R := fun z w' => z = false ∧ w = w') ?_ (by rintro _ _ ⟨rfl, rfl⟩; exact h)
    by_cases h1 : x.2 = 0 ∧ y.2 = 0
    · refine WP.ite (fun _ => WP.ret ⟨same_text (hs h1.1 h1.2), rfl⟩) (fun h => absurd (decide_eq_true h1) h)
    · refine WP.ite (fun h => absurd (of_decide_eq_true h) h1) (fun _ => WP.ret ⟨rfl, rfl⟩)
theorem AddrUnlike_wp (s : Ss W Hs w) (t t' : Nat) (et : nth Hs t = some TabN) (et' : nth Hs t' = some TabC) (a b : api_IP) (ha : Byt a.A.l) (hb : Byt b.A.l) (p q : api_Prefix) (hp : Byt p.IP.A.l) (hq : Byt q.IP.A.l) (m n : Vec Int 6) (hm : Byt m.l) (hn : Byt n.l) : WP (weirlaw4_AddrUnlike a b p q m n) w (fun r w' => r = true ∧ Ss W Hs w') := by
  unfold weirlaw4_AddrUnlike
  refine WP.slot' s (fun _ w s => WP.slot' s (fun _ w s => WP.slot' s (fun _ w s => WP.slot' s (fun _ w s => WP.slot' s (fun _ w s => WP.slot' s (fun _ w s => WP.step (PrintIP_wp s t et a ha) ?_))))))
  rintro _ w ⟨rfl, s⟩
  refine WP.step (PrintIP_wp s t et b hb) ?_
  rintro _ w ⟨rfl, s⟩
  refine pair_wp (piM_same ha hb) ?_
  refine WP.ite (fun h => by cases h) (fun _ => WP.step (PrintPrefix_wp s t et p hp) ?_)
  rintro _ w ⟨rfl, s⟩
  refine WP.step (PrintPrefix_wp s t et q hq) ?_
  rintro _ w ⟨rfl, s⟩
  refine pair_wp (ppM_same hp hq) ?_
  refine WP.ite (fun h => by cases h) (fun _ => WP.draw' s (fun w s => WP.step (started_wp s t t' et et') ?_))
  rintro _ w ⟨rfl, s⟩
  refine WP.step (R := fun z w' => z = true ∧ Ss W Hs w') (WP.ite (fun _ => WP.step (PrintMac_wp s m hm) ?_) (fun h => absurd rfl h)) ?_
  · rintro _ w ⟨rfl, s⟩
    refine WP.step (PrintMac_wp s n hn) ?_
    rintro _ w ⟨rfl, s⟩
    exact WP.ret ⟨same_text' (mac_same hm hn), s⟩
  rintro _ w ⟨rfl, s⟩
  exact WP.ret ⟨rfl, s⟩
end
end Go.Proofs.YtddmmgcfanpmmaaDoor.Lx
