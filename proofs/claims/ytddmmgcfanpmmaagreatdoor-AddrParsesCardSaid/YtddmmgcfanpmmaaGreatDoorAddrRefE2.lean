/- The document's own answer for layer 4 (weirref4): ParseMac. -/
import Derived.Test.YtddmmgcfanpmmaaGreatDoorAddrRefB
import Derived.Test.YtddmmgcfanpmmaaGreatDoorAddrParse4
set_option linter.unusedVariables false
set_option linter.unusedSimpArgs false
namespace Go.Proofs.YtddmmgcfanpmmaaGreatDoor.Lx
open Go Go.Proofs Go.RowKit
theorem macB_nib {l : List Int} {i : Nat} (h3 : i % 3 ≠ 2) (hp : ∀ j, j < i → macOk l j = true) : 0 ≤ macB l i (i / 3) ∧ macB l i (i / 3) ≤ 15 := by
  unfold macB
  rw [if_neg (by omega)]
  split
  · have hq := hp (3 * (i / 3)) (by omega)
    unfold macOk at hq
    rw [if_neg (by omega)] at hq
    have hq := of_decide_eq_true hq
    have hq2 := hexV_lt (l.getD (3 * (i / 3)) 0)
    omega
  · omega
theorem macV_set2 {l : List Int} {i : Nat} (hi : i < 17) (h3 : i % 3 ≠ 2) (hex : 0 ≤ hexV (l.getD i 0)) (hp : ∀ j, j < i → macOk l j = true) :
    Vec.s (macV l i) ((i / 3 : Nat) : Int) (IntKind.wrap .u8 (IntKind.wrap .u8 (Vec.g (macV l i) ((i / 3 : Nat) : Int) 0 * 16) + IntKind.wrap .u8 (hexV (l.getD i 0)))) = macV l (i + 1) := by
  rw [← macV_set hi h3 hex hp]
  congr 1
  have hv := hexV_lt (l.getD i 0)
  have hg : Vec.g (macV l i) ((i / 3 : Nat) : Int) 0 = macB l i (i / 3) := by
    unfold Vec.g macV
    rw [Int.toNat_natCast, List.getD, List.getElem?_map, List.getElem?_range (by omega)]
    rfl
  have hn := macB_nib h3 hp
  rw [hg, nib hn.1 hn.2 hex hv.2, wrap_u8 (n := macB l i (i / 3) * 16) (by omega) (by omega), wrap_u8 (n := hexV _) (by omega) (by omega), wrap_u8 (by omega) (by omega)]
  omega
section
variable {W w : World} {Hs : List HP}
theorem rParseMac_wp (s : Ss W Hs w) (t : ByteArray) : WP (weirref4_ParseMac t) w (fun r w' => r = macP (strI t) ∧ Ss W Hs w') := by
  have hl := strI_len t
  unfold weirref4_ParseMac macP
  refine WP.slot' s (fun _ w s => WP.ite (fun h => WP.ret ⟨?_, s⟩) (fun h => ?_))
  · rw [if_pos (by omega)]
  rw [if_neg (by omega)]
  generalize hX : macF (strI t) 17 0 = X
  refine WP.slot' s (fun _ w s => ?_)
  refine WP.loopG (γ := Nat) (fun i (p : Int × Vec Int 6 × Vec Int 6) w => p.1 = (i : Int) ∧ p.2.1 = macV (strI t) i ∧ i ≤ 17 ∧ i ≤ t.size ∧ (∀ j, j < i → macOk (strI t) j = true) ∧ macF (strI t) (17 - i) i = X ∧ Ss W Hs w) (fun i _ => 17 - i) 0 ⟨rfl, rfl, Nat.zero_le _, Nat.zero_le _, fun j hj => by omega, hX, s⟩ ?_
  clear s hX
  rintro i ⟨_, v, v2⟩ w ⟨rfl, hv, hi, hit, hp, hF, s⟩
  simp only at hv
  subst hv
  show WP (weirref4_ParseMac.L1 t (i : Int) (macV (strI t) i) v2) w _
  unfold weirref4_ParseMac.L1
  have e3 : Int.tmod (i : Int) 3 = ((i % 3 : Nat) : Int) := rfl
  have e4 : IntKind.wrap .i64 (Int.tdiv (i : Int) 3) = ((i / 3 : Nat) : Int) := by
    rw [show Int.tdiv (i : Int) 3 = ((i / 3 : Nat) : Int) from rfl, wrap_i64 (by omega) (by omega)]
  have e5 : IntKind.wrap .i64 ((i : Int) + 1) = ((i + 1 : Nat) : Int) := by
    rw [wrap_i64 (by omega) (by omega)]
    rfl
  rw [e3, e4, e5]
  refine WP.ite (fun h => ?_) (fun h => WP.done ⟨?_, s⟩)
  · have hi17 : i < 17 := by omega
    obtain ⟨k, hk⟩ : ∃ k, 17 - i = k + 1 := ⟨16 - i, by omega⟩
    rw [hk] at hF
    unfold macF at hF
    refine WP.ite (fun h => WP.done ⟨?_, s⟩) (fun h => ?_)
    · rw [if_pos (by omega)] at hF
      rw [← hF]
    rw [if_neg (by omega)] at hF
    have hok : macOk (strI t) i = decide ((i % 3 = 2 ∧ (strI t).getD i 0 = 58) ∨ (i % 3 ≠ 2 ∧ 0 ≤ hexV ((strI t).getD i 0))) := by
      unfold macOk isHex
      by_cases h3 : i % 3 = 2
      · rw [if_pos h3]
        exact decide_eq_decide.2 ⟨fun h => .inl ⟨h3, h⟩, fun h => by rcases h with h | h; exact h.2; exact absurd h3 h.1⟩
      · rw [if_neg h3]
        exact decide_eq_decide.2 ⟨fun h => .inr ⟨h3, h⟩, fun h => by rcases h with h | h; exact absurd h.1 h3; exact h.2⟩
    have h58 : hexV 58 = -1 := by decide
    refine WP.chk ⟨by omega, by omega⟩ ?_
    rw [sb_get]
    refine WP.step (R := fun y w' => y = decide (¬ macOk (strI t) i = true) ∧ w = w') (WP.ite (fun hc => WP.ret ⟨?_, rfl⟩) (fun hc => WP.step (R := fun y w' => y = decide (¬ macOk (strI t) i = true) ∧ w = w') (WP.ite (fun h3 => WP.chk ⟨by omega, by omega⟩ (WP.step (worth_wp _ (getD_b (Byt.strI t) i)) ?_)) (fun h3 => WP.ret ⟨?_, rfl⟩)) (fun r w h => WP.ret h))) ?_
    · refine (decide_eq_true (show ¬ macOk (strI t) i = true from fun hm => hc ?_)).symm
      rw [hok] at hm
      rw [Bool.eq_iff_iff, beq_iff_eq, beq_iff_eq]
      rcases of_decide_eq_true hm with ⟨a, b⟩ | ⟨a, b⟩
      · exact ⟨fun _ => b, fun _ => by omega⟩
      · exact ⟨fun h => absurd (show i % 3 = 2 by omega) a, fun h => by rw [h, h58] at b; omega⟩
    · rintro _ _ ⟨rfl, rfl⟩
      refine WP.ret ⟨?_, rfl⟩
      refine decide_eq_decide.2 ⟨fun h hm => ?_, fun h => ?_⟩
      · rw [hok] at hm
        rcases of_decide_eq_true hm with ⟨a, b⟩ | ⟨a, b⟩ <;> omega
      · rw [hok] at h
        have h := fun x => h (decide_eq_true x)
        exact Int.not_le.1 fun x => h (.inr ⟨by omega, x⟩)
    · refine (decide_eq_false (not_not_intro ?_)).symm
      rw [hok]
      have h2 : i % 3 = 2 := by omega
      have hc := Decidable.not_not.1 hc
      rw [Bool.eq_iff_iff, beq_iff_eq, beq_iff_eq] at hc
      exact decide_eq_true (.inl ⟨h2, hc.1 (by omega)⟩)
    rintro _ _ ⟨rfl, rfl⟩
    refine WP.ite (fun hc => WP.done ⟨?_, s⟩) (fun hc => ?_)
    · rw [if_neg (of_decide_eq_true hc)] at hF
      rw [← hF]
    have hm : macOk (strI t) i = true := Decidable.not_not.1 fun h' => hc (decide_eq_true h')
    rw [if_pos hm] at hF
    have hp' : ∀ j, j < i + 1 → macOk (strI t) j = true := fun j hj => by
      by_cases ej : j = i
      · subst ej
        exact hm
      · exact hp j (by omega)
    refine WP.ite (fun h3 => ?_) (fun h3 => ?_)
    · have h3 : i % 3 ≠ 2 := by omega
      have hx : 0 ≤ hexV ((strI t).getD i 0) := by
        rw [hok] at hm
        rcases of_decide_eq_true hm with ⟨a, b⟩ | ⟨a, b⟩
        · exact absurd a h3
        · exact b
      refine WP.draw' s (fun w s => WP.chk ⟨by omega, by omega⟩ (WP.chk ⟨by omega, by omega⟩ (WP.step (worth_wp _ (getD_b (Byt.strI t) i)) ?_)))
      rintro _ _ ⟨rfl, rfl⟩
      refine WP.chk ⟨by omega, by omega⟩ (WP.next ⟨i + 1, ⟨rfl, macV_set2 hi17 h3 hx hp, by omega, by omega, hp', by rw [← hF, show 17 - (i + 1) = k by omega], s⟩, by omega⟩)
    · exact WP.next ⟨i + 1, ⟨rfl, macV_skip (by omega), by omega, by omega, hp', by rw [← hF, show 17 - (i + 1) = k by omega], s⟩, by omega⟩
  · have hi : i = 17 := by omega
    subst hi
    rw [← hF]
    rfl
end
end Go.Proofs.YtddmmgcfanpmmaaGreatDoor.Lx
