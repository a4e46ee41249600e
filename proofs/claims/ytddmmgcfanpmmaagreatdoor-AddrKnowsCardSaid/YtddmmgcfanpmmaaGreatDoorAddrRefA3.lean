/- The document's own answer for layer 4 (weirref4): masks; the order of addresses, and the program's. -/
import Derived.Test.YtddmmgcfanpmmaaGreatDoorAddrRefA
set_option linter.unusedVariables false
set_option linter.unusedSimpArgs false
namespace Go.Proofs.YtddmmgcfanpmmaaGreatDoor.Lx
open Go Go.Proofs Go.RowKit
section
variable {W w : World} {Hs : List HP}
theorem rMask_wp (s : Ss W Hs w) (ip : api_IP) (hb : Byt ip.A.l) (n : Int) : WP (weirref4_Mask ip n) w (fun r w' => r = mkM ip n ∧ Ss W Hs w') := by
  have hz := sizeM_le ip
  unfold weirref4_Mask
  refine WP.slot' s (fun _ w s => WP.slot' s (fun _ w s => WP.step (rValid_wp s ip) ?_))
  rintro _ w ⟨rfl, s⟩
  refine WP.ite (fun h => WP.ret ⟨?_, s⟩) (fun h => ?_)
  · unfold mkM
    rw [if_pos]
    have : ¬ sizeM ip > 0 := fun h' => h (decide_eq_true h')
    omega
  have hv : sizeM ip > 0 := of_decide_eq_true (Decidable.not_not.1 h)
  refine WP.step (R := fun y w' => y = decide (n < 0 ∨ n > sizeM ip) ∧ Ss W Hs w') (WP.ite (fun h => WP.ret ⟨by simp [h], s⟩) (fun h => WP.step (width_wp s ip hv) ?_)) ?_
  · rintro _ w ⟨rfl, s⟩
    exact WP.ret ⟨by simp [h], s⟩
  rintro _ w ⟨rfl, s⟩
  refine WP.ite (fun h => WP.ret ⟨by unfold mkM; rw [if_neg (by omega), if_pos (of_decide_eq_true h)], s⟩) (fun h => ?_)
  have hn : ¬ (n < 0 ∨ n > sizeM ip) := fun h' => h (decide_eq_true h')
  refine WP.slot' s (fun _ w s => ?_)
  refine WP.loopG (γ := Nat) (fun i (x : Int × api_IP) w => x.1 = (i : Int) ∧ i ≤ 16 ∧ x.2.V = ip.V ∧ (∀ j, j < i → x.2.A.l[j]? = some (mbyte (ip.A.l.getD j 0) (n - 8 * (j : Int)))) ∧ Ss W Hs w) (fun i _ => 16 - i) 0 ⟨rfl, by omega, rfl, fun j h => absurd h (by omega), s⟩ ?_
  clear s
  rintro i ⟨_, v⟩ w ⟨rfl, hi, hV, hm, s⟩
  simp only at hV hm
  show WP (weirref4_Mask.L1 ip n (i : Int) v) w _
  unfold weirref4_Mask.L1
  refine WP.ite (fun h => ?_) (fun h => WP.done ⟨?_, s⟩)
  · have e8 : IntKind.wrap .i64 (8 * (i : Int)) = 8 * (i : Int) := wrap_i64 (by omega) (by omega)
    have hc := getD_b hb i
    have hacc : ∀ t, 0 ≤ accB (fun t => if (t : Int) < n - 8 * (i : Int) then bitB (ip.A.l.getD i 0) t else 0) t ∧ accB (fun t => if (t : Int) < n - 8 * (i : Int) then bitB (ip.A.l.getD i 0) t else 0) t < 2 ^ t := by
      intro t
      induction t with
      | zero => exact ⟨by unfold accB; omega, by unfold accB; omega⟩
      | succ t ih =>
        have hb01 : 0 ≤ (if (t : Int) < n - 8 * (i : Int) then bitB (ip.A.l.getD i 0) t else 0) ∧ (if (t : Int) < n - 8 * (i : Int) then bitB (ip.A.l.getD i 0) t else 0) ≤ 1 := by
          split
          · rcases bitB_01 (ip.A.l.getD i 0) t with h | h <;> omega
          · omega
        unfold accB
        rw [Int.pow_succ]
        omega
    rw [e8]
    refine WP.loopG (γ := Nat) (fun t (x : Int × Int) w => x.1 = accB (fun t => if (t : Int) < n - 8 * (i : Int) then bitB (ip.A.l.getD i 0) t else 0) t ∧ x.2 = ((8 * i + t : Nat) : Int) ∧ t ≤ 8 ∧ Ss W Hs w) (fun t _ => 8 - t) 0 ⟨rfl, by simp, by omega, s⟩ ?_
    clear s
    rintro t ⟨_, _⟩ w ⟨rfl, rfl, ht, s⟩
    show WP (weirref4_Mask.L2 ip n (i : Int) v _ ((8 * i + t : Nat) : Int)) w _
    unfold weirref4_Mask.L2
    rw [e8, wrap_i64 (n := 8 * (i : Int) + 8) (by omega) (by omega)]
    have hA := hacc t
    have hp : (2 : Int) ^ t ≤ 256 := (show ∀ t : _root_.Fin 9, (2 : Int) ^ t.val ≤ 256 by decide) ⟨t, by omega⟩
    refine WP.ite (fun h2 => ?_) (fun h2 => ?_)
    · have hw : IntKind.wrap .i64 (((8 * i + t : Nat) : Int) + 1) = ((8 * i + (t + 1) : Nat) : Int) := by rw [wrap_i64 (by omega) (by omega)]; omega
      have hb1 : bitM ip.A.l (8 * i + t) = bitB (ip.A.l.getD i 0) t := by
        unfold bitM
        rw [show (8 * i + t) / 8 = i by omega, show (8 * i + t) % 8 = t by omega]
      refine WP.ite (fun h3 => WP.step (bit_wp s ip hb (i := 8 * i + t) (by omega)) ?_) (fun h3 => ?_)
      · rintro _ w ⟨rfl, s⟩
        have h01 := bitB_01 (ip.A.l.getD i 0) t
        rw [hw, hb1, wrap_i64 (n := 2 * _) (by omega) (by omega), wrap_i64 (by omega) (by omega)]
        refine WP.next ⟨t + 1, ⟨?_, rfl, by omega, s⟩, by omega⟩
        simp only [accB]
        rw [if_pos (by omega)]
      · rw [hw, wrap_i64 (n := 2 * _) (by omega) (by omega)]
        refine WP.next ⟨t + 1, ⟨?_, rfl, by omega, s⟩, by omega⟩
        simp only [accB]
        rw [if_neg (by omega)]
        omega
    · have ht8 : t = 8 := by omega
      subst ht8
      rw [acc_mbyte hc] at hA ⊢
      unfold weirref4_Mask.K1
      rw [wrap_u8 (by omega) (by omega), wrap_i64 (by omega) (by omega)]
      refine WP.step (R := fun r w' => r = LS.next ((i : Int) + 1, (⟨v.V, Vec.s v.A (i : Int) (mbyte (ip.A.l.getD i 0) (n - 8 * (i : Int)))⟩ : api_IP)) ∧ Ss W Hs w') (WP.chk ⟨by omega, by omega⟩ (WP.ret ⟨rfl, s⟩)) ?_
      rintro _ w ⟨rfl, s⟩
      refine WP.done ⟨i + 1, ⟨by simp, by omega, hV, fun j hj => ?_, s⟩, by omega⟩
      show (v.A.l.set (Int.toNat (i : Int)) _)[j]? = _
      rw [Int.toNat_natCast]
      by_cases ej : j = i
      · subst ej
        rw [List.getElem?_set_self (by rw [v.A.h]; omega)]
      · rw [List.getElem?_set_ne (fun h => ej h.symm)]
        exact hm j (by omega)
  · have hi : i = 16 := by omega
    subst hi
    unfold mkM
    rw [if_neg (by omega), if_neg hn]
    obtain ⟨V, A⟩ := v
    simp only at hV hm
    subst hV
    have : A = maskM ip.A n := by
      refine Vec.eq ?_
      show A.l = maskL ip.A.l n
      apply List.ext_getElem?
      intro j
      unfold maskL
      rw [List.getElem?_map]
      by_cases hj : j < 16
      · rw [hm j hj, List.getElem?_range hj]
        rfl
      · rw [List.getElem?_eq_none (by rw [A.h]; omega), List.getElem?_eq_none (by simp; omega)]
        rfl
    rw [this]
def lessF (a b : List Int) : Nat → Nat → Bool
  | 0, _ => false
  | f + 1, i => if a.getD i 0 ≠ b.getD i 0 then decide (a.getD i 0 < b.getD i 0) else lessF a b f (i + 1)
def lessM (a b : api_IP) : Bool := if a.V ≠ b.V then decide (a.V < b.V) else lessF a.A.l b.A.l 16 0
theorem Less_wp (s : Ss W Hs w) (a b : api_IP) : WP (addr_Less a b) w (fun r w' => r = lessM a b ∧ Ss W Hs w') := by
  unfold addr_Less lessM
  refine WP.slot' s (fun _ w s => WP.slot' s (fun _ w s => WP.ite (fun h => WP.ret ⟨by rw [if_pos h], s⟩) (fun h => ?_)))
  rw [if_neg h]
  generalize hX : lessF a.A.l b.A.l 16 0 = X
  refine WP.loopG (γ := Nat) (fun i (x : Int) w => x = (i : Int) ∧ i ≤ 16 ∧ lessF a.A.l b.A.l (16 - i) i = X ∧ Ss W Hs w) (fun i _ => 16 - i) 0 ⟨rfl, by omega, hX, s⟩ ?_
  clear s hX
  rintro i _ w ⟨rfl, hi, hl, s⟩
  show WP (addr_Less.L1 a b (i : Int)) w _
  unfold addr_Less.L1
  rw [vecg, vecg]
  refine WP.ite (fun h1 => WP.draw' s (fun w s => WP.chk ⟨by omega, by omega⟩ (WP.chk ⟨by omega, by omega⟩ ?_))) (fun h1 => ?_)
  · rw [show 16 - i = (15 - i) + 1 by omega] at hl
    unfold lessF at hl
    refine WP.ite (fun h2 => WP.draw' s (fun w s => WP.chk ⟨by omega, by omega⟩ (WP.chk ⟨by omega, by omega⟩ (WP.done ⟨?_, s⟩)))) (fun h2 => ?_)
    · rw [← hl, if_pos h2]
    · rw [if_neg h2] at hl
      rw [wrap_i64 (by omega) (by omega)]
      exact WP.next ⟨i + 1, ⟨by omega, by omega, by rw [show 16 - (i + 1) = 15 - i by omega]; exact hl, s⟩, by omega⟩
  · rw [show 16 - i = 0 by omega] at hl
    exact WP.done ⟨by rw [← hl]; rfl, s⟩
theorem rLess_wp (s : Ss W Hs w) (a b : api_IP) : WP (weirref4_Less a b) w (fun r w' => r = lessM a b ∧ Ss W Hs w') := by
  unfold weirref4_Less lessM
  refine WP.slot' s (fun _ w s => WP.slot' s (fun _ w s => WP.ite (fun h => WP.ret ⟨by rw [if_pos h], s⟩) (fun h => ?_)))
  rw [if_neg h]
  generalize hX : lessF a.A.l b.A.l 16 0 = X
  refine WP.loopG (γ := Nat) (fun i (x : Int) w => x = (i : Int) ∧ i ≤ 16 ∧ lessF a.A.l b.A.l (16 - i) i = X ∧ Ss W Hs w) (fun i _ => 16 - i) 0 ⟨rfl, by omega, hX, s⟩ ?_
  clear s hX
  rintro i _ w ⟨rfl, hi, hl, s⟩
  show WP (weirref4_Less.L1 a b (i : Int)) w _
  unfold weirref4_Less.L1
  rw [vecg, vecg]
  refine WP.ite (fun h1 => WP.draw' s (fun w s => WP.chk ⟨by omega, by omega⟩ (WP.chk ⟨by omega, by omega⟩ ?_))) (fun h1 => ?_)
  · rw [show 16 - i = (15 - i) + 1 by omega] at hl
    unfold lessF at hl
    refine WP.ite (fun h2 => WP.draw' s (fun w s => WP.chk ⟨by omega, by omega⟩ (WP.chk ⟨by omega, by omega⟩ (WP.done ⟨?_, s⟩)))) (fun h2 => ?_)
    · rw [← hl, if_pos h2]
    · rw [if_neg h2] at hl
      rw [wrap_i64 (by omega) (by omega)]
      exact WP.next ⟨i + 1, ⟨by omega, by omega, by rw [show 16 - (i + 1) = 15 - i by omega]; exact hl, s⟩, by omega⟩
  · rw [show 16 - i = 0 by omega] at hl
    exact WP.done ⟨by rw [← hl]; rfl, s⟩
end
end Go.Proofs.YtddmmgcfanpmmaaGreatDoor.Lx
