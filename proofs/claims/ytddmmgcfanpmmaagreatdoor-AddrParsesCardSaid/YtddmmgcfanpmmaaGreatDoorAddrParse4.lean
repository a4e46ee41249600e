/- A hardware address is read (package addr: ParseMac). -/
import Derived.Test.YtddmmgcfanpmmaaGreatDoorAddrParse3
set_option linter.unusedVariables false
set_option linter.unusedSimpArgs false
namespace Go.Proofs.YtddmmgcfanpmmaaGreatDoor.Lx
open Go Go.Proofs Go.RowKit
def macOk (l : List Int) (i : Nat) : Bool := if i % 3 = 2 then decide (l.getD i 0 = 58) else isHex (l.getD i 0)
def macF (l : List Int) : Nat → Nat → Option Flt
  | 0, _ => none
  | f + 1, i => if i = l.length then some (42, i) else if macOk l i = true then macF l f (i + 1) else some (41, i)
def macB (l : List Int) (i j : Nat) : Int := if 3 * j + 1 < i then 16 * hexV (l.getD (3 * j) 0) + hexV (l.getD (3 * j + 1) 0) else if 3 * j < i then hexV (l.getD (3 * j) 0) else 0
def macV (l : List Int) (i : Nat) : Vec Int 6 := ⟨(List.range 6).map (macB l i), by simp⟩
def macP (l : List Int) : Vec Int 6 × Int × Int :=
  if l.length > 17 then (⟨[0, 0, 0, 0, 0, 0], rfl⟩, 2, 17) else match macF l 17 0 with
    | some f => (⟨[0, 0, 0, 0, 0, 0], rfl⟩, f.1, (f.2 : Int))
    | none => (macV l 17, 0, 0)
theorem nib_tab : ∀ a h : _root_.Fin 16, bor .u8 (IntKind.wrap .u8 ((a.val : Int) * 2 ^ 4)) (IntKind.wrap .u8 (h.val : Int)) = 16 * (a.val : Int) + (h.val : Int) := by decide +kernel
theorem nib {a h : Int} (h0 : 0 ≤ a) (h1 : a ≤ 15) (h2 : 0 ≤ h) (h3 : h ≤ 15) : bor .u8 (IntKind.wrap .u8 (a * 2 ^ 4)) (IntKind.wrap .u8 h) = 16 * a + h := by
  have := nib_tab ⟨a.toNat, by omega⟩ ⟨h.toNat, by omega⟩
  simp only at this
  rwa [show ((a.toNat : Nat) : Int) = a by omega, show ((h.toNat : Nat) : Int) = h by omega] at this
theorem macV_set {l : List Int} {i : Nat} (hi : i < 17) (h3 : i % 3 ≠ 2) (hex : 0 ≤ hexV (l.getD i 0)) (hp : ∀ j, j < i → macOk l j = true) :
    Vec.s (macV l i) ((i / 3 : Nat) : Int) (bor .u8 (IntKind.wrap .u8 (Vec.g (macV l i) ((i / 3 : Nat) : Int) 0 * 2 ^ 4)) (IntKind.wrap .u8 (hexV (l.getD i 0)))) = macV l (i + 1) := by
  have hv := hexV_lt (l.getD i 0)
  have hg : Vec.g (macV l i) ((i / 3 : Nat) : Int) 0 = macB l i (i / 3) := by
    unfold Vec.g macV
    rw [Int.toNat_natCast, List.getD, List.getElem?_map, List.getElem?_range (by omega)]
    rfl
  have hb : bor .u8 (IntKind.wrap .u8 (macB l i (i / 3) * 2 ^ 4)) (IntKind.wrap .u8 (hexV (l.getD i 0))) = macB l (i + 1) (i / 3) := by
    by_cases h0 : i % 3 = 0
    · have e1 : macB l i (i / 3) = 0 := by
        unfold macB
        rw [if_neg (by omega), if_neg (by omega)]
      have e2 : macB l (i + 1) (i / 3) = hexV (l.getD i 0) := by
        unfold macB
        rw [if_neg (by omega), if_pos (by omega), show 3 * (i / 3) = i by omega]
      rw [e1, e2, nib (by omega) (by omega) hex hv.2]
      omega
    · have e0 : 3 * (i / 3) + 1 = i := by omega
      have hq := hp (3 * (i / 3)) (by omega)
      unfold macOk at hq
      rw [if_neg (by omega)] at hq
      have hq := of_decide_eq_true hq
      have hq2 := hexV_lt (l.getD (3 * (i / 3)) 0)
      have e1 : macB l i (i / 3) = hexV (l.getD (3 * (i / 3)) 0) := by
        unfold macB
        rw [if_neg (by omega), if_pos (by omega)]
      have e2 : macB l (i + 1) (i / 3) = 16 * hexV (l.getD (3 * (i / 3)) 0) + hexV (l.getD i 0) := by
        unfold macB
        rw [if_pos (by omega), e0]
      rw [e1, e2, nib hq hq2.2 hex hv.2]
  rw [hg, hb]
  refine Vec.eq ?_
  show ((List.range 6).map (macB l i)).set (Int.toNat ((i / 3 : Nat) : Int)) _ = (List.range 6).map (macB l (i + 1))
  rw [Int.toNat_natCast]
  apply List.ext_getElem?
  intro j
  by_cases ej : j = i / 3
  · subst ej
    rw [List.getElem?_set_self (by simp; omega), List.getElem?_map, List.getElem?_range (by omega)]
    rfl
  · rw [List.getElem?_set_ne (fun h => ej h.symm), List.getElem?_map, List.getElem?_map]
    have : macB l i j = macB l (i + 1) j := by
      unfold macB
      by_cases h1 : 3 * j + 1 < i
      · rw [if_pos h1, if_pos (show 3 * j + 1 < i + 1 by omega)]
      · rw [if_neg h1, if_neg (show ¬ 3 * j + 1 < i + 1 by omega)]
        by_cases h2 : 3 * j < i
        · rw [if_pos h2, if_pos (show 3 * j < i + 1 by omega)]
        · rw [if_neg h2, if_neg (show ¬ 3 * j < i + 1 by omega)]
    by_cases hj : j < 6
    · rw [List.getElem?_range hj]
      exact congrArg some this
    · rw [List.getElem?_eq_none (by simp; omega)]
      rfl
theorem macV_skip {l : List Int} {i : Nat} (h3 : i % 3 = 2) : macV l i = macV l (i + 1) := by
  refine Vec.eq (List.map_congr_left fun j _ => ?_)
  unfold macB
  by_cases h1 : 3 * j + 1 < i
  · rw [if_pos h1, if_pos (show 3 * j + 1 < i + 1 by omega)]
  · rw [if_neg h1, if_neg (show ¬ 3 * j + 1 < i + 1 by omega)]
    by_cases h2 : 3 * j < i
    · rw [if_pos h2, if_pos (show 3 * j < i + 1 by omega)]
    · rw [if_neg h2, if_neg (show ¬ 3 * j < i + 1 by omega)]
section
variable {W w : World} {Hs : List HP}
theorem ParseMac_wp (s : Ss W Hs w) (t : ByteArray) : WP (addr_ParseMac t) w (fun r w' => r = macP (strI t) ∧ Ss W Hs w') := by
  have hl := strI_len t
  unfold addr_ParseMac macP
  refine WP.slot' s (fun _ w s => WP.ite (fun h => WP.ret ⟨?_, s⟩) (fun h => ?_))
  · rw [if_pos (by omega)]
  rw [if_neg (by omega)]
  generalize hX : macF (strI t) 17 0 = X
  refine WP.slot' s (fun _ w s => ?_)
  refine WP.loopG (γ := Nat) (fun i (p : Int × Vec Int 6 × Vec Int 6) w => p.1 = (i : Int) ∧ p.2.1 = macV (strI t) i ∧ i ≤ 17 ∧ i ≤ t.size ∧ (∀ j, j < i → macOk (strI t) j = true) ∧ macF (strI t) (17 - i) i = X ∧ Ss W Hs w) (fun i _ => 17 - i) 0 ⟨rfl, rfl, Nat.zero_le _, Nat.zero_le _, fun j hj => by omega, hX, s⟩ ?_
  clear s hX
  rintro i ⟨_, v, v2⟩ w ⟨rfl, hv, hi, hit, hp, hF, s⟩
  simp only at hv
  subst hv
  show WP (addr_ParseMac.L1 t (i : Int) (macV (strI t) i) v2) w _
  unfold addr_ParseMac.L1
  have e3 : Int.tmod (i : Int) 3 = ((i % 3 : Nat) : Int) := rfl
  have e4 : IntKind.wrap .i64 (Int.tdiv (i : Int) 3) = ((i / 3 : Nat) : Int) := by
    rw [show Int.tdiv (i : Int) 3 = ((i / 3 : Nat) : Int) from rfl, wrap_i64 (by omega) (by omega)]
  have e5 : IntKind.wrap .i64 ((i : Int) + 1) = ((i + 1 : Nat) : Int) := by
    rw [wrap_i64 (by omega) (by omega)]
    rfl
  rw [e3, e4, e5]
  refine WP.ite (fun h => ?_) (fun h => WP.done ⟨?_, s⟩)
  · have hi17 : i < 17 := by omega
    obtain ⟨k, hk⟩ : ∃ k, 17 - i = k + 1 := ⟨16 - i, by omega⟩
    rw [hk] at hF
    unfold macF at hF
    refine WP.ite (fun h => WP.done ⟨?_, s⟩) (fun h => ?_)
    · rw [if_pos (by omega)] at hF
      rw [← hF]
    rw [if_neg (by omega)] at hF
    refine WP.ite (fun h3 => WP.chk ⟨by omega, by omega⟩ ?_) (fun h3 => WP.chk ⟨by omega, by omega⟩ ?_)
    · have h3 : i % 3 = 2 := by omega
      rw [sb_get]
      have hm : macOk (strI t) i = decide ((strI t).getD i 0 = 58) := by
        unfold macOk
        rw [if_pos h3]
      refine WP.ite (fun hc => WP.done ⟨?_, s⟩) (fun hc => WP.next ⟨i + 1, ⟨rfl, macV_skip h3, by omega, by omega, ?_, ?_, s⟩, by omega⟩)
      · rw [if_neg (by rw [hm]; exact fun h' => hc (of_decide_eq_true h'))] at hF
        rw [← hF]
      · intro j hj
        by_cases ej : j = i
        · subst ej
          rw [hm]
          exact decide_eq_true (Decidable.not_not.1 hc)
        · exact hp j (by omega)
      · rw [if_pos (by rw [hm]; exact decide_eq_true (Decidable.not_not.1 hc))] at hF
        rw [← hF, show 17 - (i + 1) = k by omega]
    · have h3 : i % 3 ≠ 2 := by omega
      rw [sb_get]
      have hm : macOk (strI t) i = isHex ((strI t).getD i 0) := by
        unfold macOk
        rw [if_neg h3]
      refine WP.step (hexa_wp _) ?_
      rintro _ _ ⟨rfl, rfl⟩
      refine WP.ite (fun hc => WP.done ⟨?_, s⟩) (fun hc => WP.chk ⟨by omega, by omega⟩ (WP.chk ⟨by omega, by omega⟩ (WP.next ⟨i + 1, ⟨rfl, ?_, by omega, by omega, ?_, ?_, s⟩, by omega⟩)))
      · rw [if_neg (by rw [hm]; exact fun h' => absurd (of_decide_eq_true h') (by omega))] at hF
        rw [← hF]
      · exact macV_set hi17 h3 (by omega) hp
      · intro j hj
        by_cases ej : j = i
        · subst ej
          rw [hm]
          exact decide_eq_true (by omega)
        · exact hp j (by omega)
      · rw [if_pos (by rw [hm]; exact decide_eq_true (by omega))] at hF
        rw [← hF, show 17 - (i + 1) = k by omega]
  · have : i = 17 := by omega
    subst this
    have : X = none := hF.symm
    subst this
    rfl
end
end Go.Proofs.YtddmmgcfanpmmaaGreatDoor.Lx
