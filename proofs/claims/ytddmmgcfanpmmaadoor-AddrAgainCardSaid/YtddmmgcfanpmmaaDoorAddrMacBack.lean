/- Plain law: a hardware address that is written is read back. -/
import Derived.Test.YtddmmgcfanpmmaaDoorAddrParse4
import Derived.Test.YtddmmgcfanpmmaaDoorAddrPrint3
set_option linter.unusedVariables false
set_option linter.unusedSimpArgs false
namespace Go.Proofs.YtddmmgcfanpmmaaDoor.Lx
open Go Go.Proofs Go.RowKit
theorem hexV_hexd_tab : ∀ k : _root_.Fin 16, hexV (hexd k.val) = (k.val : Int) := by decide +kernel
theorem hexV_hexd {k : Nat} (h : k < 16) : hexV (hexd k) = (k : Int) := hexV_hexd_tab ⟨k, h⟩
theorem isHex_hexd {k : Nat} (h : k < 16) : isHex (hexd k) = true := by
  unfold isHex
  rw [hexV_hexd h]
  exact decide_eq_true (by omega)
theorem macF_none {l : List Int} : ∀ (f i : Nat), i + f ≤ l.length → (∀ j, i ≤ j → j < i + f → macOk l j = true) → macF l f i = none
  | 0, _, _, _ => rfl
  | f + 1, i, h, hp => by
    unfold macF
    rw [if_neg (by omega), if_pos (hp i (by omega) (by omega))]
    exact macF_none f (i + 1) (by omega) (fun j h1 h2 => hp j (by omega) (by omega))
def macX (a b c d e f : Int) : List Int := [hexd (a.toNat / 16), hexd (a.toNat % 16), 58, hexd (b.toNat / 16), hexd (b.toNat % 16), 58, hexd (c.toNat / 16), hexd (c.toNat % 16), 58, hexd (d.toNat / 16), hexd (d.toNat % 16), 58, hexd (e.toNat / 16), hexd (e.toNat % 16), 58, hexd (f.toNat / 16), hexd (f.toNat % 16)]
theorem macX_ok {a b c d e f : Int} (h : Byt [a, b, c, d, e, f]) : ∀ j, j < 17 → macOk (macX a b c d e f) j = true := by
  have ha : a ≤ 255 := (h a (by simp)).2
  have hb : b ≤ 255 := (h b (by simp)).2
  have hc : c ≤ 255 := (h c (by simp)).2
  have hd : d ≤ 255 := (h d (by simp)).2
  have he : e ≤ 255 := (h e (by simp)).2
  have hf : f ≤ 255 := (h f (by simp)).2
  intro j hj
  exact match j, hj with
  | 0, _ => isHex_hexd (k := a.toNat / 16) (by omega)
  | 1, _ => isHex_hexd (k := a.toNat % 16) (by omega)
  | 2, _ => rfl
  | 3, _ => isHex_hexd (k := b.toNat / 16) (by omega)
  | 4, _ => isHex_hexd (k := b.toNat % 16) (by omega)
  | 5, _ => rfl
  | 6, _ => isHex_hexd (k := c.toNat / 16) (by omega)
  | 7, _ => isHex_hexd (k := c.toNat % 16) (by omega)
  | 8, _ => rfl
  | 9, _ => isHex_hexd (k := d.toNat / 16) (by omega)
  | 10, _ => isHex_hexd (k := d.toNat % 16) (by omega)
  | 11, _ => rfl
  | 12, _ => isHex_hexd (k := e.toNat / 16) (by omega)
  | 13, _ => isHex_hexd (k := e.toNat % 16) (by omega)
  | 14, _ => rfl
  | 15, _ => isHex_hexd (k := f.toNat / 16) (by omega)
  | 16, _ => isHex_hexd (k := f.toNat % 16) (by omega)
  | j + 17, hj => absurd hj (by omega)
theorem nibs {a : Int} (h0 : 0 ≤ a) (h1 : a ≤ 255) : 16 * hexV (hexd (a.toNat / 16)) + hexV (hexd (a.toNat % 16)) = a := by
  rw [hexV_hexd (by omega), hexV_hexd (by omega)]
  omega
theorem mac_back {m : Vec Int 6} (hb : Byt m.l) : macP (macL m.l) = (m, 0, 0) := by
  obtain ⟨l, hl⟩ := m
  match l, hl with
  | [a, b, c, d, e, f], hl =>
    have hb : Byt [a, b, c, d, e, f] := hb
    have e1 : macL [a, b, c, d, e, f] = macX a b c d e f := rfl
    show macP (macL [a, b, c, d, e, f]) = _
    rw [e1]
    unfold macP
    rw [if_neg (by simp [macX]), macF_none 17 0 (by simp [macX]) (fun j _ hj => macX_ok hb j (by omega))]
    have e2 : macV (macX a b c d e f) 17 = ⟨[a, b, c, d, e, f], hl⟩ := by
      refine Vec.eq ?_
      show [16 * hexV (hexd (a.toNat / 16)) + hexV (hexd (a.toNat % 16)), 16 * hexV (hexd (b.toNat / 16)) + hexV (hexd (b.toNat % 16)), 16 * hexV (hexd (c.toNat / 16)) + hexV (hexd (c.toNat % 16)), 16 * hexV (hexd (d.toNat / 16)) + hexV (hexd (d.toNat % 16)), 16 * hexV (hexd (e.toNat / 16)) + hexV (hexd (e.toNat % 16)), 16 * hexV (hexd (f.toNat / 16)) + hexV (hexd (f.toNat % 16))] = [a, b, c, d, e, f]
      rw [nibs (hb a (by simp)).1 (hb a (by simp)).2, nibs (hb b (by simp)).1 (hb b (by simp)).2, nibs (hb c (by simp)).1 (hb c (by simp)).2, nibs (hb d (by simp)).1 (hb d (by simp)).2, nibs (hb e (by simp)).1 (hb e (by simp)).2, nibs (hb f (by simp)).1 (hb f (by simp)).2]
    show (macV (macX a b c d e f) 17, 0, 0) = _
    rw [e2]
end Go.Proofs.YtddmmgcfanpmmaaDoor.Lx
