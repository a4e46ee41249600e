
import Derived.Test.YtpmhinidiplhiaaGreatDoorAddrPrint3
set_option linter.unusedVariables false
set_option linter.unusedSimpArgs false
namespace Go.Proofs.YtpmhinidiplhiaaGreatDoor.Lx
open Go Go.Proofs Go.RowKit
def bitB (c : Int) (t : Nat) : Int := c / 2 ^ (7 - t) % 2
def bitM (a : List Int) (i : Nat) : Int := bitB (a.getD (i / 8) 0) (i % 8)
def accB (f : Nat → Int) : Nat → Int
 | 0 => 0
 | t + 1 => 2 * accB f t + f t
theorem Zle {f g : Nat → Int} : ∀ n, (∀ t, t < n → f t = g t) → accB f n = accB g n
 | 0, _ => rfl
 | n + 1, h => by
  unfold accB
  rw [Zle n (fun t ht => h t (by omega)), h n (by omega)]
theorem Ztd : ∀ (c : _root_.Fin 256) (k : _root_.Fin 9), (∀ t : _root_.Fin 8, bitB ((c.val : Int) / 2 ^ (8 - k.val) * 2 ^ (8 - k.val)) t.val = if t.val < k.val then bitB (c.val : Int) t.val else 0) := by decide +kernel
theorem Ztg : ∀ (c : _root_.Fin 256), accB (bitB (c.val : Int)) 8 = (c.val : Int) := by decide +kernel
theorem Zte (c : Int) (t : Nat) : bitB c t = 0 ∨ bitB c t = 1 := by unfold bitB; omega
theorem ZmY {k : Int} {t : Nat} (h : t < 8) : t < Zfc k ↔ (t : Int) < k := by
 unfold Zfc
 omega
theorem ZqQ {c : Int} (h : 0 ≤ c ∧ c ≤ 255) (k : Int) {t : Nat} (ht : t < 8) : bitB (ZmC c k) t = if (t : Int) < k then bitB c t else 0 := by
 have := Ztd ⟨c.toNat, by omega⟩ ⟨Zfc k, by unfold Zfc; omega⟩ ⟨t, ht⟩
 simp only [show ((c.toNat : Nat) : Int) = c by omega] at this
 unfold ZmC
 rw [this]
 by_cases e : (t : Int) < k
 ·rw [if_pos e, if_pos ((ZmY ht).2 e)]
 ·rw [if_neg e, if_neg (fun h => e ((ZmY ht).1 h))]
theorem ZoM {c : Int} (h : 0 ≤ c ∧ c ≤ 255) : accB (bitB c) 8 = c := by
 have := Ztg ⟨c.toNat, by omega⟩
 simpa only [show ((c.toNat : Nat) : Int) = c by omega] using this
theorem ZrR {c d : Int} (hc : 0 ≤ c ∧ c ≤ 255) (hd : 0 ≤ d ∧ d ≤ 255) (h : ∀ t, t < 8 → bitB c t = bitB d t) : c = d := by
 rw [← ZoM hc, ← ZoM hd]
 exact Zle 8 h
theorem Zhp {a : List Int} (h : Byt a) (i : Nat) : 0 ≤ a.getD i 0 ∧ a.getD i 0 ≤ 255 := by
 rw [List.getD]
 cases hx : a[i]? with
 | none => simp
 | some y => exact h y (List.mem_of_getElem? hx)
theorem Zo6 {a : List Int} {n : Int} {i : Nat} (h : i < 16) : (ZmE a n).getD i 0 = ZmC (a.getD i 0) (n - 8 * (i : Int)) := by
 unfold ZmE
 rw [List.getD, List.getElem?_map, List.getElem?_range h]
 rfl
theorem ZoI {a : List Int} (hb : Byt a) {n : Int} {i : Nat} (h : i < 128) : bitM (ZmE a n) i = if (i : Int) < n then bitM a i else 0 := by
 unfold bitM
 rw [Zo6 (by omega), ZqQ (Zhp hb _) _ (by omega)]
 by_cases e : (i : Int) < n
 ·rw [if_pos e, if_pos (by omega)]
 ·rw [if_neg e, if_neg (by omega)]
theorem Zra {a b : Vec Int 16} (ha : Byt a.l) (hb : Byt b.l) (h : ∀ i, i < 128 → bitM a.l i = bitM b.l i) : a = b := by
 refine Vec.eq (List.ext_getElem? fun j => ?_)
 have la := a.h
 have lb := b.h
 by_cases hj : j < 16
 ·have e : a.l.getD j 0 = b.l.getD j 0 := ZrR (Zhp ha j) (Zhp hb j) (fun t ht => by
   have := h (8 * j + t) (by omega)
   unfold bitM at this
   rwa [show (8 * j + t) / 8 = j by omega, show (8 * j + t) % 8 = t by omega] at this)
  rw [List.getElem?_eq_getElem (by omega), List.getElem?_eq_getElem (by omega)]
  unfold List.getD at e
  rw [List.getElem?_eq_getElem (by omega), List.getElem?_eq_getElem (by omega)] at e
  exact congrArg some e
 ·rw [List.getElem?_eq_none (by omega), List.getElem?_eq_none (by omega)]
theorem ZmD {a : Vec Int 16} (ha : Byt a.l) {n : Int} : Zp6 a n = a ↔ ∀ i : Nat, i < 128 → n ≤ (i : Int) → bitM a.l i = 0 := by
 constructor
 ·intro h i hi hn
  have := ZoI ha (n := n) hi
  rw [if_neg (by omega)] at this
  rw [← this]
  exact congrArg (fun v : Vec Int 16 => bitM v.l i) h.symm
 ·intro h
  refine Zra (Zp7 n ha) ha (fun i hi => ?_)
  refine (ZoI ha hi).trans ?_
  by_cases e : (i : Int) < n
  ·rw [if_pos e]
  ·rw [if_neg e, h i hi (by omega)]
theorem ZrT {a : List Int} (h : a.drop 4 = List.replicate 12 0) {i : Nat} (hi : 32 ≤ i) (h2 : i < 128) : bitM a i = 0 := by
 unfold bitM
 have e := congrArg (fun l => l.getD (i / 8 - 4) 0) h
 simp only [List.getD, List.getElem?_drop] at e
 rw [show 4 + (i / 8 - 4) = i / 8 by omega, List.getElem?_replicate, if_pos (show i / 8 - 4 < 12 by omega)] at e
 have e : a.getD (i / 8) 0 = 0 := e
 rw [e]
 unfold bitB
 rw [Int.zero_ediv]
 rfl
theorem Zrj {ip : Zbe} (h : Zdq ip > 0) : Zdq ip = if ip.V = 4 then 32 else 128 := by
 unfold Zdq at h ⊢
 by_cases h6 : ip.V = 6
 ·rw [if_pos h6, if_neg (by omega)]
 ·rw [if_neg h6] at h ⊢
  split at h
  ·rename_i h4
   rw [if_pos h4, if_pos h4.1]
  ·omega
theorem ZrU {ip : Zbe} (h : Zdq ip > 0) {i : Nat} (hi : Zdq ip ≤ (i : Int)) (h2 : i < 128) : bitM ip.A.l i = 0 := by
 unfold Zdq at h hi
 by_cases h6 : ip.V = 6
 ·rw [if_pos h6] at hi
  omega
 ·rw [if_neg h6] at h hi
  split at h
  ·rename_i h4
   rw [if_pos h4] at hi
   exact ZrT h4.2 (by omega) h2
  ·omega
end Go.Proofs.YtpmhinidiplhiaaGreatDoor.Lx
