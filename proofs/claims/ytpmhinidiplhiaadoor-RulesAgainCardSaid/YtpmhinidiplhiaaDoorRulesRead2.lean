
import Derived.Test.YtpmhinidiplhiaaDoorRulesRead
set_option linter.unusedVariables false
set_option linter.unusedSimpArgs false
namespace Go.Proofs.YtpmhinidiplhiaaDoor.Lx
open Go Go.Proofs Go.RowKit
def BytM (a b : List Zaj) : Prop := Byts a ∧ Byts b
structure Inv (m : ZaO) : Prop where
 f : Zeh m
 c1 : m.Class ≠ 0 → m.Act = 1
 c2 : m.Proto ≠ 0 → m.Kind ≠ 1
 c3 : m.Set ≠ 0 ∨ m.Clear ≠ 0 → m.Proto = 6
 c4 : m.Type_ ≠ 0 → Zeo m.Proto = true
 s1 : ZcG m.From m.Kind m.Proto = 0
 s2 : ZcG m.To m.Kind m.Proto = 0
 b1 : Byts m.From.nets
 b2 : Byts m.To.nets
theorem ZrM {m : ZaO} (f : Zeh m) : Zka m = true := by
 unfold Zka inR
 rw [decide_eq_true f.act, decide_eq_true f.cls, decide_eq_true f.kind, decide_eq_true f.proto, decide_eq_true f.in_, decide_eq_true f.vid, decide_eq_true f.set_, decide_eq_true f.clr, decide_eq_true f.typ, f.apart]
 rfl
theorem Inv.ck {m : ZaO} (i : Inv m) : ckM m = 0 := by
 unfold ckM
 have hc : Ze8 m = false := by
  refine decide_eq_false ?_
  rintro (⟨a, b⟩ | ⟨a, b⟩ | ⟨a, b⟩ | ⟨a, b⟩)
  ·exact b (i.c1 a)
  ·exact i.c2 a b
  ·exact b (i.c3 a)
  ·rw [i.c4 a] at b
   cases b
 rw [ZrM i.f, hc, i.s1, i.s2]
 rfl
theorem ZpI : ∀ a : _root_.Fin 256, ∀ k j : _root_.Fin 8, hasB (a.val : Int) k.val = false → hasB ((a.val : Int) + 2 ^ k.val) j.val = (hasB (a.val : Int) j.val || decide (j.val = k.val)) := by decide +kernel
theorem Zoh {s : Int} (hs : 0 ≤ s ∧ s ≤ 255) {k j : Nat} (hk : k < 8) (hj : j < 8) (h : hasB s k = false) : hasB (s + 2 ^ k) j = (hasB s j || decide (j = k)) := by
 obtain ⟨n, rfl⟩ : ∃ n : Nat, s = (n : Int) := ⟨s.toNat, by omega⟩
 exact ZpI ⟨n, by omega⟩ ⟨k, hk⟩ ⟨j, hj⟩ h
theorem Zjb {a b : Int} : Zga a b = false ↔ ∀ j, j < 8 → ¬ (hasB a j = true ∧ hasB b j = true) := by
 unfold Zga
 rw [List.any_eq_false]
 refine ⟨fun h j hj hh => ?_, fun h j hj => ?_⟩
 ·have := h j (List.mem_range.2 hj)
  rw [hh.1, hh.2] at this
  exact this rfl
 ·have := h j (List.mem_range.1 hj)
  rw [Bool.and_eq_true]
  exact this
def FlI (p : Int × Int) : Prop := B255 p ∧ Zga p.1 p.2 = false
section
variable {e : Int}
theorem Zpc {s c : Int} {ws : List Wd} (he : 0 ≤ e) (hi : FlI (s, c)) (h : PosW e ws) : ZgN e (Zlt e s c ws) FlI := by
 cases ws with
 | nil => exact ⟨he, Int.le_refl _⟩
 | cons w ws =>
  have hw := h w (by simp)
  rw [ZeH]
  split
  ·exact hw
  ·split
   ·exact hw
   ·rename_i k hk
    have hk8 : k < 8 := by
     unfold ZfS at hk
     split at hk
     ·exact ZfQ hk
     ·exact ZfQ hk
    split
    ·exact hw
    ·rename_i hn
     obtain ⟨⟨hs, hc⟩, hsh⟩ := hi
     rw [Zjb] at hsh
     have hn1 : hasB s k = false := by
      cases hh : hasB s k with
      | false => rfl
      | true => exact absurd (by simp [hh]) hn
     have hn2 : hasB c k = false := by
      cases hh : hasB c k with
      | false => rfl
      | true => exact absurd (by simp [hh]) hn
     have a1 := Zik hs hk8 hn1
     have a2 := Zik hc hk8 hn2
     refine ⟨?_, h.tail⟩
     split
     ·refine ⟨⟨hs, a2.2⟩, ?_⟩
      rw [Zjb]
      rintro j hj ⟨x1, x2⟩
      simp only at x1 x2
      rw [Zoh hc hk8 hj hn2, Bool.or_eq_true, decide_eq_true_iff] at x2
      rcases x2 with x2 | x2
      ·exact hsh j hj ⟨x1, x2⟩
      ·rw [x2, hn1] at x1
       cases x1
     ·refine ⟨⟨a1.2, hc⟩, ?_⟩
      rw [Zjb]
      rintro j hj ⟨x1, x2⟩
      simp only at x1 x2
      rw [Zoh hs hk8 hj hn1, Bool.or_eq_true, decide_eq_true_iff] at x1
      rcases x1 with x1 | x1
      ·exact hsh j hj ⟨x1, x2⟩
      ·rw [x1, hn2] at x2
       cases x2
theorem ZjK (he : 0 ≤ e) : ∀ (n : Nat) {p : Int × Int} {ws : List Wd}, ws.length ≤ n → FlI p → PosW e ws → ZgN e (ZdK e p.1 p.2 ws) FlI
 | 0, p, ws, hn, _, h => by
  have : ws = [] := List.length_eq_zero_iff.1 (by omega)
  subst this
  exact ⟨he, Int.le_refl _⟩
 | n + 1, p, ws, hn, hi, h => by
  have h1 := Zpc (s := p.1) (c := p.2) he hi h
  rw [ZeS]
  cases hX : Zlt e p.1 p.2 ws with
  | error f =>
   rw [hX] at h1
   exact h1
  | ok a =>
   obtain ⟨p', r⟩ := a
   rw [hX] at h1
   have := ZjM hX
   simp only
   cases ht : Zcy comma r with
   | none => exact h1
   | some r2 =>
    have := Zc5 ht
    exact ZjK he n (by omega) h1.1 (Zfn ht h1.2)
theorem ZoW {ws : List Wd} (he : 0 ≤ e) (h : PosW e ws) : ZgN e (Zh0 e ws) (fun n => 0 ≤ n ∧ n ≤ 7) := by
 cases ws with
 | nil => exact ⟨he, Int.le_refl _⟩
 | cons w ws =>
  have hw := h w (by simp)
  rw [show Zh0 e (w :: ws) = if w.1 = comma then .error (160, w.2) else match (if w.1.head? = some 112 then numR w.1.tail 0 7 else none) with
   | none => .error (162, w.2)
   | some n => .ok (n, ws) from rfl]
  split
  ·exact hw
  ·split
   ·exact hw
   ·rename_i n hn
    refine ⟨?_, h.tail⟩
    split at hn
    ·unfold numR at hn
     split at hn
     ·cases hn
     ·split at hn
      ·rename_i hh
       cases hn
       exact hh
      ·cases hn
    ·cases hn
def Zui (e : Int) (X : Option (PE (ZaO × List Wd))) : Prop := match X with
 | none => True
 | some X => ZgN e X Inv
theorem ZmQ {t : List Int} {m : ZaO} {ws : List Wd} (he : 0 ≤ e) (i : Inv m) (h : PosW e ws) (h1 : t = tx "flags" → m.Proto = 6) (h2 : t = tx "type" → Zeo m.Proto = true) : Zui e (Zb6 e t m ws) := by
 obtain ⟨f, c1, c2, c3, c4, s1, s2, b1, b2⟩ := i
 obtain ⟨f1, f2, f3, f4, f5, f6, f7, f8, f9, f10⟩ := f
 unfold Zb6
 split
 ·have := ZoW he h
  cases hX : Zh0 e ws with
  | error q => rw [hX] at this; exact this
  | ok a =>
   rw [hX] at this
   refine ⟨⟨⟨f1, f2, f3, f4, ?_, f6, f7, f8, f9, f10⟩, c1, c2, c3, c4, s1, s2, b1, b2⟩, this.2⟩
   have := this.1
   simp only
   omega
 ·split
  ·have := Zhv (lo := 1) (hi := 4094) he h
   cases hX : numP e 1 4094 ws with
   | error q => rw [hX] at this; exact this
   | ok a =>
    rw [hX] at this
    refine ⟨⟨⟨f1, f2, f3, f4, f5, ?_, f7, f8, f9, f10⟩, c1, c2, c3, c4, s1, s2, b1, b2⟩, this.2⟩
    have := this.1
    simp only
    omega
  ·split
   ·have := Zkp (kind := m.Kind) (proto := m.Proto) he h
    cases hX : Zf3 e m.Kind m.Proto ws with
    | error q => rw [hX] at this; exact this
    | ok a =>
     rw [hX] at this
     exact ⟨⟨⟨f1, f2, f3, f4, f5, f6, f7, f8, f9, f10⟩, c1, c2, c3, c4, this.1.1, s2, this.1.2, b2⟩, this.2⟩
   ·split
    ·have := Zkp (kind := m.Kind) (proto := m.Proto) he h
     cases hX : Zf3 e m.Kind m.Proto ws with
     | error q => rw [hX] at this; exact this
     | ok a =>
      rw [hX] at this
      exact ⟨⟨⟨f1, f2, f3, f4, f5, f6, f7, f8, f9, f10⟩, c1, c2, c3, c4, s1, this.1.1, b1, this.1.2⟩, this.2⟩
    ·split
     ·rename_i ht
      have := ZjK he ws.length (p := (m.Set, m.Clear)) (Nat.le_refl _) ⟨⟨f7, f8⟩, f10⟩ h
      simp only at this
      cases hX : ZdK e m.Set m.Clear ws with
      | error q => rw [hX] at this; exact this
      | ok a =>
       rw [hX] at this
       exact ⟨⟨⟨f1, f2, f3, f4, f5, f6, this.1.1.1, this.1.1.2, f9, this.1.2⟩, c1, c2, fun _ => h1 ht, c4, s1, s2, b1, b2⟩, this.2⟩
     ·split
      ·rename_i ht
       have := Zhv (lo := 0) (hi := 255) he h
       cases hX : numP e 0 255 ws with
       | error q => rw [hX] at this; exact this
       | ok a =>
        rw [hX] at this
        refine ⟨⟨⟨f1, f2, f3, f4, f5, f6, f7, f8, ?_, f10⟩, c1, c2, c3, fun _ => h2 ht, s1, s2, b1, b2⟩, this.2⟩
        have := this.1
        simp only
        omega
      ·split
       ·exact ⟨⟨⟨f1, f2, f3, f4, f5, f6, f7, f8, f9, f10⟩, c1, c2, c3, c4, s1, s2, b1, b2⟩, h⟩
       ·trivial
def Zuj (e : Int) (X : PE ZaO) : Prop := match X with
 | .error f => 0 ≤ f.2 ∧ f.2 ≤ e
 | .ok m => Inv m
theorem ZkF (he : 0 ≤ e) : ∀ (n : Nat) {seen : List (List Int)} {m : ZaO} {ws : List Wd}, Inv m → PosW e ws → Zuj e (Zg4 e n seen m ws)
 | 0, _, _, _, i, _ => i
 | n + 1, seen, m, [], i, _ => i
 | n + 1, seen, m, w :: ws, i, h => by
  rw [show Zg4 e (n + 1) seen m (w :: ws) = if mayM seen m w.1 = false then .error (165, w.2) else match Zb6 e w.1 m ws with
   | none => .error (160, w.2)
   | some (.error q) => .error q
   | some (.ok (m', r)) => Zg4 e n (w.1 :: seen) m' r from rfl]
  have hw := h w (by simp)
  by_cases hm : mayM seen m w.1 = false
  ·rw [if_pos hm]
   exact hw
  ·rw [if_neg hm]
   have hm : mayM seen m w.1 = true := by
    cases hc : mayM seen m w.1 with
    | true => rfl
    | false => exact absurd hc hm
   have hm := of_decide_eq_true hm
   have hc := ZmQ he i h.tail hm.2.1 hm.2.2
   cases hX : Zb6 e w.1 m ws with
   | none => exact hw
   | some X =>
    rw [hX] at hc
    cases X with
    | error q => exact hc
    | ok a => exact ZkF he n hc.1 hc.2
theorem z0 {n : Int} (h : 0 ≤ n) : (0 : Int) ≤ 0 ∧ (0 : Int) ≤ n := ⟨Int.le_refl _, h⟩
theorem Zjl {kind : Int} {w : Wd} {ws : List Wd} (he : 0 ≤ e) (hw : 0 ≤ w.2 ∧ w.2 ≤ e) (h : PosW e ws) : ZgN e (Zd8 e kind w ws) (fun n => (0 ≤ n ∧ n ≤ 255) ∧ kind ≠ 1) := by
 unfold Zd8
 split
 ·exact hw
 ·rename_i hk
  split
  ·rename_i n hn
   refine ⟨⟨?_, hk⟩, h⟩
   unfold Zhq at hn
   split at hn
   ·cases hn
    decide
   ·split at hn
    ·cases hn
     decide
    ·split at hn
     ·cases hn
      decide
     ·split at hn
      ·cases hn
       decide
      ·cases hn
  ·have := Zhv (lo := 1) (hi := 255) he h
   cases hX : numP e 1 255 ws with
   | error q => rw [hX] at this; exact this
   | ok a =>
    rw [hX] at this
    have h1 := this.1
    exact ⟨⟨by omega, hk⟩, this.2⟩
def WhI (k : Int × Int) : Prop := (0 ≤ k.1 ∧ k.1 ≤ 3) ∧ (0 ≤ k.2 ∧ k.2 ≤ 255) ∧ (k.2 ≠ 0 → k.1 ≠ 1)
theorem ZoF {ws : List Wd} (he : 0 ≤ e) (h : PosW e ws) : ZgN e (ZhS e ws) WhI := by
 cases ws with
 | nil => exact ⟨he, Int.le_refl _⟩
 | cons w ws =>
  have hw := h w (by simp)
  rw [ZeF]
  split
  ·exact ⟨⟨by decide, by decide, fun h => absurd rfl h⟩, h.tail⟩
  ·split
   ·split
    ·have := Zjl (kind := 0) he hw h.tail
     cases hX : Zd8 e 0 w ws with
     | error q => rw [hX] at this; exact this
     | ok a =>
      rw [hX] at this
      exact ⟨⟨z0 (by decide), this.1.1, fun _ => (show (0 : Int) ≠ 1 by decide)⟩, this.2⟩
    ·exact hw
   ·rename_i k hk
    have hk3 := ZfQ hk
    have hk3 : k < 3 := hk3
    unfold Zm3
    cases ws with
    | nil => exact ⟨⟨by simp only; omega, z0 (by decide), fun h => absurd rfl h⟩, h.tail⟩
    | cons v r =>
     simp only
     split
     ·have := Zjl (kind := (k : Int) + 1) he (h v (by simp)) h.tail.tail
      cases hX : Zd8 e ((k : Int) + 1) v r with
      | error q => rw [hX] at this; exact this
      | ok a =>
       rw [hX] at this
       exact ⟨⟨by simp only; omega, this.1.1, fun _ => this.1.2⟩, this.2⟩
     ·exact ⟨⟨by simp only; omega, z0 (by decide), fun h => absurd rfl h⟩, h.tail⟩
theorem Zot {kind proto : Int} : ZcG zSd kind proto = 0 := ZmR (fun p hp => by cases hp) (by decide) (fun _ => rfl) (fun p hp => by cases hp) (by decide) (fun h => absurd rfl h)
theorem Zo9 {ws : List Wd} (he : 0 ≤ e) (h : PosW e ws) : ZgN e (Zjw e ws) Inv := by
 cases ws with
 | nil => exact ⟨he, Int.le_refl _⟩
 | cons w ws =>
  have hw := h w (by simp)
  rw [show Zjw e (w :: ws) = match idxT actN w.1 with
   | none => .error (160, w.2)
   | some a => match ZeB e a ws with
    | .error f => .error f
    | .ok (c, r) => match ZhS e r with
     | .error f => .error f
     | .ok (k, r) => .ok ({ zRl with Act := (a : Int) + 1, Class := c, Kind := k.1, Proto := k.2 }, r) from rfl]
  cases ha : idxT actN w.1 with
  | none => exact hw
  | some a =>
   have ha3 := ZfQ ha
   have ha3 : a < 3 := ha3
   have hc : ZgN e (ZeB e a ws) (fun c => (0 ≤ c ∧ c ≤ 7) ∧ (c ≠ 0 → a = 0)) := by
    unfold ZeB
    split
    ·rename_i a0
     cases ht : Zcy (tx "class") ws with
     | none => exact ⟨⟨by decide, fun h => absurd rfl h⟩, h.tail⟩
     | some r =>
      have := Zhv (lo := 0) (hi := 7) he (Zfn ht h.tail)
      simp only
      cases hX : numP e 0 7 r with
      | error q => rw [hX] at this; exact this
      | ok b => rw [hX] at this; exact ⟨⟨this.1, fun _ => a0⟩, this.2⟩
    ·exact ⟨⟨by decide, fun h => absurd rfl h⟩, h.tail⟩
   simp only
   cases hX : ZeB e a ws with
   | error q => rw [hX] at hc; exact hc
   | ok b =>
    rw [hX] at hc
    have hwh := ZoF he hc.2
    simp only
    cases hY : ZhS e b.2 with
    | error q => rw [hY] at hwh; exact hwh
    | ok k =>
     rw [hY] at hwh
     obtain ⟨⟨k1, k2, k3⟩, kr⟩ := hwh
     refine ⟨⟨⟨by simp only; omega, hc.1.1, k1, k2, z0 (by decide), z0 (by decide), z0 (by decide), z0 (by decide), z0 (by decide), (show Zga 0 0 = false by decide)⟩, fun h => ?_, k3, fun h => ?_, fun h => absurd rfl h, Zot, Zot, fun p hp => (by cases hp), fun p hp => (by cases hp)⟩, kr⟩
     ·have := hc.1.2 h
      simp only
      omega
     ·rcases h with h | h <;> exact absurd rfl h
end
theorem ZoQ (t : List Int) : (∀ m, Zj7 t = .ok m → ckM m = 0 ∧ BytM m.From.nets m.To.nets) ∧ (∀ f, Zj7 t = .error f → 0 ≤ f.2 ∧ f.2 ≤ t.length) := by
 unfold Zj7
 split
 ·rename_i h
  refine ⟨fun m h => (by cases h), fun f h => ?_⟩
  cases h
  simp only
  omega
 ·obtain ⟨l1, l2⟩ := Znt t [] 0 (by simp)
  cases hX : lexM [] 0 t with
  | error q =>
   have := l1 q hX
   refine ⟨fun m h => (by cases h), fun f h => ?_⟩
   cases h
   simp only
   omega
  | ok ws =>
   have hp := l2 ws hX
   rw [Int.zero_add] at hp
   have hh := Zo9 (Int.natCast_nonneg _) hp
   simp only
   cases hY : Zjw (t.length : Int) ws with
   | error q =>
    rw [hY] at hh
    refine ⟨fun m h => (by cases h), fun f h => ?_⟩
    cases h
    exact hh
   | ok a =>
    rw [hY] at hh
    have hl := ZkF (Int.natCast_nonneg _) (ws.length + 1) (seen := []) hh.1 hh.2
    simp only
    refine ⟨fun m h => ?_, fun f h => ?_⟩
    ·rw [h] at hl
     have hl : Inv m := hl
     exact ⟨hl.ck, hl.b1, hl.b2⟩
    ·rw [h] at hl
     exact hl
end Go.Proofs.YtpmhinidiplhiaaDoor.Lx
