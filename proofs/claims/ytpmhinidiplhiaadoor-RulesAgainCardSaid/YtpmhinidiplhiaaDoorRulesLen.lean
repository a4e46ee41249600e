
import Derived.Test.YtpmhinidiplhiaaDoorRulesClause
set_option linter.unusedVariables false
set_option linter.unusedSimpArgs false
namespace Go.Proofs.YtpmhinidiplhiaaDoor.Lx
open Go Go.Proofs Go.RowKit
theorem Zhu {e lo hi n : Int} {ws r : List Wd} (h : numP e lo hi ws = .ok (n, r)) : r.length < ws.length ∧ lo ≤ n ∧ n ≤ hi := by
 cases ws with
 | nil => cases h
 | cons x xs =>
  rw [show numP e lo hi (x :: xs) = if x.1 = comma then .error (160, x.2) else match numR x.1 lo hi with
   | none => .error (162, x.2)
   | some n => .ok (n, xs) from rfl] at h
  split at h
  ·cases h
  ·split at h
   ·cases h
   ·rename_i k hk
    cases h
    unfold numR at hk
    split at hk
    ·cases hk
    ·split at hk
     ·rename_i hh
      cases hk
      exact ⟨by simp, hh⟩
     ·cases hk
theorem Zp2 {e n : Int} {ws r : List Wd} (h : Zh0 e ws = .ok (n, r)) : r.length < ws.length := by
 cases ws with
 | nil => cases h
 | cons x xs =>
  rw [show Zh0 e (x :: xs) = if x.1 = comma then .error (160, x.2) else match (if x.1.head? = some 112 then numR x.1.tail 0 7 else none) with
   | none => .error (162, x.2)
   | some n => .ok (n, xs) from rfl] at h
  split at h
  ·cases h
  ·split at h
   ·cases h
   ·cases h
    simp
theorem Zmr {e kind : Int} : ∀ (k : Nat) {acc : List Zaj} {ws r : List Wd} {l : List Zaj}, ws.length ≤ k → Zf6 e kind acc ws = .ok (l, r) → r.length < ws.length
 | 0, acc, ws, r, l, hk, h => by
  have : ws = [] := List.length_eq_zero_iff.1 (by omega)
  subst this
  cases h
 | k + 1, acc, ws, r, l, hk, h => by
  rw [Zft] at h
  split at h
  ·cases h
  ·rename_i p r1 h1
   have := (Zn5 h1).1
   split at h
   ·cases h
    exact this
   ·rename_i r2 h2
    have := Zc5 h2
    have := Zmr k (by omega) h
    omega
theorem Zkx {e : Int} : ∀ (k : Nat) {acc : List ZaM} {ws r : List Wd} {l : List ZaM}, ws.length ≤ k → Zez e acc ws = .ok (l, r) → r.length < ws.length
 | 0, acc, ws, r, l, hk, h => by
  have : ws = [] := List.length_eq_zero_iff.1 (by omega)
  subst this
  cases h
 | k + 1, acc, ws, r, l, hk, h => by
  rw [ZeN] at h
  split at h
  ·cases h
  ·rename_i p r1 h1
   have := (Zkt h1).1
   split at h
   ·cases h
    exact this
   ·rename_i r2 h2
    have := Zc5 h2
    have := Zkx k (by omega) h
    omega
theorem Zjd {e proto : Int} {ws r : List Wd} {l : List ZaM} (h : Zc9 e proto ws = .ok (l, r)) : r.length ≤ ws.length := by
 cases ws with
 | nil =>
  unfold Zc9 at h
  cases h
  simp
 | cons x xs =>
  rw [ZdJ] at h
  split at h
  ·split at h
   ·have := Zkx _ (Nat.le_refl _) h
    simp
    omega
   ·cases h
  ·cases h
   simp
theorem Zl5 {e kind proto : Int} {ws r : List Wd} {s : Zda} (h : Zf3 e kind proto ws = .ok (s, r)) : r.length ≤ ws.length := by
 rw [ZiP] at h
 unfold ZiF at h
 split at h
 ·rename_i r1 h1
  have := Zc5 h1
  split at h
  ·cases h
  ·rename_i h2
   have := Zjd h2
   cases h
   omega
 ·split at h
  ·cases h
  ·rename_i l r1 h1
   have := Zmr _ (Nat.le_refl _) h1
   have hle : ((Zcy (tx "not") ws).getD ws).length ≤ ws.length := by
    cases ht : Zcy (tx "not") ws with
    | none => simp
    | some r =>
     have := Zc5 ht
     simp only [Option.getD_some]
     omega
   split at h
   ·cases h
   ·rename_i h2
    have := Zjd h2
    cases h
    omega
theorem ZkJ {e : Int} : ∀ (k : Nat) {s c : Int} {ws r : List Wd} {p : Int × Int}, ws.length ≤ k → ZdK e s c ws = .ok (p, r) → r.length < ws.length ∧ (B255 (s, c) → B255 p)
 | 0, s, c, ws, r, p, hk, h => by
  have : ws = [] := List.length_eq_zero_iff.1 (by omega)
  subst this
  cases h
 | k + 1, s, c, ws, r, p, hk, h => by
  rw [ZeS] at h
  split at h
  ·cases h
  ·rename_i q r1 h1
   have hl := ZjM h1
   have hb : B255 (s, c) → B255 q := fun hb => ZqA hb h1
   split at h
   ·cases h
    exact ⟨hl, hb⟩
   ·rename_i r2 h2
    have := Zc5 h2
    obtain ⟨q1, q2⟩ := ZkJ k (by omega) h
    exact ⟨by omega, fun h => q2 (hb h)⟩
theorem ZjT {e : Int} {t : List Int} {m m' : ZaO} {ws r : List Wd} (h : Zb6 e t m ws = some (.ok (m', r))) : r.length ≤ ws.length ∧ (B255 (m.Set, m.Clear) → B255 (m'.Set, m'.Clear)) := by
 unfold Zb6 at h
 split at h
 ·split at h
  ·cases h
  ·rename_i h1
   cases h
   exact ⟨Nat.le_of_lt (Zp2 h1), fun h => h⟩
 ·split at h
  ·split at h
   ·cases h
   ·rename_i h1
    cases h
    exact ⟨Nat.le_of_lt (Zhu h1).1, fun h => h⟩
  ·split at h
   ·split at h
    ·cases h
    ·rename_i h1
     cases h
     exact ⟨Zl5 h1, fun h => h⟩
   ·split at h
    ·split at h
     ·cases h
     ·rename_i h1
      cases h
      exact ⟨Zl5 h1, fun h => h⟩
    ·split at h
     ·split at h
      ·cases h
      ·rename_i h1
       obtain ⟨q1, q2⟩ := ZkJ _ (Nat.le_refl _) h1
       cases h
       exact ⟨Nat.le_of_lt q1, q2⟩
     ·split at h
      ·split at h
       ·cases h
       ·rename_i h1
        cases h
        exact ⟨Nat.le_of_lt (Zhu h1).1, fun h => h⟩
      ·split at h
       ·cases h
        exact ⟨Nat.le_refl _, fun h => h⟩
       ·cases h
end Go.Proofs.YtpmhinidiplhiaaDoor.Lx
