
import Derived.Test.YtpmhinidiplhiaaDoorRulesClause
set_option linter.unusedVariables false
set_option linter.unusedSimpArgs false
namespace Go.Proofs.YtpmhinidiplhiaaDoor.Lx
open Go Go.Proofs Go.RowKit
theorem ZiC {e lo hi n : Int} {ws r : List Wd} (h : numP e lo hi ws = .ok (n, r)) : r.length < ws.length ∧ lo ≤ n ∧ n ≤ hi := by
 cases ws with
 | nil => cases h
 | cons x xs =>
  rw [show numP e lo hi (x :: xs) = if x.1 = comma then .error (160, x.2) else match numR x.1 lo hi with
   | none => .error (162, x.2)
   | some n => .ok (n, xs) from rfl] at h
  split at h
  ·cases h
  ·split at h
   ·cases h
   ·rename_i k hk
    cases h
    unfold numR at hk
    split at hk
    ·cases hk
    ·split at hk
     ·rename_i hh
      cases hk
      exact ⟨by simp, hh⟩
     ·cases hk
theorem Zpz {e n : Int} {ws r : List Wd} (h : ZjP e ws = .ok (n, r)) : r.length < ws.length := by
 cases ws with
 | nil => cases h
 | cons x xs =>
  rw [show ZjP e (x :: xs) = if x.1 = comma then .error (160, x.2) else match (if x.1.head? = some 112 then numR x.1.tail 0 7 else none) with
   | none => .error (162, x.2)
   | some n => .ok (n, xs) from rfl] at h
  split at h
  ·cases h
  ·split at h
   ·cases h
   ·cases h
    simp
theorem Zl5 {e kind : Int} : ∀ (k : Nat) {acc : List Zak} {ws r : List Wd} {l : List Zak}, ws.length ≤ k → Zgz e kind acc ws = .ok (l, r) → r.length < ws.length
 | 0, acc, ws, r, l, hk, h => by
  have : ws = [] := List.length_eq_zero_iff.1 (by omega)
  subst this
  cases h
 | k + 1, acc, ws, r, l, hk, h => by
  rw [Zgo] at h
  split at h
  ·cases h
  ·rename_i p r1 h1
   have := (ZnG h1).1
   split at h
   ·cases h
    exact this
   ·rename_i r2 h2
    have := ZdL h2
    have := Zl5 k (by omega) h
    omega
theorem Zkg {e : Int} : ∀ (k : Nat) {acc : List ZaM} {ws r : List Wd} {l : List ZaM}, ws.length ≤ k → ZeR e acc ws = .ok (l, r) → r.length < ws.length
 | 0, acc, ws, r, l, hk, h => by
  have : ws = [] := List.length_eq_zero_iff.1 (by omega)
  subst this
  cases h
 | k + 1, acc, ws, r, l, hk, h => by
  rw [ZfA] at h
  split at h
  ·cases h
  ·rename_i p r1 h1
   have := (Zkb h1).1
   split at h
   ·cases h
    exact this
   ·rename_i r2 h2
    have := ZdL h2
    have := Zkg k (by omega) h
    omega
theorem ZiZ {e proto : Int} {ws r : List Wd} {l : List ZaM} (h : Zdz e proto ws = .ok (l, r)) : r.length ≤ ws.length := by
 cases ws with
 | nil =>
  unfold Zdz at h
  cases h
  simp
 | cons x xs =>
  rw [Zeh] at h
  split at h
  ·split at h
   ·have := Zkg _ (Nat.le_refl _) h
    simp
    omega
   ·cases h
  ·cases h
   simp
theorem ZlJ {e kind proto : Int} {ws r : List Wd} {s : Zc6} (h : ZgQ e kind proto ws = .ok (s, r)) : r.length ≤ ws.length := by
 rw [ZkO] at h
 unfold ZjJ at h
 split at h
 ·rename_i r1 h1
  have := ZdL h1
  split at h
  ·cases h
  ·rename_i h2
   have := ZiZ h2
   cases h
   omega
 ·split at h
  ·cases h
  ·rename_i l r1 h1
   have := Zl5 _ (Nat.le_refl _) h1
   have hle : ((Zdc (tx "not") ws).getD ws).length ≤ ws.length := by
    cases ht : Zdc (tx "not") ws with
    | none => simp
    | some r =>
     have := ZdL ht
     simp only [Option.getD_some]
     omega
   split at h
   ·cases h
   ·rename_i h2
    have := ZiZ h2
    cases h
    omega
theorem Zkq {e : Int} : ∀ (k : Nat) {s c : Int} {ws r : List Wd} {p : Int × Int}, ws.length ≤ k → Zd4 e s c ws = .ok (p, r) → r.length < ws.length ∧ (B255 (s, c) → B255 p)
 | 0, s, c, ws, r, p, hk, h => by
  have : ws = [] := List.length_eq_zero_iff.1 (by omega)
  subst this
  cases h
 | k + 1, s, c, ws, r, p, hk, h => by
  rw [ZfG] at h
  split at h
  ·cases h
  ·rename_i q r1 h1
   have hl := Zml h1
   have hb : B255 (s, c) → B255 q := fun hb => Zp7 hb h1
   split at h
   ·cases h
    exact ⟨hl, hb⟩
   ·rename_i r2 h2
    have := ZdL h2
    obtain ⟨q1, q2⟩ := Zkq k (by omega) h
    exact ⟨by omega, fun h => q2 (hb h)⟩
theorem ZjA {e : Int} {t : List Int} {m m' : ZaO} {ws r : List Wd} (h : Zcr e t m ws = some (.ok (m', r))) : r.length ≤ ws.length ∧ (B255 (m.Set, m.Clear) → B255 (m'.Set, m'.Clear)) := by
 unfold Zcr at h
 split at h
 ·split at h
  ·cases h
  ·rename_i h1
   cases h
   exact ⟨Nat.le_of_lt (Zpz h1), fun h => h⟩
 ·split at h
  ·split at h
   ·cases h
   ·rename_i h1
    cases h
    exact ⟨Nat.le_of_lt (ZiC h1).1, fun h => h⟩
  ·split at h
   ·split at h
    ·cases h
    ·rename_i h1
     cases h
     exact ⟨ZlJ h1, fun h => h⟩
   ·split at h
    ·split at h
     ·cases h
     ·rename_i h1
      cases h
      exact ⟨ZlJ h1, fun h => h⟩
    ·split at h
     ·split at h
      ·cases h
      ·rename_i h1
       obtain ⟨q1, q2⟩ := Zkq _ (Nat.le_refl _) h1
       cases h
       exact ⟨Nat.le_of_lt q1, q2⟩
     ·split at h
      ·split at h
       ·cases h
       ·rename_i h1
        cases h
        exact ⟨Nat.le_of_lt (ZiC h1).1, fun h => h⟩
      ·split at h
       ·cases h
        exact ⟨Nat.le_refl _, fun h => h⟩
       ·cases h
end Go.Proofs.YtpmhinidiplhiaaDoor.Lx
