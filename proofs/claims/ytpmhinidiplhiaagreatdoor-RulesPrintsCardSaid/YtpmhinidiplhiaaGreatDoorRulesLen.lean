
import Derived.Test.YtpmhinidiplhiaaGreatDoorRulesClause
set_option linter.unusedVariables false
set_option linter.unusedSimpArgs false
namespace Go.Proofs.YtpmhinidiplhiaaGreatDoor.Lx
open Go Go.Proofs Go.RowKit
theorem Zjk {e lo hi n : Int} {ws r : List Wd} (h : numP e lo hi ws = .ok (n, r)) : r.length < ws.length ∧ lo ≤ n ∧ n ≤ hi := by
 cases ws with
 | nil => cases h
 | cons x xs =>
  rw [show numP e lo hi (x :: xs) = if x.1 = comma then .error (160, x.2) else match numR x.1 lo hi with
   | none => .error (162, x.2)
   | some n => .ok (n, xs) from rfl] at h
  split at h
  ·cases h
  ·split at h
   ·cases h
   ·rename_i k hk
    cases h
    unfold numR at hk
    split at hk
    ·cases hk
    ·split at hk
     ·rename_i hh
      cases hk
      exact ⟨by simp, hh⟩
     ·cases hk
theorem ZpU {e n : Int} {ws r : List Wd} (h : Znz e ws = .ok (n, r)) : r.length < ws.length := by
 cases ws with
 | nil => cases h
 | cons x xs =>
  rw [show Znz e (x :: xs) = if x.1 = comma then .error (160, x.2) else match (if x.1.head? = some 112 then numR x.1.tail 0 7 else none) with
   | none => .error (162, x.2)
   | some n => .ok (n, xs) from rfl] at h
  split at h
  ·cases h
  ·split at h
   ·cases h
   ·cases h
    simp
theorem ZmB {e kind : Int} : ∀ (k : Nat) {acc : List Zap} {ws r : List Wd} {l : List Zap}, ws.length ≤ k → Zh2 e kind acc ws = .ok (l, r) → r.length < ws.length
 | 0, acc, ws, r, l, hk, h => by
  have : ws = [] := List.length_eq_zero_iff.1 (by omega)
  subst this
  cases h
 | k + 1, acc, ws, r, l, hk, h => by
  rw [Zk2] at h
  split at h
  ·cases h
  ·rename_i p r1 h1
   have := (Zom h1).1
   split at h
   ·cases h
    exact this
   ·rename_i r2 h2
    have := Zep h2
    have := ZmB k (by omega) h
    omega
theorem ZkX {e : Int} : ∀ (k : Nat) {acc : List ZaZ} {ws r : List Wd} {l : List ZaZ}, ws.length ≤ k → ZfP e acc ws = .ok (l, r) → r.length < ws.length
 | 0, acc, ws, r, l, hk, h => by
  have : ws = [] := List.length_eq_zero_iff.1 (by omega)
  subst this
  cases h
 | k + 1, acc, ws, r, l, hk, h => by
  rw [ZjQ] at h
  split at h
  ·cases h
  ·rename_i p r1 h1
   have := (ZkT h1).1
   split at h
   ·cases h
    exact this
   ·rename_i r2 h2
    have := Zep h2
    have := ZkX k (by omega) h
    omega
theorem ZjH {e proto : Int} {ws r : List Wd} {l : List ZaZ} (h : ZeF e proto ws = .ok (l, r)) : r.length ≤ ws.length := by
 cases ws with
 | nil =>
  unfold ZeF at h
  cases h
  simp
 | cons x xs =>
  rw [Zgv] at h
  split at h
  ·split at h
   ·have := ZkX _ (Nat.le_refl _) h
    simp
    omega
   ·cases h
  ·cases h
   simp
theorem Zme {e kind proto : Int} {ws r : List Wd} {s : ZcT} (h : Zmf e kind proto ws = .ok (s, r)) : r.length ≤ ws.length := by
 rw [Zn4] at h
 unfold Znb at h
 split at h
 ·rename_i r1 h1
  have := Zep h1
  split at h
  ·cases h
  ·rename_i h2
   have := ZjH h2
   cases h
   omega
 ·split at h
  ·cases h
  ·rename_i l r1 h1
   have := ZmB _ (Nat.le_refl _) h1
   have hle : ((Zd7 (tx "not") ws).getD ws).length ≤ ws.length := by
    cases ht : Zd7 (tx "not") ws with
    | none => simp
    | some r =>
     have := Zep ht
     simp only [Option.getD_some]
     omega
   split at h
   ·cases h
   ·rename_i h2
    have := ZjH h2
    cases h
    omega
theorem Zk6 {e : Int} : ∀ (k : Nat) {s c : Int} {ws r : List Wd} {p : Int × Int}, ws.length ≤ k → Zfs e s c ws = .ok (p, r) → r.length < ws.length ∧ (B255 (s, c) → B255 p)
 | 0, s, c, ws, r, p, hk, h => by
  have : ws = [] := List.length_eq_zero_iff.1 (by omega)
  subst this
  cases h
 | k + 1, s, c, ws, r, p, hk, h => by
  rw [Zka] at h
  split at h
  ·cases h
  ·rename_i q r1 h1
   have hl := ZmQ h1
   have hb : B255 (s, c) → B255 q := fun hb => Zqv hb h1
   split at h
   ·cases h
    exact ⟨hl, hb⟩
   ·rename_i r2 h2
    have := Zep h2
    obtain ⟨q1, q2⟩ := Zk6 k (by omega) h
    exact ⟨by omega, fun h => q2 (hb h)⟩
theorem Zkh {e : Int} {t : List Int} {m m' : Za9} {ws r : List Wd} (h : Zf6 e t m ws = some (.ok (m', r))) : r.length ≤ ws.length ∧ (B255 (m.Set, m.Clear) → B255 (m'.Set, m'.Clear)) := by
 unfold Zf6 at h
 split at h
 ·split at h
  ·cases h
  ·rename_i h1
   cases h
   exact ⟨Nat.le_of_lt (ZpU h1), fun h => h⟩
 ·split at h
  ·split at h
   ·cases h
   ·rename_i h1
    cases h
    exact ⟨Nat.le_of_lt (Zjk h1).1, fun h => h⟩
  ·split at h
   ·split at h
    ·cases h
    ·rename_i h1
     cases h
     exact ⟨Zme h1, fun h => h⟩
   ·split at h
    ·split at h
     ·cases h
     ·rename_i h1
      cases h
      exact ⟨Zme h1, fun h => h⟩
    ·split at h
     ·split at h
      ·cases h
      ·rename_i h1
       obtain ⟨q1, q2⟩ := Zk6 _ (Nat.le_refl _) h1
       cases h
       exact ⟨Nat.le_of_lt q1, q2⟩
     ·split at h
      ·split at h
       ·cases h
       ·rename_i h1
        cases h
        exact ⟨Nat.le_of_lt (Zjk h1).1, fun h => h⟩
      ·split at h
       ·cases h
        exact ⟨Nat.le_refl _, fun h => h⟩
       ·cases h
end Go.Proofs.YtpmhinidiplhiaaGreatDoor.Lx
