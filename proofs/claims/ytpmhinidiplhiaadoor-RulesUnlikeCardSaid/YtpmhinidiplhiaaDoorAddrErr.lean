
import Derived.Test.YtpmhinidiplhiaaDoorAddrPrint3
set_option linter.unusedVariables false
set_option linter.unusedSimpArgs false
namespace Go.Proofs.YtpmhinidiplhiaaDoor.Lx
open Go Go.Proofs Go.RowKit
def Bad (l : List Int) (f : Flt) : Prop := f.1 ≠ 0 ∧ f.2 ≤ l.length
theorem Zjc {l : List Int} {i : Nat} (h : i ≤ l.length) : Bad l (Zm2 l i) := by
 unfold Zm2
 split
 ·exact ⟨by simp, h⟩
 ·exact ⟨by simp, h⟩
theorem ZnE {l : List Int} {i : Nat} {most wrong : Int} {f : Flt} (hi : i ≤ l.length) (hw : wrong ≠ 0) (h : numM l i most wrong = .error f) : Bad l f := by
 unfold numM at h
 split at h
 ·cases h
  exact Zjc hi
 ·split at h
  ·cases h
   exact ⟨hw, hi⟩
  ·split at h
   ·cases h
    exact ⟨hw, hi⟩
   ·cases h
theorem Zmj {l : List Int} : ∀ (k i : Nat) (acc : List Nat) (f : Flt), i ≤ l.length → ZeJ l k i acc = .error f → Bad l f
 | 0, _, _, _, _, h => by cases h
 | k + 1, i, acc, f, hi, h => by
  unfold ZeJ at h
  have hs : ∀ {x : Bool} {g : Flt}, sepM l i x = .error g → Bad l g := by
   intro x g h
   unfold sepM at h
   split at h
   ·cases h
   ·split at h
    ·cases h
     exact Zjc hi
    ·cases h
  have hs2 : ∀ {x : Bool} {j : Nat}, sepM l i x = .ok j → j ≤ l.length := by
   intro x j h
   unfold sepM at h
   split at h
   ·cases h
    exact hi
   ·split at h
    ·cases h
    ·cases h
     omega
  cases hj : sepM l i acc.isEmpty with
  | error g =>
   rw [hj] at h
   cases h
   exact hs hj
  | ok j =>
   rw [hj] at h
   simp only at h
   cases hn : numM l j 255 43 with
   | error g =>
    rw [hn] at h
    cases h
    exact ZnE (hs2 hj) (by decide) hn
   | ok x =>
    rw [hn] at h
    exact Zmj k x.2 _ f (ZkX hn (hs2 hj)).2.2 h
theorem Zmi {l : List Int} {i : Nat} {f : Flt} (hi : i ≤ l.length) (h : Ze5 l i = .error f) : Bad l f := by
 unfold Ze5 at h
 cases hf : ZeJ l 4 i [] with
 | error g =>
  rw [hf] at h
  cases h
  exact Zmj _ _ _ _ hi hf
 | ok x =>
  rw [hf] at h
  simp only at h
  split at h
  ·cases h
   exact ⟨by simp, (Zk8 _ _ _ _ _ hi (by simp) hf).2.2.2⟩
  ·cases h
theorem ZoK {l : List Int} {st : S6} {f : Flt} (hi : st.at_ ≤ l.length) (h : ZeI l st = .error f) : Bad l f := by
 unfold ZeI at h
 split at h
 ·cases h
  exact Zjc hi
 ·split at h
  ·split at h
   ·cases h
    exact ⟨by simp, hi⟩
   ·cases hf : Ze5 l st.at_ with
    | error g =>
     rw [hf] at h
     cases h
     exact Zmi hi hf
    | ok x =>
     rw [hf] at h
     cases h
  ·split at h
   ·cases h
    exact ⟨by simp, hi⟩
   ·split at h
    ·cases h
     exact ⟨by simp, hi⟩
    ·cases h
theorem Zjv {l : List Int} {st : S6} {f : Flt} (hi : st.at_ ≤ l.length) (h : Zce l st = .error f) : Bad l f := by
 unfold Zce at h
 split at h
 ·cases h
 ·split at h
  ·cases h
   exact ⟨by simp, hi⟩
  ·cases h
theorem Zi3 {l : List Int} {f : Flt} : ∀ (n : Nat) (op : Bool) (st : S6), Ok6 l st → l.length + 1 ≤ n + st.at_ → Zc9 l n op st = .error f → Bad l f
 | 0, _, _, ok, hn, h => by
  have := ok.a
  omega
 | n + 1, op, st, ok, hn, h => by
  unfold Zc9 at h
  split at h
  ·cases h
  ·cases hg : ZeI l st with
   | error e =>
    rw [hg] at h
    cases h
    exact ZoK ok.a hg
   | ok x =>
    obtain ⟨done, st1⟩ := x
    rw [hg] at h
    obtain ⟨k1, -, k2⟩ := Zjj ok hg
    simp only at h
    split at h
    ·split at h
     ·cases h
      exact ⟨by simp, Nat.le_refl _⟩
     ·cases h
    ·rename_i hn'
     have k3 := k2 (by cases done <;> simp_all)
     cases hd : Zce l st1 with
     | error e =>
      rw [hd] at h
      cases h
      exact Zjv k1.a hd
     | ok x =>
      obtain ⟨y, st2⟩ := x
      rw [hd] at h
      obtain ⟨m1, m2, m3⟩ := Zex k1 hd
      simp only at h
      split at h
      ·rename_i hy
       have := (m3 hy).1
       exact Zi3 n true st2 m1 (by omega) h
      ·rename_i hy
       have e2 := m2 (by simpa using hy)
       subst e2
       split at h
       ·cases h
        exact ⟨by simp, m1.a⟩
       ·have h3 := k1.a
        have h4 : st2.at_ ≠ l.length := fun h' => hn' (.inr h')
        exact Zi3 n false ⟨st2.at_ + 1, st2.gs, st2.gap⟩ ⟨by show st2.at_ + 1 ≤ l.length; omega, m1.g, m1.p1, m1.p2, m1.p3, m1.v⟩ (by show l.length + 1 ≤ n + (st2.at_ + 1); omega) h
theorem Zpo {l : List Int} {f : Flt} (h : Zfy l = .error f) : Bad l f := by
 have ok0 : Ok6 l ⟨0, [], -1⟩ := ⟨by simp, by simp, by simp, by simp, fun h => by simp, fun x h => by cases h⟩
 unfold Zfy at h
 cases hd : Zce l ⟨0, [], -1⟩ with
 | error e =>
  rw [hd] at h
  cases h
  exact Zjv (Nat.zero_le _) hd
 | ok x =>
  obtain ⟨y, st⟩ := x
  rw [hd] at h
  exact Zi3 _ _ _ (Zex ok0 hd).1 (by omega) h
theorem Zki {l : List Int} {f : Flt} (h : ZcF l = .error f) : Bad l f := by
 unfold ZcF at h
 split at h
 ·cases h
  exact ⟨by simp, by omega⟩
 ·split at h
  ·cases hr : Zfy l with
   | error g =>
    rw [hr] at h
    cases h
    exact Zpo hr
   | ok st =>
    rw [hr] at h
    cases h
  ·cases hr : Ze5 l 0 with
   | error g =>
    rw [hr] at h
    cases h
    exact Zmi (Nat.zero_le _) hr
   | ok a =>
    rw [hr] at h
    cases h
theorem Zq0 {l : List Int} {p : Zak} (h : Ziu l = .ok p) : vpM p = 0 ∧ Byt p.IP.A.l := by
 unfold Ziu at h
 split at h
 ·cases h
 ·split at h
  ·cases hr : ZcF (l.take (Za5 l 47)) with
   | error g =>
    rw [hr] at h
    cases h
   | ok ip =>
    rw [hr] at h
    simp only at h
    cases hn : numM l (Za5 l 47 + 1) (ZdH ip) 45 with
    | error g =>
     rw [hn] at h
     cases h
    | ok x =>
     rw [hn] at h
     simp only at h
     split at h
     ·cases h
     ·split at h
      ·cases h
      ·rename_i hv
       cases h
       exact ⟨Decidable.not_not.1 hv, Zgn hr⟩
  ·cases h
theorem Zpx {l : List Int} {f : Flt} (h : Ziu l = .error f) : Bad l f := by
 unfold Ziu at h
 split at h
 ·cases h
  exact ⟨by simp, by omega⟩
 ·split at h
  ·rename_i hf
   cases hr : ZcF (l.take (Za5 l 47)) with
   | error g =>
    rw [hr] at h
    cases h
    obtain ⟨g1, g2⟩ := Zki hr
    rw [List.length_take] at g2
    exact ⟨g1, by omega⟩
   | ok ip =>
    rw [hr] at h
    simp only at h
    cases hn : numM l (Za5 l 47 + 1) (ZdH ip) 45 with
    | error g =>
     rw [hn] at h
     cases h
     exact ZnE (by omega) (by decide) hn
    | ok x =>
     rw [hn] at h
     simp only at h
     have hx := (ZkX hn (by omega)).2.2
     split at h
     ·cases h
      exact ⟨by simp, hx⟩
     ·split at h
      ·cases h
       exact ⟨by simp, Nat.zero_le _⟩
      ·cases h
  ·cases h
   exact ⟨by simp, Nat.le_refl _⟩
end Go.Proofs.YtpmhinidiplhiaaDoor.Lx
