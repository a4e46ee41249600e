
import Derived.Test.YtpmhinidiplhiaaGreatDoorAddrPrint3
set_option linter.unusedVariables false
set_option linter.unusedSimpArgs false
namespace Go.Proofs.YtpmhinidiplhiaaGreatDoor.Lx
open Go Go.Proofs Go.RowKit
def Bad (l : List Int) (f : Flt) : Prop := f.1 ≠ 0 ∧ f.2 ≤ l.length
theorem ZjW {l : List Int} {i : Nat} (h : i ≤ l.length) : Bad l (ZnE l i) := by
 unfold ZnE
 split
 ·exact ⟨by simp, h⟩
 ·exact ⟨by simp, h⟩
theorem Zol {l : List Int} {i : Nat} {most wrong : Int} {f : Flt} (hi : i ≤ l.length) (hw : wrong ≠ 0) (h : numM l i most wrong = .error f) : Bad l f := by
 unfold numM at h
 split at h
 ·cases h
  exact ZjW hi
 ·split at h
  ·cases h
   exact ⟨hw, hi⟩
  ·split at h
   ·cases h
    exact ⟨hw, hi⟩
   ·cases h
theorem ZmO {l : List Int} : ∀ (k i : Nat) (acc : List Nat) (f : Flt), i ≤ l.length → Zhj l k i acc = .error f → Bad l f
 | 0, _, _, _, _, h => by cases h
 | k + 1, i, acc, f, hi, h => by
  unfold Zhj at h
  have hs : ∀ {x : Bool} {g : Flt}, sepM l i x = .error g → Bad l g := by
   intro x g h
   unfold sepM at h
   split at h
   ·cases h
   ·split at h
    ·cases h
     exact ZjW hi
    ·cases h
  have hs2 : ∀ {x : Bool} {j : Nat}, sepM l i x = .ok j → j ≤ l.length := by
   intro x j h
   unfold sepM at h
   split at h
   ·cases h
    exact hi
   ·split at h
    ·cases h
    ·cases h
     omega
  cases hj : sepM l i acc.isEmpty with
  | error g =>
   rw [hj] at h
   cases h
   exact hs hj
  | ok j =>
   rw [hj] at h
   simp only at h
   cases hn : numM l j 255 43 with
   | error g =>
    rw [hn] at h
    cases h
    exact Zol (hs2 hj) (by decide) hn
   | ok x =>
    rw [hn] at h
    exact ZmO k x.2 _ f (ZlD hn (hs2 hj)).2.2 h
theorem ZmN {l : List Int} {i : Nat} {f : Flt} (hi : i ≤ l.length) (h : Zgp l i = .error f) : Bad l f := by
 unfold Zgp at h
 cases hf : Zhj l 4 i [] with
 | error g =>
  rw [hf] at h
  cases h
  exact ZmO _ _ _ _ hi hf
 | ok x =>
  rw [hf] at h
  simp only at h
  split at h
  ·cases h
   exact ⟨by simp, (ZlM _ _ _ _ _ hi (by simp) hf).2.2.2⟩
  ·cases h
theorem Zpe {l : List Int} {st : S6} {f : Flt} (hi : st.at_ ≤ l.length) (h : ZgI l st = .error f) : Bad l f := by
 unfold ZgI at h
 split at h
 ·cases h
  exact ZjW hi
 ·split at h
  ·split at h
   ·cases h
    exact ⟨by simp, hi⟩
   ·cases hf : Zgp l st.at_ with
    | error g =>
     rw [hf] at h
     cases h
     exact ZmN hi hf
    | ok x =>
     rw [hf] at h
     cases h
  ·split at h
   ·cases h
    exact ⟨by simp, hi⟩
   ·split at h
    ·cases h
     exact ⟨by simp, hi⟩
    ·cases h
theorem Zkc {l : List Int} {st : S6} {f : Flt} (hi : st.at_ ≤ l.length) (h : Zeg l st = .error f) : Bad l f := by
 unfold Zeg at h
 split at h
 ·cases h
 ·split at h
  ·cases h
   exact ⟨by simp, hi⟩
  ·cases h
theorem ZjJ {l : List Int} {f : Flt} : ∀ (n : Nat) (op : Bool) (st : S6), Ok6 l st → l.length + 1 ≤ n + st.at_ → Zfg l n op st = .error f → Bad l f
 | 0, _, _, ok, hn, h => by
  have := ok.a
  omega
 | n + 1, op, st, ok, hn, h => by
  unfold Zfg at h
  split at h
  ·cases h
  ·cases hg : ZgI l st with
   | error e =>
    rw [hg] at h
    cases h
    exact Zpe ok.a hg
   | ok x =>
    obtain ⟨done, st1⟩ := x
    rw [hg] at h
    obtain ⟨k1, -, k2⟩ := Zj3 ok hg
    simp only at h
    split at h
    ·split at h
     ·cases h
      exact ⟨by simp, Nat.le_refl _⟩
     ·cases h
    ·rename_i hn'
     have k3 := k2 (by cases done <;> simp_all)
     cases hd : Zeg l st1 with
     | error e =>
      rw [hd] at h
      cases h
      exact Zkc k1.a hd
     | ok x =>
      obtain ⟨y, st2⟩ := x
      rw [hd] at h
      obtain ⟨m1, m2, m3⟩ := Ze3 k1 hd
      simp only at h
      split at h
      ·rename_i hy
       have := (m3 hy).1
       exact ZjJ n true st2 m1 (by omega) h
      ·rename_i hy
       have e2 := m2 (by simpa using hy)
       subst e2
       split at h
       ·cases h
        exact ⟨by simp, m1.a⟩
       ·have h3 := k1.a
        have h4 : st2.at_ ≠ l.length := fun h' => hn' (.inr h')
        exact ZjJ n false ⟨st2.at_ + 1, st2.gs, st2.gap⟩ ⟨by show st2.at_ + 1 ≤ l.length; omega, m1.g, m1.p1, m1.p2, m1.p3, m1.v⟩ (by show l.length + 1 ≤ n + (st2.at_ + 1); omega) h
theorem ZpL {l : List Int} {f : Flt} (h : Zkw l = .error f) : Bad l f := by
 have ok0 : Ok6 l ⟨0, [], -1⟩ := ⟨by simp, by simp, by simp, by simp, fun h => by simp, fun x h => by cases h⟩
 unfold Zkw at h
 cases hd : Zeg l ⟨0, [], -1⟩ with
 | error e =>
  rw [hd] at h
  cases h
  exact Zkc (Nat.zero_le _) hd
 | ok x =>
  obtain ⟨y, st⟩ := x
  rw [hd] at h
  exact ZjJ _ _ _ (Ze3 ok0 hd).1 (by omega) h
theorem ZkZ {l : List Int} {f : Flt} (h : Zfp l = .error f) : Bad l f := by
 unfold Zfp at h
 split at h
 ·cases h
  exact ⟨by simp, by omega⟩
 ·split at h
  ·cases hr : Zkw l with
   | error g =>
    rw [hr] at h
    cases h
    exact ZpL hr
   | ok st =>
    rw [hr] at h
    cases h
  ·cases hr : Zgp l 0 with
   | error g =>
    rw [hr] at h
    cases h
    exact ZmN (Nat.zero_le _) hr
   | ok a =>
    rw [hr] at h
    cases h
theorem Zrs {l : List Int} {p : Zap} (h : Zmu l = .ok p) : vpM p = 0 ∧ Byt p.IP.A.l := by
 unfold Zmu at h
 split at h
 ·cases h
 ·split at h
  ·cases hr : Zfp (l.take (ZbE l 47)) with
   | error g =>
    rw [hr] at h
    cases h
   | ok ip =>
    rw [hr] at h
    simp only at h
    cases hn : numM l (ZbE l 47 + 1) (Zdq ip) 45 with
    | error g =>
     rw [hn] at h
     cases h
    | ok x =>
     rw [hn] at h
     simp only at h
     split at h
     ·cases h
     ·split at h
      ·cases h
      ·rename_i hv
       cases h
       exact ⟨Decidable.not_not.1 hv, Zg2 hr⟩
  ·cases h
theorem ZpT {l : List Int} {f : Flt} (h : Zmu l = .error f) : Bad l f := by
 unfold Zmu at h
 split at h
 ·cases h
  exact ⟨by simp, by omega⟩
 ·split at h
  ·rename_i hf
   cases hr : Zfp (l.take (ZbE l 47)) with
   | error g =>
    rw [hr] at h
    cases h
    obtain ⟨g1, g2⟩ := ZkZ hr
    rw [List.length_take] at g2
    exact ⟨g1, by omega⟩
   | ok ip =>
    rw [hr] at h
    simp only at h
    cases hn : numM l (ZbE l 47 + 1) (Zdq ip) 45 with
    | error g =>
     rw [hn] at h
     cases h
     exact Zol (by omega) (by decide) hn
    | ok x =>
     rw [hn] at h
     simp only at h
     have hx := (ZlD hn (by omega)).2.2
     split at h
     ·cases h
      exact ⟨by simp, hx⟩
     ·split at h
      ·cases h
       exact ⟨by simp, Nat.zero_le _⟩
      ·cases h
  ·cases h
   exact ⟨by simp, Nat.le_refl _⟩
end Go.Proofs.YtpmhinidiplhiaaGreatDoor.Lx
