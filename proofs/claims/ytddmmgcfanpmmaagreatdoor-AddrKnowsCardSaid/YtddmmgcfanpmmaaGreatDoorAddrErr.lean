/- What a text that is not read answers: a reason, and a place within the text; what is read may be. -/
import Derived.Test.YtddmmgcfanpmmaaGreatDoorAddrParse2
set_option linter.unusedVariables false
set_option linter.unusedSimpArgs false
namespace Go.Proofs.YtddmmgcfanpmmaaGreatDoor.Lx
open Go Go.Proofs Go.RowKit
def Bad (l : List Int) (f : Flt) : Prop := f.1 ≠ 0 ∧ f.2 ≤ l.length
theorem missM_bad {l : List Int} {i : Nat} (h : i ≤ l.length) : Bad l (missM l i) := by
  unfold missM
  split
  · exact ⟨by simp, h⟩
  · exact ⟨by simp, h⟩
theorem numM_bad {l : List Int} {i : Nat} {most wrong : Int} {f : Flt} (hi : i ≤ l.length) (hw : wrong ≠ 0) (h : numM l i most wrong = .error f) : Bad l f := by
  unfold numM at h
  split at h
  · cases h
    exact missM_bad hi
  · split at h
    · cases h
      exact ⟨hw, hi⟩
    · split at h
      · cases h
        exact ⟨hw, hi⟩
      · cases h
theorem fourF_bad {l : List Int} : ∀ (k i : Nat) (acc : List Nat) (f : Flt), i ≤ l.length → fourF l k i acc = .error f → Bad l f
  | 0, _, _, _, _, h => by cases h
  | k + 1, i, acc, f, hi, h => by
    unfold fourF at h
    have hs : ∀ {x : Bool} {g : Flt}, sepM l i x = .error g → Bad l g := by
      intro x g h
      unfold sepM at h
      split at h
      · cases h
      · split at h
        · cases h
          exact missM_bad hi
        · cases h
    have hs2 : ∀ {x : Bool} {j : Nat}, sepM l i x = .ok j → j ≤ l.length := by
      intro x j h
      unfold sepM at h
      split at h
      · cases h
        exact hi
      · split at h
        · cases h
        · cases h
          omega
    cases hj : sepM l i acc.isEmpty with
    | error g =>
      rw [hj] at h
      cases h
      exact hs hj
    | ok j =>
      rw [hj] at h
      simp only at h
      cases hn : numM l j 255 43 with
      | error g =>
        rw [hn] at h
        cases h
        exact numM_bad (hs2 hj) (by decide) hn
      | ok x =>
        rw [hn] at h
        exact fourF_bad k x.2 _ f (numM_ok hn (hs2 hj)).2.2 h
theorem fourM_bad {l : List Int} {i : Nat} {f : Flt} (hi : i ≤ l.length) (h : fourM l i = .error f) : Bad l f := by
  unfold fourM at h
  cases hf : fourF l 4 i [] with
  | error g =>
    rw [hf] at h
    cases h
    exact fourF_bad _ _ _ _ hi hf
  | ok x =>
    rw [hf] at h
    simp only at h
    split at h
    · cases h
      exact ⟨by simp, (fourF_ok _ _ _ _ _ hi (by simp) hf).2.2.2⟩
    · cases h
theorem groupM_bad {l : List Int} {st : S6} {f : Flt} (hi : st.at_ ≤ l.length) (h : groupM l st = .error f) : Bad l f := by
  unfold groupM at h
  split at h
  · cases h
    exact missM_bad hi
  · split at h
    · split at h
      · cases h
        exact ⟨by simp, hi⟩
      · cases hf : fourM l st.at_ with
        | error g =>
          rw [hf] at h
          cases h
          exact fourM_bad hi hf
        | ok x =>
          rw [hf] at h
          cases h
    · split at h
      · cases h
        exact ⟨by simp, hi⟩
      · split at h
        · cases h
          exact ⟨by simp, hi⟩
        · cases h
theorem doubleM_bad {l : List Int} {st : S6} {f : Flt} (hi : st.at_ ≤ l.length) (h : doubleM l st = .error f) : Bad l f := by
  unfold doubleM at h
  split at h
  · cases h
  · split at h
    · cases h
      exact ⟨by simp, hi⟩
    · cases h
theorem readF_bad {l : List Int} {f : Flt} : ∀ (n : Nat) (op : Bool) (st : S6), Ok6 l st → l.length + 1 ≤ n + st.at_ → readF l n op st = .error f → Bad l f
  | 0, _, _, ok, hn, h => by
    have := ok.a
    omega
  | n + 1, op, st, ok, hn, h => by
    unfold readF at h
    split at h
    · cases h
    · cases hg : groupM l st with
      | error e =>
        rw [hg] at h
        cases h
        exact groupM_bad ok.a hg
      | ok x =>
        obtain ⟨done, st1⟩ := x
        rw [hg] at h
        obtain ⟨k1, -, k2⟩ := groupM_ok ok hg
        simp only at h
        split at h
        · split at h
          · cases h
            exact ⟨by simp, Nat.le_refl _⟩
          · cases h
        · rename_i hn'
          have k3 := k2 (by cases done <;> simp_all)
          cases hd : doubleM l st1 with
          | error e =>
            rw [hd] at h
            cases h
            exact doubleM_bad k1.a hd
          | ok x =>
            obtain ⟨y, st2⟩ := x
            rw [hd] at h
            obtain ⟨m1, m2, m3⟩ := doubleM_ok k1 hd
            simp only at h
            split at h
            · rename_i hy
              have := (m3 hy).1
              exact readF_bad n true st2 m1 (by omega) h
            · rename_i hy
              have e2 := m2 (by simpa using hy)
              subst e2
              split at h
              · cases h
                exact ⟨by simp, m1.a⟩
              · have h3 := k1.a
                have h4 : st2.at_ ≠ l.length := fun h' => hn' (.inr h')
                exact readF_bad n false ⟨st2.at_ + 1, st2.gs, st2.gap⟩ ⟨by show st2.at_ + 1 ≤ l.length; omega, m1.g, m1.p1, m1.p2, m1.p3, m1.v⟩ (by show l.length + 1 ≤ n + (st2.at_ + 1); omega) h
theorem readM_bad {l : List Int} {f : Flt} (h : readM l = .error f) : Bad l f := by
  have ok0 : Ok6 l ⟨0, [], -1⟩ := ⟨by simp, by simp, by simp, by simp, fun h => by simp, fun x h => by cases h⟩
  unfold readM at h
  cases hd : doubleM l ⟨0, [], -1⟩ with
  | error e =>
    rw [hd] at h
    cases h
    exact doubleM_bad (Nat.zero_le _) hd
  | ok x =>
    obtain ⟨y, st⟩ := x
    rw [hd] at h
    exact readF_bad _ _ _ (doubleM_ok ok0 hd).1 (by omega) h
theorem parseM_bad {l : List Int} {f : Flt} (h : parseM l = .error f) : Bad l f := by
  unfold parseM at h
  split at h
  · cases h
    exact ⟨by simp, by omega⟩
  · split at h
    · cases hr : readM l with
      | error g =>
        rw [hr] at h
        cases h
        exact readM_bad hr
      | ok st =>
        rw [hr] at h
        cases h
    · cases hr : fourM l 0 with
      | error g =>
        rw [hr] at h
        cases h
        exact fourM_bad (Nat.zero_le _) hr
      | ok a =>
        rw [hr] at h
        cases h
theorem parseM_size {l : List Int} {ip : api_IP} (h : parseM l = .ok ip) : sizeM ip > 0 := by
  unfold parseM at h
  split at h
  · cases h
  · split at h
    · cases hr : readM l with
      | error g =>
        rw [hr] at h
        cases h
      | ok st =>
        rw [hr] at h
        cases h
        exact (show (0 : Int) < 128 by decide)
    · cases hr : fourM l 0 with
      | error g =>
        rw [hr] at h
        cases h
      | ok a =>
        rw [hr] at h
        cases h
        obtain ⟨h4, h5⟩ := fourM_ok (Nat.zero_le _) hr
        unfold sizeM
        have e : (v4V a).l.drop 4 = List.replicate 12 0 := by
          match a, h4 with
          | [a, b, c, d], _ => rfl
        rw [if_neg (show ¬ (4 : Int) = 6 by decide), if_pos ⟨rfl, e⟩]
        decide
end Go.Proofs.YtddmmgcfanpmmaaGreatDoor.Lx
