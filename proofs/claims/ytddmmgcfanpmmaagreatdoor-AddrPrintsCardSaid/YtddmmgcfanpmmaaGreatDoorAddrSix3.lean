/- The reading of addresses of version 6 (package addr): the whole text; its bytes. -/
import Derived.Test.YtddmmgcfanpmmaaGreatDoorAddrSix2
set_option linter.unusedVariables false
set_option linter.unusedSimpArgs false
namespace Go.Proofs.YtddmmgcfanpmmaaGreatDoor.Lx
open Go Go.Proofs Go.RowKit
def readF (l : List Int) : Nat → Bool → S6 → Except Flt S6
  | 0, _, _ => .error (0, 0)
  | f + 1, op, st => if st.at_ = l.length ∧ op = true then .ok st else match groupM l st with
    | .error e => .error e
    | .ok (done, st1) => if done = true ∨ st1.at_ = l.length then (if st1.gap < 0 ∧ st1.gs.length ≠ 8 then .error (42, l.length) else .ok st1) else match doubleM l st1 with
      | .error e => .error e
      | .ok (y, st2) => if y = true then readF l f true st2 else if l.getD st2.at_ 0 ≠ 58 then .error (41, st2.at_) else readF l f false ⟨st2.at_ + 1, st2.gs, st2.gap⟩
def readM (l : List Int) : Except Flt S6 := match doubleM l ⟨0, [], -1⟩ with
  | .error e => .error e
  | .ok (_, st) => readF l (l.length + 1) (decide (st.gap ≥ 0)) st
structure Ok6 (l : List Int) (st : S6) : Prop where
  a : st.at_ ≤ l.length
  g : st.gs.length ≤ 8
  p1 : -1 ≤ st.gap
  p2 : st.gap ≤ st.gs.length
  p3 : 0 ≤ st.gap → st.gs.length ≤ 7
  v : ∀ x ∈ st.gs, x < 65536
theorem isHex_lt {l : List Int} (h : ∀ c ∈ l, isHex c = true) (k : Nat) (hk : l.length ≤ k) (h5 : k ≤ 4) : hexN l < 16 ^ k := by
  induction k generalizing l with
  | zero =>
    have : l = [] := List.eq_nil_of_length_eq_zero (by omega)
    subst this
    decide
  | succ k ih =>
    rcases List.eq_nil_or_concat l with rfl | ⟨l', c, rfl⟩
    · exact Nat.pow_pos (by omega)
    · rw [List.concat_eq_append] at h hk ⊢
      rw [hexN_snoc, Nat.pow_succ]
      have h1 := ih (l := l') (fun c hc => h c (by simp [hc])) (by simp at hk; omega) (by omega)
      have h2 := hexV_lt c
      have h3 : 16 ^ k ≤ 16 ^ 3 := Nat.pow_le_pow_right (by omega) (by omega)
      omega
theorem groupM_ok {l : List Int} {st st1 : S6} {y : Bool} (ok : Ok6 l st) (h : groupM l st = .ok (y, st1)) : Ok6 l st1 ∧ st1.gap = st.gap ∧ (y = false → st.at_ < st1.at_) := by
  obtain ⟨r1, r2⟩ := runE_le (p := isHex) ok.a
  have hp := ok.p3
  unfold groupM at h
  split at h
  · cases h
  · rename_i hne
    split at h
    · split at h
      · cases h
      · rename_i hroom
        have hlen : st.gs.length + 2 ≤ 8 ∧ (0 ≤ st.gap → st.gs.length + 2 ≤ 7) := by
          unfold S6.room at hroom
          split at hroom <;> omega
        cases hf : fourM l st.at_ with
        | error f => rw [hf] at h; cases h
        | ok a =>
          rw [hf] at h
          simp only [Except.ok.injEq, Prod.mk.injEq] at h
          obtain ⟨rfl, rfl⟩ := h
          obtain ⟨a4, a5⟩ := fourM_ok ok.a hf
          obtain ⟨n1, n2, n3, n4, rfl⟩ : ∃ n1 n2 n3 n4, a = [n1, n2, n3, n4] := by
            match a, a4 with
            | [n1, n2, n3, n4], _ => exact ⟨n1, n2, n3, n4, rfl⟩
          have b1 := a5 n1 (by simp)
          have b2 := a5 n2 (by simp)
          have b3 := a5 n3 (by simp)
          have b4 := a5 n4 (by simp)
          refine ⟨⟨ok.a, by simp [pairs]; omega, ok.p1, by simp [pairs]; have := ok.p2; omega, fun h => by simp [pairs]; have := hlen.2 h; omega, fun x hx => ?_⟩, rfl, fun h => by cases h⟩
          rcases List.mem_append.1 hx with hx | hx
          · exact ok.v x hx
          · simp only [pairs, List.mem_cons, List.not_mem_nil, or_false] at hx
            omega
    · split at h
      · cases h
      · rename_i hroom
        have hlen : st.gs.length + 1 ≤ 8 ∧ (0 ≤ st.gap → st.gs.length + 1 ≤ 7) := by
          unfold S6.room at hroom
          split at hroom <;> omega
        split at h
        · cases h
        · rename_i h4
          simp only [Except.ok.injEq, Prod.mk.injEq] at h
          obtain ⟨rfl, rfl⟩ := h
          refine ⟨⟨r2, by simp; omega, ok.p1, by simp; have := ok.p2; omega, fun h => by simp; have := hlen.2 h; omega, fun x hx => ?_⟩, rfl, fun _ => by simp only; omega⟩
          rcases List.mem_append.1 hx with hx | hx
          · exact ok.v x hx
          · rw [List.mem_singleton] at hx
            subst hx
            refine isHex_lt (k := 4) (fun c hc => ?_) (by rw [List.length_take]; omega) (by omega)
            obtain ⟨j, hj, rfl⟩ := List.mem_iff_getElem.1 hc
            rw [List.length_take, List.length_drop] at hj
            rw [List.getElem_take, List.getElem_drop]
            have := runE_all (p := isHex) (l := l) (i := st.at_) (k := st.at_ + j) (by omega) (by omega)
            rw [List.getD, List.getElem?_eq_getElem (by omega)] at this
            exact this
theorem doubleM_ok {l : List Int} {st st1 : S6} {y : Bool} (ok : Ok6 l st) (h : doubleM l st = .ok (y, st1)) : Ok6 l st1 ∧ (y = false → st1 = st) ∧ (y = true → st1.at_ = st.at_ + 2 ∧ 0 ≤ st1.gap) := by
  unfold doubleM at h
  split at h
  · simp only [Except.ok.injEq, Prod.mk.injEq] at h
    obtain ⟨rfl, rfl⟩ := h
    exact ⟨ok, fun _ => rfl, fun h => by cases h⟩
  · rename_i hd
    split at h
    · cases h
    · rename_i hg
      simp only [Except.ok.injEq, Prod.mk.injEq] at h
      obtain ⟨rfl, rfl⟩ := h
      have hd := Decidable.not_not.1 hd
      unfold dblAt at hd
      have hlen := congrArg List.length hd
      rw [List.length_take, List.length_drop] at hlen
      simp only [List.length_cons, List.length_nil] at hlen
      have := ok.g
      refine ⟨⟨by simp only; omega, ok.g, by simp only; omega, by simp, fun _ => by simp only; omega, ok.v⟩, (fun h => by cases h), (fun _ => ⟨rfl, by simp⟩)⟩
theorem readF_next {l : List Int} {f : Nat} {op y done : Bool} {st st1 st2 : S6} (h : ¬ (st.at_ = l.length ∧ op = true)) (hg : groupM l st = .ok (done, st1)) (hn : ¬ (done = true ∨ st1.at_ = l.length)) (hd : doubleM l st1 = .ok (y, st2)) :
    readF l (f + 1) op st = if y = true then readF l f true st2 else if l.getD st2.at_ 0 ≠ 58 then .error (41, st2.at_) else readF l f false ⟨st2.at_ + 1, st2.gs, st2.gap⟩ := by
  conv => lhs; unfold readF
  rw [if_neg h, hg]
  show (if done = true ∨ st1.at_ = l.length then _ else _) = _
  rw [if_neg hn, hd]
section
variable {W w : World} {Hs : List HP}
def ReadA (W : World) (Hs : List HP) (b : Nat) (t : ByteArray) (x : Except Flt S6) (r : Option Addr) (w : World) : Prop :=
  match x with
  | .ok st => r = none ∧ Ss W (SixP b t st :: Hs) w
  | .error f => ∃ b', r = some (pt b' 0) ∧ Ss W (pts true (pt b' 0) (flt f) :: Hs) w
theorem read_wp {b : Nat} {t : ByteArray} (s : Ss W (SixP b t ⟨0, [], -1⟩ :: Hs) w) (ht : t.size ≤ 1000) : WP (addr_six_read (some (pt b 0))) w (ReadA W Hs b t (readM (strI t))) := by
  have hl := strI_len t
  have ok0 : Ok6 (strI t) ⟨0, [], -1⟩ := ⟨by simp, by simp, by simp, by simp, fun h => by simp, fun x h => by cases h⟩
  unfold addr_six_read
  refine WP.step (double_wp s (by simp) ht (by simp)) ?_
  intro r w hr
  unfold StepA at hr
  unfold readM
  cases hd : doubleM (strI t) ⟨0, [], -1⟩ with
  | error f =>
    rw [hd] at hr
    obtain ⟨b', hr2, s⟩ := hr
    refine WP.ite (fun _ => WP.ret ⟨b', hr2, s⟩) (fun h => absurd (by rw [hr2]; simp) h)
  | ok x =>
    obtain ⟨y, st0⟩ := x
    rw [hd] at hr
    obtain ⟨rfl, s⟩ := hr
    obtain ⟨ok1, -, -⟩ := doubleM_ok ok0 hd
    refine WP.ite (fun h => absurd rfl h) (fun _ => ?_)
    obtain ⟨g, sp, s⟩ := s.openX
    refine WP.nilck (WP.ld s 0 rfl (o := 3) rfl (At_addr_six_gap _) ?_)
    simp only
    generalize hX : readF (strI t) ((strI t).length + 1) (decide (st0.gap ≥ 0)) st0 = X
    refine WP.loopG (γ := Nat × S6) (fun q (op : Bool) w => Ok6 (strI t) q.2 ∧ (strI t).length - q.2.at_ < q.1 ∧ readF (strI t) q.1 op q.2 = X ∧ Ss W (SixP b t q.2 :: Hs) w) (fun q _ => q.1) ((strI t).length + 1, st0) ⟨ok1, by omega, hX, s.closeX⟩ ?_
    clear s hX
    rintro ⟨f, st⟩ op w ⟨ok, hf, hF, s⟩
    simp only at ok hf hF s
    show WP (addr_six_read.L1 (some (pt b 0)) op) w _
    obtain ⟨f, rfl⟩ : ∃ f', f = f' + 1 := ⟨f - 1, by omega⟩
    have fin : ∀ {e : Except Flt S6} {r : Option Addr} {w : World}, readF (strI t) (f + 1) op st = e → ReadA W Hs b t e r w → ReadA W Hs b t X r w := fun h1 h2 => by
      rw [← hF, h1]
      exact h2
    have oka := ok.a
    have okg := ok.g
    unfold addr_six_read.L1
    obtain ⟨g, sp, s⟩ := s.openX
    refine WP.draw' s (fun w s => WP.nilck (WP.ld s 0 rfl (o := 1) rfl (At_addr_six_at_ _) (WP.nilck (WP.ld s 0 rfl (o := 0) (by simp [Addr.add]) (At_addr_six_s _) ?_))))
    refine WP.step (R := fun y w' => y = decide (st.at_ = (strI t).length ∧ op = true) ∧ w = w') (WP.ite (fun h => WP.ret ⟨?_, rfl⟩) (fun h => WP.ret ⟨?_, rfl⟩)) ?_
    · have h : (st.at_ : Int) = (t.size : Int) := h
      rw [Bool.eq_iff_iff, decide_eq_true_iff]
      exact ⟨fun h' => ⟨by omega, h'⟩, fun h' => h'.2⟩
    · have h : ¬ (st.at_ : Int) = (t.size : Int) := h
      exact (decide_eq_false fun h' => h (by omega)).symm
    rintro _ _ ⟨rfl, rfl⟩
    refine WP.ite (fun h => WP.done (fin (e := .ok st) ?_ ⟨rfl, s.closeX⟩)) (fun h => ?_)
    · unfold readF
      rw [if_pos (of_decide_eq_true h)]
    have hno : ¬ (st.at_ = (strI t).length ∧ op = true) := fun h' => h (decide_eq_true h')
    refine WP.step (group_wp s.closeX (by omega) ht (by omega)) ?_
    intro r w hr
    unfold StepA at hr
    cases hgm : groupM (strI t) st with
    | error e =>
      rw [hgm] at hr
      obtain ⟨b', hr2, s⟩ := hr
      exact WP.ite (fun _ => WP.done (fin (e := .error e) (by unfold readF; rw [if_neg hno, hgm]) ⟨b', hr2, s⟩)) (fun h => absurd (by rw [hr2]; simp) h)
    | ok x =>
      obtain ⟨done, st1⟩ := x
      rw [hgm] at hr
      obtain ⟨rfl, s⟩ := hr
      obtain ⟨k1, k2, k3⟩ := groupM_ok ok hgm
      have k1a := k1.a
      have k1g := k1.g
      obtain ⟨g, sp, s⟩ := s.openX
      have hgl := (s.vec_len (i := 1) rfl).1
      rw [List.length_map] at hgl
      refine WP.ite (fun h => absurd rfl h) (fun _ => WP.draw' s (fun w s => ?_))
      simp only
      refine WP.step (R := fun y w' => y = decide (done = true ∨ st1.at_ = (strI t).length) ∧ w = w') (WP.ite (fun h => WP.ret ⟨(decide_eq_true (.inl h)).symm, rfl⟩) (fun h => WP.nilck (WP.ld s 0 rfl (o := 1) rfl (At_addr_six_at_ _) (WP.nilck (WP.ld s 0 rfl (o := 0) (by simp [Addr.add]) (At_addr_six_s _) (WP.ret ⟨?_, rfl⟩)))))) ?_
      · rw [Bool.eq_iff_iff, decide_eq_true_iff, beq_iff_eq]
        simp only
        exact ⟨fun h' => .inr (by omega), fun h' => by have := h'.resolve_left h; omega⟩
      rintro _ _ ⟨rfl, rfl⟩
      refine WP.ite (fun h => ?_) (fun h => ?_)
      · have e0 : readF (strI t) (f + 1) op st = if st1.gap < 0 ∧ st1.gs.length ≠ 8 then .error (42, (strI t).length) else .ok st1 := by
          unfold readF
          rw [if_neg hno, hgm]
          show (if done = true ∨ st1.at_ = (strI t).length then _ else _) = _
          rw [if_pos (of_decide_eq_true h)]
        refine WP.nilck (WP.ld s 0 rfl (o := 3) rfl (At_addr_six_gap _) ?_)
        simp only
        refine WP.step (R := fun y w' => y = decide (st1.gap < 0 ∧ st1.gs.length ≠ 8) ∧ w = w') (WP.ite (fun h => WP.nilck (WP.ld s 0 rfl (o := 2) rfl (At_addr_six_groups _) (WP.ret ⟨?_, rfl⟩))) (fun h => WP.ret ⟨(decide_eq_false fun h' => h h'.1).symm, rfl⟩)) ?_
        · rw [Bool.eq_iff_iff, decide_eq_true_iff, bne_iff_ne]
          simp only
          exact ⟨fun h' => ⟨h, by omega⟩, fun h' => by have := h'.2; omega⟩
        rintro _ _ ⟨rfl, rfl⟩
        refine WP.ite (fun h => WP.nilck (WP.ld s 0 rfl (o := 0) (by simp [Addr.add]) (At_addr_six_s _) (WP.newv s (fun b' w s => WP.done ?_)))) (fun h => WP.done ?_)
        · rw [if_pos (of_decide_eq_true h)] at e0
          refine fin e0 ⟨b', rfl, ?_⟩
          rw [hl]
          exact (s.use [1, 1] (s := [_, _]) (r := _ :: Hs) rfl).drop.drop
        · rw [if_neg (fun h' => h (decide_eq_true h'))] at e0
          exact fin e0 ⟨rfl, s.closeX⟩
      · have hn : ¬ (done = true ∨ st1.at_ = (strI t).length) := fun h' => h (decide_eq_true h')
        have hdone : done = false := by
          cases done with
          | false => rfl
          | true => exact absurd (.inl rfl) hn
        have hat1 := k3 hdone
        have hne1 : st1.at_ ≠ (strI t).length := fun h' => hn (.inr h')
        refine WP.step (double_wp s.closeX (by omega) ht (by omega)) ?_
        intro r w hr
        unfold StepA at hr
        cases hdm : doubleM (strI t) st1 with
        | error e =>
          rw [hdm] at hr
          obtain ⟨b', hr2, s⟩ := hr
          have e0 : readF (strI t) (f + 1) op st = .error e := by
            unfold readF
            rw [if_neg hno, hgm]
            show (if done = true ∨ st1.at_ = (strI t).length then _ else _) = _
            rw [if_neg hn, hdm]
          exact WP.ite (fun _ => WP.done (fin e0 ⟨b', hr2, s⟩)) (fun h => absurd (by rw [hr2]; simp) h)
        | ok x =>
          obtain ⟨y, st2⟩ := x
          rw [hdm] at hr
          obtain ⟨rfl, s5⟩ := hr
          obtain ⟨m1, m2, m3⟩ := doubleM_ok k1 hdm
          refine WP.ite (fun h => absurd rfl h) (fun _ => ?_)
          simp only
          cases y with
          | true =>
            have m3 := m3 rfl
            refine WP.ite (fun h => absurd rfl h) (fun _ => WP.next ⟨(f, st2), ⟨m1, by simp only; omega, ?_, s5⟩, by simp only; omega⟩)
            simp only
            rw [← hF, readF_next hno hgm hn hdm]
            rfl
          | false =>
            have m2 := m2 rfl
            subst m2
            obtain ⟨g, sp, s⟩ := s5.openX
            refine WP.ite (fun _ => WP.draw' s (fun w s => WP.nilck (WP.ld s 0 rfl (o := 0) (by simp [Addr.add]) (At_addr_six_s _) (WP.nilck (WP.ld s 0 rfl (o := 1) rfl (At_addr_six_at_ _) (WP.chk ⟨by simp only; omega, by simp only; omega⟩ ?_)))))) (fun h => absurd (by simp) h)
            simp only
            rw [sb_get]
            refine WP.ite (fun h => WP.nilck (WP.ld s 0 rfl (o := 1) rfl (At_addr_six_at_ _) (WP.newv s (fun b' w s => WP.done ?_)))) (fun h => ?_)
            · have e1 : (if false = true then readF (strI t) f true st2 else if (strI t).getD st2.at_ 0 ≠ 58 then .error (41, st2.at_) else readF (strI t) f false ⟨st2.at_ + 1, st2.gs, st2.gap⟩) = (.error (41, st2.at_) : Except Flt S6) := by
                rw [if_neg (by simp), if_pos h]
              exact fin ((readF_next hno hgm hn hdm).trans e1) ⟨b', rfl, (s.use [1, 1] (s := [_, _]) (r := _ :: Hs) rfl).drop.drop⟩
            · refine WP.nilck (WP.ld s 0 rfl (o := 1) rfl (At_addr_six_at_ _) (WP.nilck (WP.st s 0 rfl (o := 1) rfl (Up_addr_six_at_ _ _) (fun w s => WP.next ⟨(f, ⟨st2.at_ + 1, st2.gs, st2.gap⟩), ⟨⟨by simp only; omega, m1.g, m1.p1, m1.p2, m1.p3, m1.v⟩, by simp only; omega, ?_, Ss.closeX (g := g) (sp := sp) ?_⟩, by simp only; omega⟩))))
              · simp only
                rw [← hF, readF_next hno hgm hn hdm, if_neg (by simp), if_neg h]
              · simp only at s
                have e1 : IntKind.wrap .i64 ((st2.at_ : Int) + 1) = ((st2.at_ + 1 : Nat) : Int) := by
                  rw [wrap_i64 (by omega) (by omega)]
                  simp
                rw [e1] at s
                exact s
end
end Go.Proofs.YtddmmgcfanpmmaaGreatDoor.Lx
