
import Derived.Test.YtpmhinidiplhiaaGreatDoorRulesModel
set_option linter.unusedVariables false
set_option linter.unusedSimpArgs false
namespace Go.Proofs.YtpmhinidiplhiaaGreatDoor.Lx
open Go Go.Proofs Go.RowKit
abbrev cWd := Zbm
def wdOf (w : ZaI) : Wd := (strI w.s, w.at_)
theorem Zos {cur : List Int} {p c : Int} {cs : List Int} (h : Zin c = true) : lexM cur p (c :: cs) = lexM (cur ++ [c]) (p + 1) cs := by
 rw [lexM, if_pos h]
theorem Zot {cur : List Int} {p c : Int} {cs : List Int} (h : Zin c = false) : lexM cur p (c :: cs) = match (if c = 44 then (match lexM [] (p + 1) cs with
    | .error q => .error q
    | .ok r => .ok (([44], p) :: r))
   else if c = 32 ∨ c = 9 then lexM [] (p + 1) cs else .error p : Except Int (List Wd)) with
   | .error q => .error q
   | .ok r => .ok (if cur = [] then r else (cur, p - cur.length) :: r) := by
 rw [lexM, if_neg (by rw [h]; decide)]
 rfl
theorem Zqb {cur : List Int} {p : Int} {l : List Int} (hc : cur ≠ []) (hl : ∀ c cs, l = c :: cs → Zin c = false) : lexM cur p l = match lexM [] p l with
  | .error q => .error q
  | .ok r => .ok ((cur, p - cur.length) :: r) := by
 cases l with
 | nil => simp [lexM, hc]
 | cons c cs =>
  have := hl c cs rfl
  rw [Zot this, Zot this]
  generalize (if c = 44 then (match lexM [] (p + 1) cs with
    | .error q => .error q
    | .ok r => .ok (([44], p) :: r))
   else if c = 32 ∨ c = 9 then lexM [] (p + 1) cs else .error p : Except Int (List Wd)) = X
  cases X with
  | error q => rfl
  | ok r => simp [hc]
theorem ZtM {p c : Int} {cs : List Int} (h : Zin c = false) : lexM [] p (c :: cs) = if c = 44 then (match lexM [] (p + 1) cs with
    | .error q => .error q
    | .ok r => .ok (([44], p) :: r))
   else if c = 32 ∨ c = 9 then lexM [] (p + 1) cs else .error p := by
 rw [Zot h]
 generalize (if c = 44 then (match lexM [] (p + 1) cs with
    | .error q => .error q
    | .ok r => .ok (([44], p) :: r))
   else if c = 32 ∨ c = 9 then lexM [] (p + 1) cs else .error p : Except Int (List Wd)) = X
 cases X with
 | error q => rfl
 | ok r => simp
theorem ZlI : ∀ (l cur : List Int) (p q : Int), 0 ≤ p → lexM cur p l = .error q → p ≤ q
 | [], cur, p, q, hp, h => by simp [lexM] at h
 | c :: cs, cur, p, q, hp, h => by
  rw [lexM] at h
  split at h
  ·have := ZlI cs _ _ _ (by omega) h
   omega
  ·split at h
   ·rename_i q' hq
    have : q' = q := by cases h; rfl
    subst this
    split at hq
    ·split at hq
     ·rename_i q2 h2
      have := ZlI cs _ _ _ (by omega) h2
      cases hq
      omega
     ·cases hq
    ·split at hq
     ·have := ZlI cs _ _ _ (by omega) hq
      omega
     ·cases hq
      omega
   ·cases h
def ZnX (acc : List Wd) (X Y : Except Int (List Wd)) : Prop := X = match Y with
 | .error q => .error q
 | .ok r => .ok (acc ++ r)
section
variable {W w : World} {Hs : List HP}
def ZoN (W : World) (Hs : List HP) (X : Except Int (List Wd)) (r : Sl × Int) (w : World) : Prop := match X with
 | .ok ws => r.2 = -1 ∧ ∃ wl sp, wl.map wdOf = ws ∧ Ss W (vec cWd r.1 wl sp :: Hs) w
 | .error p => r.2 = p ∧ Ss W Hs w
theorem Zq4 (s : Ss W Hs w) (t : ByteArray) (ht : t.size ≤ 1024) : WP (ZaO t) w (ZoN W Hs (lexM [] 0 (strI t))) := by
 unfold ZaO
 have hl := ZbJ t
 have s := s.mk0 (A := vec cWd Sl.nil [] []) Zdo
 refine WP.loopG (γ := Nat × List ZaI × List ZaI) (fun g (z : Sl × Int) w => z.2 = (g.1 : Int) ∧ g.1 ≤ (strI t).length ∧ g.2.1.length ≤ g.1 ∧ ZnX (g.2.1.map wdOf) (lexM [] 0 (strI t)) (lexM [] g.1 ((strI t).drop g.1)) ∧ Ss W (vec cWd z.1 g.2.1 g.2.2 :: Hs) w) (fun g _ => (strI t).length - g.1) (0, [], []) ⟨rfl, by simp, by simp, ?_, s⟩ ?_
 ·unfold ZnX
  have e0 : ((0 : Nat) : Int) = 0 := rfl
  simp only [List.map_nil, List.nil_append, List.drop_zero, e0]
  cases lexM [] 0 (strI t) <;> rfl
 clear s
 rintro ⟨k, wl, sp⟩ ⟨a, _⟩ w ⟨rfl, hk, hlen, ha, s⟩
 simp only at hk hlen ha s
 show WP (ZaO.L1 t a (k : Int)) w _
 unfold ZaO.L1
 refine WP.ite (fun h => ?_) (fun h => ?_)
 rotate_left
 ·have : k = (strI t).length := by omega
  subst this
  rw [List.drop_length] at ha
  refine WP.done ?_
  unfold ZnX at ha
  simp only [lexM, if_true, List.append_nil] at ha
  unfold ZoN
  rw [ha]
  exact ⟨rfl, wl, sp, rfl, s⟩
 have hk1 : k < (strI t).length := by omega
 refine WP.loopG (γ := Nat) (fun q (z : Int) w => z = (q : Int) ∧ k ≤ q ∧ q ≤ (strI t).length ∧ lexM [] k ((strI t).drop k) = lexM (((strI t).drop k).take (q - k)) q ((strI t).drop q) ∧ Ss W (vec cWd a wl sp :: Hs) w) (fun q _ => (strI t).length - q) k ⟨rfl, Nat.le_refl _, hk, by simp, s⟩ ?_
 clear s
 rintro q _ w ⟨rfl, hq1, hq2, hq, s⟩
 show WP (ZaO.L2 t a (k : Int) (q : Int)) w _
 unfold ZaO.L2
 refine WP.step (R := fun y w' => y = decide (q < (strI t).length ∧ (strI t).getD q 0 > 32) ∧ w = w') (WP.ite (fun h => WP.chk ⟨by omega, h⟩ (WP.ret ⟨?_, rfl⟩)) (fun h => WP.ret ⟨(decide_eq_false (by omega)).symm, rfl⟩)) ?_
 ·rw [Zer]
  exact decide_eq_decide.2 ⟨fun h' => ⟨by omega, h'⟩, fun h' => h'.2⟩
 rintro _ _ ⟨rfl, rfl⟩
 refine WP.step (R := fun y w' => y = decide (q < (strI t).length ∧ (strI t).getD q 0 > 32 ∧ (strI t).getD q 0 < 127) ∧ w = w') (WP.ite (fun h => WP.chk ⟨by omega, by have := of_decide_eq_true h; omega⟩ (WP.ret ⟨?_, rfl⟩)) (fun h => WP.ret ⟨(decide_eq_false (fun h' => h (decide_eq_true ⟨h'.1, h'.2.1⟩))).symm, rfl⟩)) ?_
 ·rw [Zer]
  have := of_decide_eq_true h
  exact decide_eq_decide.2 ⟨fun h' => ⟨this.1, this.2, h'⟩, fun h' => h'.2.2⟩
 rintro _ _ ⟨rfl, rfl⟩
 refine WP.step (R := fun y w' => y = decide (q < (strI t).length ∧ Zin ((strI t).getD q 0) = true) ∧ w = w') (WP.ite (fun h => WP.chk ⟨by omega, by have := of_decide_eq_true h; omega⟩ (WP.ret ⟨?_, rfl⟩)) (fun h => WP.ret ⟨(decide_eq_false (fun h' => h (decide_eq_true ?_))).symm, rfl⟩)) ?_
 ·rw [Zer]
  have := of_decide_eq_true h
  unfold Zin
  rw [Bool.eq_iff_iff, bne_iff_ne]
  simp only [decide_eq_true_iff]
  exact ⟨fun h' => ⟨this.1, by omega, by omega, h'⟩, fun h' => h'.2.2.2⟩
 ·have := h'.2
  unfold Zin at this
  have := of_decide_eq_true this
  exact ⟨h'.1, by omega, by omega⟩
 rintro _ _ ⟨rfl, rfl⟩
 have hd : q < (strI t).length → (strI t).drop q = (strI t).getD q 0 :: (strI t).drop (q + 1) := fun h => by
  rw [List.drop_eq_getElem_cons h, List.getD, List.getElem?_eq_getElem h]
  rfl
 refine WP.ite (fun h => ?_) (fun h => ?_)
 ·obtain ⟨h1, h2⟩ := of_decide_eq_true h
  refine WP.next ⟨q + 1, ⟨?_, by omega, h1, ?_, s⟩, by omega⟩
  ·rw [Zah (by omega) (by omega)]
   omega
  ·rw [hq, hd h1, Zos h2]
   have e : ((strI t).drop k).take (q + 1 - k) = ((strI t).drop k).take (q - k) ++ [(strI t).getD q 0] := by
    rw [show q + 1 - k = (q - k) + 1 by omega, List.take_add_one, List.getElem?_drop, show k + (q - k) = q by omega, List.getD, List.getElem?_eq_getElem h1]
    rfl
   rw [e]
   rfl
 refine WP.step (R := WP.Rd (fun (z : Sl × Int) w => ∃ g : Nat × List ZaI × List ZaI, (z.2 = (g.1 : Int) ∧ g.1 ≤ (strI t).length ∧ g.2.1.length ≤ g.1 ∧ ZnX (g.2.1.map wdOf) (lexM [] 0 (strI t)) (lexM [] g.1 ((strI t).drop g.1)) ∧ Ss W (vec cWd z.1 g.2.1 g.2.2 :: Hs) w) ∧ (strI t).length - g.1 < (strI t).length - k) (ZoN W Hs (lexM [] 0 (strI t)))) ?_ (fun r w h => WP.done h)
 have hnb : ∀ c cs, (strI t).drop q = c :: cs → Zin c = false := fun c cs e => by
  have h1 : q < (strI t).length := Decidable.byContradiction fun hn => by
   rw [List.drop_of_length_le (by omega)] at e
   cases e
  rw [hd h1] at e
  cases e
  cases hb : Zin ((strI t).getD q 0) with
  | false => rfl
  | true => exact absurd (decide_eq_true ⟨h1, hb⟩) h
 have hx : ∀ {j : Nat}, k ≤ j → j ≤ (strI t).length → strI (ByteArray.extract t k j) = ((strI t).drop k).take (j - k) := fun h1 h2 => Zdc _ _ _
 unfold ZaO.K1
 refine WP.chk ⟨by omega, by omega⟩ (WP.ite (fun h2 => ?_) (fun h2 => ?_))
 ·refine WP.chk ⟨by omega, by omega, by omega⟩ (WP.slot' s (fun _ w s => WP.appl s 0 rfl (by simp only [List.length_singleton]; omega) (by decide) (fun a' w sp' s => ?_)))
  have hcur : ((strI t).drop k).take (q - k) ≠ [] := fun e => by
   have := congrArg List.length e
   simp at this
   omega
  refine WP.next ⟨(q, _, sp'), ⟨rfl, hq2, ?_, ?_, s⟩, by simp only; omega⟩
  ·simp only [List.length_append, List.length_singleton]
   omega
  ·unfold ZnX at ha ⊢
   rw [ha, hq, Zqb hcur hnb]
   have el : ((((strI t).drop k).take (q - k)).length : Int) = q - k := by
    rw [List.length_take, List.length_drop]
    omega
   cases lexM [] (q : Int) ((strI t).drop q) with
   | error p => rfl
   | ok r =>
    simp only [List.map_append, List.map_cons, List.map_nil, List.append_assoc, List.cons_append, List.nil_append, wdOf, Int.toNat_natCast]
    rw [hx hq1 hq2, el]
    simp only [Except.ok.injEq, List.append_cancel_left_eq, List.cons.injEq, Prod.mk.injEq, true_and, and_true]
    omega
 have hqk : q = k := by omega
 subst hqk
 have hc := hnb _ _ (hd hk1)
 have ha' := ha
 rw [hd hk1, ZtM hc] at ha'
 refine WP.ite (fun h3 => ?_) (fun h3 => ?_)
 ·rw [Zer] at h3
  rw [if_pos h3] at ha'
  have hw : IntKind.wrap .i64 ((q : Int) + 1) = ((q + 1 : Nat) : Int) := by
   rw [Zah (by omega) (by omega)]
   omega
  rw [hw]
  refine WP.chk ⟨by omega, by omega, by omega⟩ (WP.slot' s (fun _ w s => WP.appl s 0 rfl (by simp only [List.length_singleton]; omega) (by decide) (fun a' w sp' s => ?_)))
  refine WP.next ⟨(q + 1, _, sp'), ⟨rfl, by simp only; omega, ?_, ?_, s⟩, by simp only; omega⟩
  ·simp only [List.length_append, List.length_singleton]
   omega
  ·unfold ZnX at ha' ⊢
   rw [ha']
   have e : ((q + 1 : Nat) : Int) = (q : Int) + 1 := by omega
   simp only [e]
   have e2 : strI (ByteArray.extract t q (q + 1)) = [44] := by
    rw [hx (by omega) (by omega), show q + 1 - q = 0 + 1 by omega, hd hk1, h3]
    rfl
   cases lexM [] ((q : Int) + 1) ((strI t).drop (q + 1)) with
   | error p => rfl
   | ok r =>
    simp only [List.map_append, List.map_cons, List.map_nil, List.append_assoc, List.cons_append, List.nil_append, wdOf, Int.toNat_natCast]
    rw [show ((q : Int) + 1).toNat = q + 1 by omega, e2]
 ·rw [Zer] at h3
  rw [if_neg h3] at ha'
  refine WP.step (R := fun y w' => y = decide ((strI t).getD q 0 = 32 ∨ (strI t).getD q 0 = 9) ∧ w = w') (WP.ite (fun h4 => WP.ret ⟨?_, rfl⟩) (fun h4 => WP.ret ⟨?_, rfl⟩)) ?_
  ·rw [Zer] at h4
   exact (decide_eq_true (.inl h4)).symm
  ·rw [Zer] at h4 ⊢
   rw [Bool.eq_iff_iff, beq_iff_eq, decide_eq_true_iff]
   exact ⟨fun h => .inr h, fun h => h.elim (fun h => absurd h h4) id⟩
  rintro _ _ ⟨rfl, rfl⟩
  refine WP.ite (fun h4 => ?_) (fun h4 => ?_)
  ·rw [if_pos (of_decide_eq_true h4)] at ha'
   refine WP.next ⟨(q + 1, wl, sp), ⟨?_, by simp only; omega, by simp only; omega, ?_, s⟩, by simp only; omega⟩
   ·simp only
    rw [Zah (by omega) (by omega)]
    omega
   ·have e : ((q + 1 : Nat) : Int) = (q : Int) + 1 := by omega
    simp only [e]
    exact ha'
  ·rw [if_neg (fun h => h4 (decide_eq_true h))] at ha'
   refine WP.done ?_
   unfold ZnX at ha'
   simp only at ha'
   unfold ZoN
   rw [ha']
   exact ⟨rfl, s.drop⟩
theorem Zi0 (t : ByteArray) (lo hi : Int) : WP (Zbc t lo hi) w (fun r w' => r.2 = (numR (strI t) lo hi).isSome ∧ (∀ v, numR (strI t) lo hi = some v → r.1 = v) ∧ w = w') := by
 unfold Zbc
 have hl := ZbJ t
 refine WP.step (R := fun y w' => y = decide (strI t = [] ∨ (strI t).length > 9) ∧ w = w') (WP.ite (fun h => WP.ret ⟨?_, rfl⟩) (fun h => WP.ret ⟨?_, rfl⟩)) ?_
 ·rw [ZbX] at h
  exact (decide_eq_true (.inl h)).symm
 ·rw [ZbX] at h
  exact decide_eq_decide.2 ⟨fun h' => .inr (by omega), fun h' => h'.elim (fun h' => absurd h' h) (fun h' => by omega)⟩
 rintro _ _ ⟨rfl, rfl⟩
 have h0 : ¬ (strI t = [] ∨ (strI t).length > 9) → 0 < (strI t).length := fun h => by
  cases e : strI t with
  | nil => exact absurd (.inl e) h
  | cons a l => simp
 refine WP.step (R := fun y w' => y = decide (strI t = [] ∨ (strI t).length > 9 ∨ ((strI t).getD 0 0 = 48 ∧ (strI t).length > 1)) ∧ w = w') (WP.ite (fun h => WP.ret ⟨?_, rfl⟩) (fun h => WP.chk ⟨by omega, ?_⟩ ?_)) ?_
 ·have := of_decide_eq_true h
  exact (decide_eq_true (this.elim .inl (fun h => .inr (.inl h)))).symm
 ·have := h0 (fun h' => h (decide_eq_true h'))
  omega
 ·have hn : ¬ (strI t = [] ∨ (strI t).length > 9) := fun h' => h (decide_eq_true h')
  have hs0 : sb t 0 = (strI t).getD 0 0 := Zer (i := 0)
  rw [hs0]
  refine WP.step (R := fun y w' => y = decide ((strI t).getD 0 0 = 48 ∧ (strI t).length > 1) ∧ w = w') (WP.ite (fun h2 => WP.ret ⟨decide_eq_decide.2 ⟨fun h' => ⟨h2, by omega⟩, fun h' => by omega⟩, rfl⟩) (fun h2 => WP.ret ⟨(decide_eq_false (fun h' => h2 h'.1)).symm, rfl⟩)) ?_
  rintro _ _ ⟨rfl, rfl⟩
  exact WP.ret ⟨decide_eq_decide.2 ⟨fun h' => .inr (.inr h'), fun h' => by
   rcases h' with h' | h' | h'
   ·exact absurd (.inl h') hn
   ·exact absurd (.inr h') hn
   ·exact h'⟩, rfl⟩
 rintro _ _ ⟨rfl, rfl⟩
 refine WP.ite (fun h => WP.ret ?_) (fun h => ?_)
 ·have h' := of_decide_eq_true h
  have e : numR (strI t) lo hi = none := by
   unfold numR
   rw [if_pos (by rcases h' with h' | h' | h'; exact .inl h'; exact .inr (.inl h'); exact .inr (.inr (.inl h')))]
  rw [e]
  exact ⟨rfl, (fun v hv => by cases hv), rfl⟩
 have hn : ¬ (strI t = [] ∨ (strI t).length > 9 ∨ ((strI t).getD 0 0 = 48 ∧ (strI t).length > 1)) := fun h' => h (decide_eq_true h')
 have h9 : (strI t).length ≤ 9 := Decidable.byContradiction fun h' => hn (.inr (.inl (by omega)))
 refine WP.loopG (γ := Nat) (fun k (z : Int × Int) w' => z = ((valD ((strI t).take k) : Int), (k : Int)) ∧ k ≤ (strI t).length ∧ (∀ c ∈ (strI t).take k, Zew c = true) ∧ w = w') (fun k _ => (strI t).length - k) 0 ⟨rfl, Nat.zero_le _, by simp, rfl⟩ ?_
 rintro k _ _ ⟨rfl, hk, hd, rfl⟩
 show WP (Zbc.L1 t lo hi (valD ((strI t).take k) : Int) (k : Int)) w _
 unfold Zbc.L1
 have hb : ∀ j, 0 ≤ (strI t).getD j 0 ∧ (strI t).getD j 0 ≤ 255 := fun j => by
  have := ZhV t j
  rw [Zer] at this
  exact this
 have hv := Zpx 9 ((strI t).take k) (by rw [List.length_take]; omega) hd
 refine WP.ite (fun h1 => ?_) (fun h1 => ?_)
 ·have hk1 : k < (strI t).length := by omega
  refine WP.chk ⟨by omega, h1⟩ ?_
  rw [Zer]
  have ht : (strI t).take (k + 1) = (strI t).take k ++ [(strI t).getD k 0] := by
   rw [List.take_add_one, List.getD, List.getElem?_eq_getElem hk1]
   rfl
  refine WP.step (R := fun y w' => y = !Zew ((strI t).getD k 0) ∧ w = w') (WP.ite (fun h2 => WP.ret ⟨?_, rfl⟩) (fun h2 => WP.chk ⟨by omega, h1⟩ (WP.ret ⟨?_, rfl⟩))) ?_
  ·unfold Zew
   rw [decide_eq_false (by omega)]
   rfl
  ·unfold Zew
   rw [Bool.eq_iff_iff, Bool.not_eq_true', decide_eq_true_iff, decide_eq_false_iff_not]
   omega
  rintro _ _ ⟨rfl, rfl⟩
  refine WP.ite (fun h2 => WP.done ?_) (fun h2 => WP.chk ⟨by omega, h1⟩ (WP.next ⟨k + 1, ⟨?_, hk1, ?_, rfl⟩, by omega⟩))
  ·have e : numR (strI t) lo hi = none := by
    unfold numR
    rw [if_pos]
    refine .inr (.inr (.inr ?_))
    rw [← Bool.not_eq_true, List.all_eq_true]
    intro hall
    have := hall ((strI t).getD k 0) (by rw [List.getD, List.getElem?_eq_getElem hk1]; exact List.getElem_mem hk1)
    rw [this] at h2
    cases h2
   rw [e]
   exact ⟨rfl, (fun v hv => by cases hv), rfl⟩
  ·have hdg : 48 ≤ (strI t).getD k 0 ∧ (strI t).getD k 0 ≤ 57 := by
    have : Zew ((strI t).getD k 0) = true := by simpa using h2
    exact of_decide_eq_true this
   rw [ht, Zjz, ZdU (by omega) (by omega), Zah (n := 10 * (valD ((strI t).take k) : Int)) (by omega) (by omega), Zah (n := (strI t).getD k 0 - 48) (by omega) (by omega), Zah (by omega) (by omega), Zah (by omega) (by omega)]
   refine Prod.ext ?_ ?_
   ·simp only
    omega
   ·simp only
    omega
  ·intro c hc
   rw [ht] at hc
   rcases List.mem_append.1 hc with hc | hc
   ·exact hd c hc
   ·rw [List.mem_singleton.1 hc]
    simpa using h2
 ·have : k = (strI t).length := by omega
  subst this
  rw [List.take_length] at hd ⊢
  have e : numR (strI t) lo hi = if lo ≤ (valD (strI t) : Int) ∧ (valD (strI t) : Int) ≤ hi then some (valD (strI t) : Int) else none := by
   unfold numR
   rw [if_neg]
   rintro (h' | h' | h' | h')
   ·exact hn (.inl h')
   ·exact hn (.inr (.inl h'))
   ·exact hn (.inr (.inr h'))
   ·rw [← Bool.not_eq_true, List.all_eq_true] at h'
    exact h' hd
  refine WP.step (R := fun y w' => y = decide (lo ≤ (valD (strI t) : Int) ∧ (valD (strI t) : Int) ≤ hi) ∧ w = w') ?_ ?_
  ·unfold ZbL
   refine WP.step (R := fun y w' => y = decide (lo ≤ (valD (strI t) : Int) ∧ (valD (strI t) : Int) ≤ hi) ∧ w = w') (WP.ite (fun h2 => WP.ret ⟨decide_eq_decide.2 ⟨fun h' => ⟨h2, h'⟩, fun h' => h'.2⟩, rfl⟩) (fun h2 => WP.ret ⟨(decide_eq_false (fun h' => h2 h'.1)).symm, rfl⟩)) (fun y w h => WP.ret h)
  rintro _ _ ⟨rfl, rfl⟩
  refine WP.done ?_
  rw [e]
  by_cases hh : lo ≤ (valD (strI t) : Int) ∧ (valD (strI t) : Int) ≤ hi
  ·rw [if_pos hh]
   exact ⟨decide_eq_true hh, (fun v hv => by cases hv; rfl), rfl⟩
  ·rw [if_neg hh]
   exact ⟨decide_eq_false hh, (fun v hv => by cases hv), rfl⟩
end
end Go.Proofs.YtpmhinidiplhiaaGreatDoor.Lx
