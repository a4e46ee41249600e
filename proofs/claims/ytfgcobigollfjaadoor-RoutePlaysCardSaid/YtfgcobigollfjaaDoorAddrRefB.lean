
import Derived.Test.YtfgcobigollfjaaDoorAddrRefA
import Derived.Test.YtfgcobigollfjaaDoorAddrErr
set_option linter.unusedVariables false
set_option linter.unusedSimpArgs false
namespace Go.Proofs.YtfgcobigollfjaaDoor.Lx
open Go Go.Proofs Go.RowKit
def decM (l : List Int) (p q : Nat) (most : Int) : Int := if q - p > 3 ∨ (q - p > 1 ∧ l.getD p 0 = 48) then -1 else if (valD ((l.drop p).take (q - p)) : Int) > most then -1 else (valD ((l.drop p).take (q - p)) : Int)
theorem ZjE (l : List Int) (i : Nat) (most wrong : Int) : numM l i most wrong = if runE Zdl l i = i then .error (Zhe l i) else if decM l i (runE Zdl l i) most < 0 then .error (wrong, i) else .ok ((decM l i (runE Zdl l i) most).toNat, runE Zdl l i) := by
 unfold numM decM
 split
 ·rfl
 ·split
  ·rw [if_pos (show (-1 : Int) < 0 by decide)]
  ·split
   ·rw [if_pos (show (-1 : Int) < 0 by decide)]
   ·rw [if_neg (by omega), Int.toNat_natCast]
theorem Zls {l : List Int} {p : Nat} : ZeU l p ↔ p + 1 < l.length ∧ l.getD p 0 = 58 ∧ l.getD (p + 1) 0 = 58 := by
 unfold ZeU
 have g : ∀ k, (l.drop p)[k]? = l[p + k]? := fun k => by rw [List.getElem?_drop]
 have hl : (l.drop p).length = l.length - p := List.length_drop
 constructor
 ·intro h
  have h2 : 2 ≤ (l.drop p).length := by
   have := congrArg List.length h
   rw [List.length_take] at this
   simp only [List.length_cons, List.length_nil] at this
   omega
  have e0 := congrArg (fun x => x[0]?) h
  have e1 := congrArg (fun x => x[1]?) h
  simp only [List.getElem?_take, g, List.getElem?_cons_zero, List.getElem?_cons_succ] at e0 e1
  rw [if_pos (by omega)] at e0 e1
  refine ⟨by omega, ?_, ?_⟩
  ·rw [List.getD, show p = p + 0 from rfl, e0]
   rfl
  ·rw [List.getD, e1]
   rfl
 ·rintro ⟨h1, h2, h3⟩
  rw [List.getD, List.getElem?_eq_getElem (by omega)] at h2 h3
  rw [List.drop_eq_getElem_cons (by omega), List.drop_eq_getElem_cons (by omega), List.take_succ_cons, List.take_succ_cons, List.take_zero]
  have h2 : l[p] = 58 := h2
  have h3 : l[p + 1] = 58 := h3
  rw [h2, h3]
section
variable {W w : World} {Hs : List HP}
theorem ZgG (c : Int) : WP (Zb1 c) w (fun r w' => r = Zdl c ∧ w = w') := by
 unfold Zb1
 refine WP.step (R := fun y w' => y = Zdl c ∧ w = w') (WP.ite (fun h => WP.ret ⟨?_, rfl⟩) (fun h => WP.ret ⟨?_, rfl⟩)) (fun r w h => WP.ret h)
 ·exact decide_eq_decide.2 ⟨fun h' => ⟨h, h'⟩, And.right⟩
 ·exact (decide_eq_false fun h' => h h'.1).symm
theorem Zjr (c : Int) (h : 0 ≤ c ∧ c ≤ 255) : WP (Zcb c) w (fun r w' => r = hexV c ∧ w = w') := by
 unfold Zcb
 refine WP.step (ZgG c) ?_
 rintro _ _ ⟨rfl, rfl⟩
 refine WP.ite (fun h1 => WP.ret ⟨?_, rfl⟩) (fun h1 => ?_)
 ·have h1 := of_decide_eq_true h1
  rw [Zfg (by omega) (by omega), ZaP (by omega) (by omega)]
  unfold hexV
  rw [if_pos h1]
 have h1 : ¬ (48 ≤ c ∧ c ≤ 57) := fun h' => h1 (decide_eq_true h')
 refine WP.step (R := fun y w' => y = decide (97 ≤ c ∧ c ≤ 102) ∧ w = w') (WP.ite (fun h => WP.ret ⟨decide_eq_decide.2 ⟨fun h' => ⟨h, h'⟩, And.right⟩, rfl⟩) (fun h => WP.ret ⟨(decide_eq_false fun h' => h h'.1).symm, rfl⟩)) ?_
 rintro _ _ ⟨rfl, rfl⟩
 refine WP.ite (fun h2 => WP.ret ⟨?_, rfl⟩) (fun h2 => ?_)
 ·have h2 := of_decide_eq_true h2
  rw [Zfg (by omega) (by omega), ZaP (n := c - 97) (by omega) (by omega), ZaP (by omega) (by omega)]
  unfold hexV
  rw [if_neg h1, if_pos h2]
  omega
 have h2 : ¬ (97 ≤ c ∧ c ≤ 102) := fun h' => h2 (decide_eq_true h')
 refine WP.step (R := fun y w' => y = decide (65 ≤ c ∧ c ≤ 70) ∧ w = w') (WP.ite (fun h => WP.ret ⟨decide_eq_decide.2 ⟨fun h' => ⟨h, h'⟩, And.right⟩, rfl⟩) (fun h => WP.ret ⟨(decide_eq_false fun h' => h h'.1).symm, rfl⟩)) ?_
 rintro _ _ ⟨rfl, rfl⟩
 refine WP.ite (fun h3 => WP.ret ⟨?_, rfl⟩) (fun h3 => WP.ret ⟨?_, rfl⟩)
 ·have h3 := of_decide_eq_true h3
  rw [Zfg (by omega) (by omega), ZaP (n := c - 65) (by omega) (by omega), ZaP (by omega) (by omega)]
  unfold hexV
  rw [if_neg h1, if_neg h2, if_pos h3]
  omega
 ·have h3 : ¬ (65 ≤ c ∧ c ≤ 70) := fun h' => h3 (decide_eq_true h')
  unfold hexV
  rw [if_neg h1, if_neg h2, if_neg h3]
theorem ZhX (t : ByteArray) (p : Nat) (hp : p ≤ t.size) : WP (Zb0 t (p : Int)) w (fun r w' => r = ((Zhe (strI t) p).1, ((Zhe (strI t) p).2 : Int)) ∧ w = w') := by
 have hl := Zdb t
 unfold Zb0 Zhe
 refine WP.ite (fun h => WP.ret ⟨?_, rfl⟩) (fun h => WP.ret ⟨?_, rfl⟩)
 ·rw [if_pos (by omega), show p = t.size by omega]
 ·rw [if_neg (by omega)]
theorem Zmt (t : ByteArray) (k : Nat) : 0 ≤ sb t (k : Int) ∧ sb t (k : Int) ≤ 255 := by
 rw [Zd3]
 exact ZiD (Byt.strI t) k
theorem ZhA (s : Ss W Hs w) (t : ByteArray) (ht : t.size ≤ 1000) {p q : Nat} (hpq : p ≤ q) (hq : q ≤ t.size) (most : Int) (hd : ∀ k, p ≤ k → k < q → Zdl ((strI t).getD k 0) = true) : WP (ZaX t (p : Int) (q : Int) most) w (fun r w' => r = decM (strI t) p q most ∧ Ss W Hs w') := by
 have hl := Zdb t
 unfold ZaX
 have ew : IntKind.wrap .i64 ((q : Int) - (p : Int)) = ((q - p : Nat) : Int) := by
  rw [ZaP (by omega) (by omega)]
  omega
 rw [ew]
 refine WP.step (R := fun y w' => y = decide (q - p > 3 ∨ (q - p > 1 ∧ (strI t).getD p 0 = 48)) ∧ w = w') (WP.ite (fun h => WP.ret ⟨?_, rfl⟩) (fun h => ?_)) ?_
 ·exact (decide_eq_true (.inl (by omega))).symm
 ·refine WP.step (R := fun y w' => y = decide (q - p > 3 ∨ (q - p > 1 ∧ (strI t).getD p 0 = 48)) ∧ w = w') (WP.ite (fun h1 => WP.chk ⟨by omega, by omega⟩ (WP.ret ⟨?_, rfl⟩)) (fun h1 => WP.ret ⟨?_, rfl⟩)) (fun r w h => WP.ret h)
  ·rw [Zd3, Bool.eq_iff_iff, decide_eq_true_iff, beq_iff_eq]
   exact ⟨fun h' => .inr ⟨by omega, h'⟩, fun h' => h'.resolve_left (by omega) |>.2⟩
  ·exact (decide_eq_false fun h' => by omega).symm
 rintro _ _ ⟨rfl, rfl⟩
 refine WP.ite (fun h => WP.ret ⟨?_, s⟩) (fun h => ?_)
 ·unfold decM
  rw [if_pos (of_decide_eq_true h)]
 have h3 : ¬ (q - p > 3 ∨ (q - p > 1 ∧ (strI t).getD p 0 = 48)) := fun h' => h (decide_eq_true h')
 have hdig : ∀ n, ∀ c ∈ ((strI t).drop p).take n, n ≤ q - p → Zdl c = true := by
  intro n c hc hn
  obtain ⟨j, hj, rfl⟩ := List.mem_iff_getElem.1 hc
  rw [List.length_take, List.length_drop] at hj
  rw [List.getElem_take, List.getElem_drop]
  have := hd (p + j) (by omega) (by omega)
  rw [List.getD, List.getElem?_eq_getElem (by omega)] at this
  exact this
 refine WP.loopG (γ := Nat) (fun j (x : Int × Int) w => x = ((valD (((strI t).drop p).take (j - p)) : Int), (j : Int)) ∧ p ≤ j ∧ j ≤ q ∧ Ss W Hs w) (fun j _ => q - j) p ⟨by simp [valD], Nat.le_refl _, hpq, s⟩ ?_
 clear s
 rintro j _ w ⟨rfl, j1, j2, s⟩
 show WP (ZaX.L1 t (q : Int) most (valD (((strI t).drop p).take (j - p)) : Int) (j : Int)) w _
 unfold ZaX.L1
 have hlt := ZmH 3 (((strI t).drop p).take (j - p)) (by rw [List.length_take]; omega) (fun c hc => hdig (j - p) c hc (by omega))
 refine WP.ite (fun h => WP.chk ⟨by omega, by omega⟩ (WP.next ⟨j + 1, ⟨?_, by omega, by omega, s⟩, by omega⟩)) (fun h => ?_)
 ·have hd1 := hd j j1 (by omega)
  have htk : ((strI t).drop p).take (j + 1 - p) = ((strI t).drop p).take (j - p) ++ [(strI t).getD j 0] := by
   rw [show j + 1 - p = (j - p) + 1 by omega, List.take_add_one, List.getElem?_drop, show p + (j - p) = j by omega, List.getD, List.getElem?_eq_getElem (by omega)]
   rfl
  rw [Zd3, htk, Zia]
  unfold Zdl at hd1
  have hd1 := of_decide_eq_true hd1
  generalize (strI t).getD j 0 = c at hd1
  rw [Zfg (by omega) (by omega), ZaP (n := c - 48) (by omega) (by omega), ZaP (n := 10 * _) (by omega) (by omega), ZaP (n := 10 * _ + _) (by omega) (by omega), ZaP (n := (j : Int) + 1) (by omega) (by omega)]
  refine Prod.ext ?_ ?_
  ·simp only
   omega
  ·simp
 ·have hj : j = q := by omega
  subst hj
  unfold decM
  rw [if_neg h3]
  refine WP.ite (fun h => WP.done ⟨by rw [if_pos h], s⟩) (fun h => WP.done ⟨by rw [if_neg h], s⟩)
def goF (l : List Int) (p : Nat) (acc : List Nat) : Except Flt (List Nat × Nat) := if acc.length ≥ 4 then .ok (acc, p) else match numM l p 255 43 with
 | .error f => .error f
 | .ok (n, e) => Zg4 l (3 - acc.length) e (acc ++ [n])
theorem Zl6 {l : List Int} {e : Nat} {acc : List Nat} (ha : acc.length < 4) (h0 : acc ≠ []) : Zg4 l (4 - acc.length) e acc = if e = l.length ∨ l.getD e 0 ≠ 46 then .error (Zhe l e) else goF l (e + 1) acc := by
 obtain ⟨k, hk⟩ : ∃ k, 4 - acc.length = k + 1 := ⟨3 - acc.length, by omega⟩
 have he : acc.isEmpty = false := by cases acc with | nil => exact absurd rfl h0 | cons => rfl
 rw [hk]
 unfold Zg4 sepM
 rw [he, if_neg (by decide)]
 by_cases h : e = l.length ∨ l.getD e 0 ≠ 46
 ·rw [if_pos h, if_pos h]
 ·rw [if_neg h, if_neg h]
  unfold goF
  rw [if_neg (by omega), show 3 - acc.length = k by omega]
  rfl
def finF (l : List Int) : Except Flt (List Nat × Nat) → Except Flt (List Nat)
 | .error f => .error f
 | .ok (a, e) => if e < l.length then .error (41, e) else .ok a
theorem Zld (l : List Int) (i : Nat) : Ze8 l i = finF l (goF l i []) := rfl
def ZnO (W : World) (Hs : List HP) (x : Except Flt (List Nat)) (r : Sl × Int × Int) (w : World) : Prop :=
 match x with
 | .ok a => r.2 = (0, 0) ∧ ∃ sp, Ss W (vec (cI .u8) r.1 (a.map (fun n : Nat => (n : Int))) sp :: Hs) w
 | .error f => r.2 = (f.1, (f.2 : Int)) ∧ Ss W Hs w
theorem Zhk (s : Ss W Hs w) (t : ByteArray) (ht : t.size ≤ 1000) (i : Nat) (hi : i ≤ t.size) : WP (Zay t (i : Int)) w (ZnO W Hs (Ze8 (strI t) i)) := by
 have hl := Zdb t
 unfold Zay
 obtain ⟨X, hX⟩ : ∃ X, goF (strI t) i [] = X := ⟨_, rfl⟩
 rw [Zld, hX]
 refine WP.loopG (γ := Nat × List Nat) (fun g (x : Int × Sl) w => x.1 = (g.1 : Int) ∧ g.1 ≤ t.size ∧ g.2.length ≤ 4 ∧ (∀ n ∈ g.2, n ≤ 255) ∧ goF (strI t) g.1 g.2 = X ∧ ∃ sp, Ss W (vec (cI .u8) x.2 (g.2.map (fun n : Nat => (n : Int))) sp :: Hs) w) (fun g _ => 4 - g.2.length) (i, []) ⟨rfl, hi, by simp, by simp, hX, [], s.mk0 (A := vec (cI .u8) Sl.nil [] []) Zed⟩ ?_
 clear s hX
 rintro ⟨p, acc⟩ ⟨_, sl⟩ w ⟨rfl, hp, ha, hn, hX, sp, s⟩
 simp only at hp ha hn hX s
 have hal := (s.vec_len (i := 0) rfl).1
 rw [List.length_map] at hal
 show WP (Zay.L1 t (p : Int) sl) w _
 unfold Zay.L1
 refine WP.ite (fun h4 => ?_) (fun h4 => ?_)
 ·have h4 : acc.length < 4 := by omega
  obtain ⟨r1, r2⟩ := ZfZ (p := Zdl) (l := strI t) (i := p) (by omega)
  refine WP.loopG (γ := Nat) (fun k (x : Int) w => x = (k : Int) ∧ p ≤ k ∧ k ≤ runE Zdl (strI t) p ∧ Ss W (vec (cI .u8) sl (acc.map (fun n : Nat => (n : Int))) sp :: Hs) w) (fun k _ => t.size - k) p ⟨rfl, Nat.le_refl _, r1, s⟩ ?_
  clear s
  rintro k _ w ⟨rfl, k1, k2, s⟩
  show WP (Zay.L2 t (p : Int) sl (k : Int)) w _
  unfold Zay.L2
  have hgo := Zf0 k1 k2
  rw [hl] at hgo
  refine WP.step (R := fun y w' => y = decide (k < runE Zdl (strI t) p) ∧ w = w') (WP.ite (fun h => WP.chk ⟨by omega, by omega⟩ (WP.step (ZgG _) ?_)) (fun h => WP.ret ⟨?_, rfl⟩)) ?_
  ·rintro _ _ ⟨rfl, rfl⟩
   refine WP.ret ⟨?_, rfl⟩
   rw [Zd3, Bool.eq_iff_iff, decide_eq_true_iff, ← hgo]
   exact ⟨fun h' => ⟨by omega, h'⟩, fun h' => h'.2⟩
  ·refine (decide_eq_false fun h' => ?_).symm
   have := hgo.2 h'
   omega
  rintro _ _ ⟨rfl, rfl⟩
  refine WP.ite (fun h => WP.next ⟨k + 1, ⟨?_, by omega, by have := of_decide_eq_true h; omega, s⟩, by have := of_decide_eq_true h; omega⟩) (fun h => ?_)
  ·rw [ZaP (by omega) (by omega)]
   simp
  have hk : k = runE Zdl (strI t) p := by
   have : ¬ k < runE Zdl (strI t) p := fun h' => h (decide_eq_true h')
   omega
  have hdig : ∀ j, p ≤ j → j < k → Zdl ((strI t).getD j 0) = true := fun j j1 j2 => ZfB j1 (by omega)
  have hnm := ZjE (strI t) p 255 43
  rw [← hk] at hnm
  unfold goF at hX
  rw [if_neg (by omega), hnm] at hX
  unfold Zay.K1
  refine WP.step (R := fun q w' => WP.Rd (fun (x : Int × Sl) w => ∃ g' : Nat × List Nat, (x.1 = (g'.1 : Int) ∧ g'.1 ≤ t.size ∧ g'.2.length ≤ 4 ∧ (∀ n ∈ g'.2, n ≤ 255) ∧ goF (strI t) g'.1 g'.2 = X ∧ ∃ sp, Ss W (vec (cI .u8) x.2 (g'.2.map (fun n : Nat => (n : Int))) sp :: Hs) w) ∧ 4 - g'.2.length < 4 - acc.length) (ZnO W Hs (finF (strI t) X)) q w') ?_ (fun q w h => WP.done h)
  refine WP.ite (fun h => WP.step (ZhX t p hp) ?_) (fun h => ?_)
  ·rintro _ _ ⟨rfl, rfl⟩
   rw [if_pos (by omega)] at hX
   rw [← hX]
   exact WP.done ⟨rfl, s.drop⟩
  rw [if_neg (by omega)] at hX
  refine WP.step (ZhA s t ht k1 (by omega) 255 hdig) ?_
  rintro _ w ⟨rfl, s⟩
  refine WP.ite (fun h => ?_) (fun h => ?_)
  ·rw [if_pos h] at hX
   rw [← hX]
   exact WP.done ⟨rfl, s.drop⟩
  rw [if_neg h] at hX
  obtain ⟨n, hn0⟩ : ∃ n : Nat, decM (strI t) p k 255 = (n : Int) := ⟨(decM (strI t) p k 255).toNat, by omega⟩
  have hn255 : n ≤ 255 := by
   have : decM (strI t) p k 255 ≤ 255 := by
    unfold decM
    split
    ·omega
    ·split <;> omega
   omega
  rw [hn0] at hX ⊢
  simp only [Int.toNat_natCast] at hX
  rw [Zfg (by omega) (by omega)]
  refine WP.slot' s (fun _ w s => WP.appl s 0 rfl (by simp only [List.length_map, List.length_cons, List.length_nil]; omega) (by decide) (fun r w sp' s => ?_))
  have s : Ss W (vec (cI .u8) r (acc.map (fun n : Nat => (n : Int)) ++ [(n : Int)]) sp' :: Hs) w := s
  have em : acc.map (fun n : Nat => (n : Int)) ++ [(n : Int)] = (acc ++ [n]).map (fun n : Nat => (n : Int)) := by simp
  rw [em] at s
  have hrl := (s.vec_len (i := 0) rfl).1
  simp only [List.length_map, List.length_append, List.length_cons, List.length_nil] at hrl
  have hn' : ∀ x ∈ acc ++ [n], x ≤ 255 := by
   intro x hx
   rcases List.mem_append.1 hx with hx | hx
   ·exact hn x hx
   ·rw [List.mem_singleton] at hx
    omega
  refine WP.ite (fun h1 => ?_) (fun h1 => ?_)
  ·have hnx := Zl6 (l := strI t) (e := k) (acc := acc ++ [n]) (by simp only [List.length_append, List.length_cons, List.length_nil]; omega) (by simp)
   rw [show 4 - (acc ++ [n]).length = 3 - acc.length by simp only [List.length_append, List.length_cons, List.length_nil]; omega] at hnx
   rw [hnx] at hX
   refine WP.step (R := fun y w' => y = decide (k = (strI t).length ∨ (strI t).getD k 0 ≠ 46) ∧ w = w') (WP.ite (fun h => WP.ret ⟨(decide_eq_true (.inl (by omega))).symm, rfl⟩) (fun h => WP.chk ⟨by omega, by omega⟩ (WP.ret ⟨?_, rfl⟩))) ?_
   ·rw [Zd3, Bool.eq_iff_iff, decide_eq_true_iff, bne_iff_ne]
    exact ⟨fun h' => .inr h', fun h' => h'.resolve_left (by omega)⟩
   rintro _ _ ⟨rfl, rfl⟩
   refine WP.ite (fun h => WP.step (ZhX t k (by omega)) ?_) (fun h => ?_)
   ·rintro _ _ ⟨rfl, rfl⟩
    rw [if_pos (of_decide_eq_true h)] at hX
    rw [← hX]
    exact WP.done ⟨rfl, s.drop⟩
   ·have h : ¬ (k = (strI t).length ∨ (strI t).getD k 0 ≠ 46) := fun h' => h (decide_eq_true h')
    rw [if_neg h] at hX
    rw [ZaP (by omega) (by omega)]
    have hk2 : k < t.size := by omega
    exact WP.next ⟨(k + 1, acc ++ [n]), ⟨by simp, by simp only; omega, by simp only [List.length_append, List.length_cons, List.length_nil]; omega, hn', hX, sp', s⟩, by simp only [List.length_append, List.length_cons, List.length_nil]; omega⟩
  ·have h3 : acc.length = 3 := by omega
   rw [show 3 - acc.length = 0 by omega] at hX
   refine WP.next ⟨(k, acc ++ [n]), ⟨rfl, by simp only; omega, by simp only [List.length_append, List.length_cons, List.length_nil]; omega, hn', ?_, sp', s⟩, by simp only [List.length_append, List.length_cons, List.length_nil]; omega⟩
   unfold goF
   rw [if_pos (by simp only [List.length_append, List.length_cons, List.length_nil]; omega)]
   exact hX
 ·unfold goF at hX
  rw [if_pos (by omega)] at hX
  rw [← hX]
  refine WP.ite (fun h => WP.done ?_) (fun h => WP.done ?_)
  ·rw [show finF (strI t) (.ok (acc, p)) = .error (41, p) from if_pos (by omega)]
   exact ⟨rfl, s.drop⟩
  ·rw [show finF (strI t) (.ok (acc, p)) = .ok acc from if_neg (by omega)]
   exact ⟨rfl, sp, s⟩
theorem Zms (t : ByteArray) (ht : t.size ≤ 1000) (p : Nat) (hp : p ≤ t.size) : WP (ZcD t (p : Int)) w (fun r w' => r = decide (ZeU (strI t) p) ∧ w = w') := by
 have hl := Zdb t
 unfold ZcD
 rw [show IntKind.wrap .i64 ((p : Int) + 1) = ((p + 1 : Nat) : Int) by rw [ZaP (by omega) (by omega)]; omega]
 have hd : decide (ZeU (strI t) p) = decide (p + 1 < (strI t).length ∧ (strI t).getD p 0 = 58 ∧ (strI t).getD (p + 1) 0 = 58) := decide_eq_decide.2 Zls
 rw [hd]
 refine WP.step (R := fun y w' => y = decide (p + 1 < (strI t).length ∧ (strI t).getD p 0 = 58) ∧ w = w') (WP.ite (fun h => WP.chk ⟨by omega, by omega⟩ (WP.ret ⟨?_, rfl⟩)) (fun h => WP.ret ⟨?_, rfl⟩)) ?_
 ·rw [Zd3, Bool.eq_iff_iff, decide_eq_true_iff, beq_iff_eq]
  exact ⟨fun h' => ⟨by omega, h'⟩, And.right⟩
 ·exact (decide_eq_false fun h' => h (by have := h'.1; omega)).symm
 rintro _ _ ⟨rfl, rfl⟩
 refine WP.step (R := fun y w' => y = decide (p + 1 < (strI t).length ∧ (strI t).getD p 0 = 58 ∧ (strI t).getD (p + 1) 0 = 58) ∧ w = w') (WP.ite (fun h => WP.chk ⟨by omega, ?_⟩ (WP.ret ⟨?_, rfl⟩)) (fun h => WP.ret ⟨?_, rfl⟩)) (fun r w h => WP.ret h)
 ·have := (of_decide_eq_true h).1
  omega
 ·have h := of_decide_eq_true h
  rw [Zd3, Bool.eq_iff_iff, decide_eq_true_iff, beq_iff_eq]
  exact ⟨fun h' => ⟨h.1, h.2, h'⟩, fun h' => h'.2.2⟩
 ·exact (decide_eq_false fun h' => h (decide_eq_true ⟨h'.1, h'.2.1⟩)).symm
theorem ZnH (s : Ss W Hs w) (t : ByteArray) (ht : t.size ≤ 1000) (c : Int) : WP (Zbj t c) w (fun r w' => r = decide (Zdo (strI t) c < (strI t).length) ∧ Ss W Hs w') := by
 have hl := Zdb t
 unfold Zbj
 refine WP.loopG (γ := Nat) (fun i (x : Int) w => x = (i : Int) ∧ i ≤ t.size ∧ (∀ j, j < i → (strI t).getD j 0 ≠ c) ∧ Ss W Hs w) (fun i _ => t.size - i) 0 ⟨rfl, Nat.zero_le _, fun j h => by omega, s⟩ ?_
 clear s
 rintro i _ w ⟨rfl, hi, hn, s⟩
 show WP (Zbj.L1 t c (i : Int)) w _
 unfold Zbj.L1
 refine WP.ite (fun h => WP.chk ⟨by omega, h⟩ ?_) (fun h => WP.done ⟨?_, s⟩)
 ·rw [Zd3]
  refine WP.ite (fun e => WP.done ⟨?_, s⟩) (fun e => ?_)
  ·have : ¬ i < Zdo (strI t) c := fun h' => Zle h' e
   exact (decide_eq_true (by omega)).symm
  ·rw [ZaP (by omega) (by omega)]
   refine WP.next ⟨i + 1, ⟨by simp, by omega, fun j hj => ?_, s⟩, by omega⟩
   by_cases ej : j = i
   ·subst ej
    exact e
   ·exact hn j (by omega)
 ·refine (decide_eq_false fun hf => ?_).symm
  exact hn _ (by omega) (Zlg hf)
end
end Go.Proofs.YtfgcobigollfjaaDoor.Lx
