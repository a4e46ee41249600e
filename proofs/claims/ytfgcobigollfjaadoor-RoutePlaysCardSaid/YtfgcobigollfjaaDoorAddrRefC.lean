
import Derived.Test.YtfgcobigollfjaaDoorAddrRefB
import Derived.Test.YtfgcobigollfjaaDoorAddrErr
set_option linter.unusedVariables false
set_option linter.unusedSimpArgs false
namespace Go.Proofs.YtfgcobigollfjaaDoor.Lx
open Go Go.Proofs Go.RowKit
abbrev cR6 := Zbf
structure R6 where
 gs : List Nat
 gap : Int
 p : Int
 err : Int
 at_ : Int
def R6Hs (b : Nat) (t : ByteArray) (g : Sl) (r : R6) (sp : List Int) : List HP := [pts true (pt b 0) (cR6.enc ⟨t, g, r.gap, r.p, r.err, r.at_⟩), vec (cI .i64) g (r.gs.map fun n : Nat => (n : Int)) sp]
def R6P (b : Nat) (t : ByteArray) (r : R6) : HP := fun h => ∃ g sp, seps (R6Hs b t g r sp) h
section
variable {W w : World} {Hs : List HP}
theorem Ss.openR6 {b : Nat} {t : ByteArray} {r : R6} (s : Ss W (R6P b t r :: Hs) w) : ∃ g sp, Ss W (R6Hs b t g r sp ++ Hs) w := by
 obtain ⟨hb, k, ⟨h1, h2, e, l1, l2, ⟨g, sp, a3⟩, b⟩, hw⟩ := s
 exact ⟨g, sp, Ss.split ⟨hb, k, ⟨h1, h2, e, l1, l2, a3, b⟩, hw⟩⟩
theorem Ss.closeR6 {b : Nat} {t : ByteArray} {r : R6} {g : Sl} {sp : List Int} (s : Ss W (R6Hs b t g r sp ++ Hs) w) : Ss W (R6P b t r :: Hs) w := s.group.first (fun h hh => ⟨g, sp, hh⟩)
theorem ZeS {b : Nat} {t : ByteArray} {r : R6} (s : Ss W (R6P b t r :: Hs) w) (h0 : r.err = 0) (e at' : Int) : WP (Zbq (some (pt b 0)) e at') w (fun _ w' => Ss W (R6P b t ⟨r.gs, r.gap, r.p, e, at'⟩ :: Hs) w') := by
 obtain ⟨g, sp, s⟩ := s.openR6
 unfold Zbq
 refine WP.nilck (WP.ld s 0 rfl (o := 4) rfl (ZbG _) (WP.ite (fun _ => ?_) (fun h => absurd h0 h)))
 refine WP.nilck (WP.st s 0 rfl (o := 4) rfl (Zft _ _) (fun w s => WP.nilck (WP.st s 0 rfl (o := 5) rfl (Zfu _ _) (fun w s => WP.ret ?_))))
 exact Ss.closeR6 (g := g) (sp := sp) s
theorem Zjx {b : Nat} {t : ByteArray} {r : R6} (s : Ss W (R6P b t r :: Hs) w) : WP (ZbY (some (pt b 0))) w (fun x w' => x = (if r.gap ≥ 0 then 7 else 8) ∧ w = w') := by
 obtain ⟨g, sp, s⟩ := s.openR6
 unfold ZbY
 refine WP.nilck (WP.ld s 0 rfl (o := 2) rfl (Zcn _) (WP.ite (fun h => WP.ret ⟨by rw [if_pos h], rfl⟩) (fun h => WP.ret ⟨by rw [if_neg h], rfl⟩)))
def live (st : S6) : R6 := ⟨st.gs, st.gap, (st.at_ : Int), 0, 0⟩
theorem Zkf {l : List Int} {i k : Nat} (h : ∀ j, i ≤ j → j < k → Ze7 (l.getD j 0) = true) (hk : k ≤ l.length) (hik : i ≤ k) (h4 : k - i ≤ 4) : hexN ((l.drop i).take (k - i)) < 16 ^ (k - i) := by
 refine ZjL (fun c hc => ?_) (k - i) (by rw [List.length_take]; omega) h4
 obtain ⟨j, hj, rfl⟩ := List.mem_iff_getElem.1 hc
 rw [List.length_take, List.length_drop] at hj
 rw [List.getElem_take, List.getElem_drop]
 have := h (i + j) (by omega) (by omega)
 rwa [List.getD, List.getElem?_eq_getElem (by omega)] at this
def ZnN (W : World) (Hs : List HP) (b : Nat) (t : ByteArray) (st : S6) (x : Except Flt (Bool × S6)) (r : Bool) (w : World) : Prop :=
 match x with
 | .error f => r = true ∧ Ss W (R6P b t ⟨st.gs, st.gap, (st.at_ : Int), f.1, (f.2 : Int)⟩ :: Hs) w
 | .ok (done, st1) => r = decide (done = true ∨ st1.at_ = t.size) ∧ ∃ p : Int, (done = false → p = (st1.at_ : Int)) ∧ Ss W (R6P b t ⟨st1.gs, st1.gap, p, 0, 0⟩ :: Hs) w
theorem ZkF {b : Nat} {t : ByteArray} {st : S6} (s : Ss W (R6P b t (live st) :: Hs) w) (hg : st.gs.length ≤ 8) (ht : t.size ≤ 1000) (ha : st.at_ ≤ t.size) (hp : 0 < st.at_ ↔ (st.gs ≠ [] ∨ st.gap ≥ 0)) : WP (Zaw (some (pt b 0))) w (ZnN W Hs b t st (Zd7 (strI t) st)) := by
 have hl := Zdb t
 obtain ⟨r1, r2⟩ := ZfZ (p := Ze7) (l := strI t) (i := st.at_) (by omega)
 obtain ⟨g, sp, s⟩ := s.openR6
 unfold Zaw
 refine WP.nilck (WP.ld s 0 rfl (o := 3) rfl (Zbb _) ?_)
 refine WP.loopG (γ := Nat) (fun k (p : Int × Int) w => p = ((k : Int), (hexN (((strI t).drop st.at_).take (min (k - st.at_) 4)) : Int)) ∧ st.at_ ≤ k ∧ k ≤ runE Ze7 (strI t) st.at_ ∧ Ss W (R6Hs b t g (live st) sp ++ Hs) w) (fun k _ => t.size - k) st.at_ ⟨by simp [hexN, live], Nat.le_refl _, r1, s⟩ ?_
 clear s
 rintro k _ w ⟨rfl, k1, k2, s⟩
 show WP (Zaw.L1 (some (pt b 0)) (k : Int) (hexN (((strI t).drop st.at_).take (min (k - st.at_) 4)) : Int)) w _
 unfold Zaw.L1
 have hgo := Zf0 k1 k2
 rw [hl] at hgo
 refine WP.nilck (WP.ld s 0 rfl (o := 0) (by simp [Addr.add]) (Zbt _) ?_)
 refine WP.step (R := fun y w' => y = decide (k < runE Ze7 (strI t) st.at_) ∧ w = w') (WP.ite (fun h => WP.nilck (WP.ld s 0 rfl (o := 0) (by simp [Addr.add]) (Zbt _) (WP.chk ⟨by omega, h⟩ (WP.step (Zjr _ (Zmt t k)) ?_)))) (fun h => WP.ret ⟨?_, rfl⟩)) ?_
 ·rintro _ _ ⟨rfl, rfl⟩
  have h : (k : Int) < (t.size : Int) := h
  refine WP.ret ⟨?_, rfl⟩
  rw [Zd3, Bool.eq_iff_iff, decide_eq_true_iff, decide_eq_true_iff, ← hgo]
  exact ⟨fun h' => ⟨by omega, decide_eq_true h'⟩, fun h' => of_decide_eq_true h'.2⟩
 ·have h : ¬ (k : Int) < (t.size : Int) := h
  refine (decide_eq_false fun h' => ?_).symm
  have := hgo.2 h'
  omega
 rintro _ _ ⟨rfl, rfl⟩
 have hhex : ∀ j, st.at_ ≤ j → j < k → Ze7 ((strI t).getD j 0) = true := fun j j1 j2 => ZfB j1 (by omega)
 refine WP.ite (fun h => ?_) (fun h => ?_)
 ·have hk := of_decide_eq_true h
  have hh := hgo.2 hk
  refine WP.nilck (WP.ld s 0 rfl (o := 3) rfl (Zbb _) ?_)
  have ew : IntKind.wrap .i64 ((k : Int) - (live st).p) = ((k - st.at_ : Nat) : Int) := by
   show IntKind.wrap .i64 ((k : Int) - (st.at_ : Int)) = _
   rw [ZaP (by omega) (by omega)]
   omega
  rw [ew, ZaP (n := (k : Int) + 1) (by omega) (by omega)]
  refine WP.ite (fun h4 => ?_) (fun h4 => ?_)
  ·refine WP.nilck (WP.ld s 0 rfl (o := 0) (by simp [Addr.add]) (Zbt _) (WP.chk ⟨by omega, by simp only; omega⟩ (WP.step (Zjr _ (Zmt t k)) ?_)))
   rintro _ _ ⟨rfl, rfl⟩
   have hv := of_decide_eq_true hh.2
   have htk : ((strI t).drop st.at_).take (min (k + 1 - st.at_) 4) = ((strI t).drop st.at_).take (min (k - st.at_) 4) ++ [(strI t).getD k 0] := by
    rw [Nat.min_eq_left (by omega), Nat.min_eq_left (by omega), show k + 1 - st.at_ = (k - st.at_) + 1 by omega, List.take_add_one, List.getElem?_drop, show st.at_ + (k - st.at_) = k by omega, List.getD, List.getElem?_eq_getElem (by omega)]
    rfl
   refine WP.next ⟨k + 1, ⟨?_, by omega, by omega, s⟩, by omega⟩
   rw [htk, ZiC, Zd3]
   have hN := Zkf (l := strI t) (i := st.at_) (k := k) hhex (by omega) k1 (by omega)
   have hN2 : 16 ^ (k - st.at_) ≤ 16 ^ 3 := Nat.pow_le_pow_right (by omega) (by omega)
   rw [Nat.min_eq_left (by omega)]
   have hx := Zla ((strI t).getD k 0)
   generalize hexN (((strI t).drop st.at_).take (k - st.at_)) = N at hN
   generalize hexV ((strI t).getD k 0) = x at hv hx
   have h163 : 16 ^ 3 = 4096 := by decide
   rw [ZaP (n := 16 * (N : Int)) (by omega) (by omega), ZaP (by omega) (by omega)]
   refine Prod.ext (by simp) ?_
   simp only
   omega
  ·refine WP.next ⟨k + 1, ⟨?_, by omega, by omega, s⟩, by omega⟩
   rw [show min (k + 1 - st.at_) 4 = min (k - st.at_) 4 by omega]
   refine Prod.ext (by simp) rfl
 have hk : k = runE Ze7 (strI t) st.at_ := by
  have : ¬ k < runE Ze7 (strI t) st.at_ := fun h' => h (decide_eq_true h')
  omega
 refine WP.step ?_ (fun r w h => WP.done h)
 unfold Zaw.K2 Zd7
 rw [← hk]
 have hgl := (s.vec_len (i := 1) rfl).1
 rw [List.length_map] at hgl
 have hgl : g.len = st.gs.length := hgl
 refine WP.nilck (WP.ld s 0 rfl (o := 3) rfl (Zbb _) ?_)
 refine WP.ite (fun h => ?_) (fun h => ?_)
 ·have h : (k : Int) = (st.at_ : Int) := h
  rw [if_pos (by omega)]
  refine WP.draw' s (fun w s => WP.nilck (WP.ld s 0 rfl (o := 0) (by simp [Addr.add]) (Zbt _) (WP.nilck (WP.ld s 0 rfl (o := 3) rfl (Zbb _) (WP.step (ZhX t st.at_ ha) ?_)))))
  rintro _ _ ⟨rfl, rfl⟩
  refine WP.step (ZeS s.closeR6 rfl _ _) (fun _ w s => WP.ret ⟨rfl, s⟩)
 have h : ¬ (k : Int) = (st.at_ : Int) := h
 have hne : ¬ k = st.at_ := by omega
 rw [if_neg hne]
 refine WP.nilck (WP.ld s 0 rfl (o := 0) (by simp [Addr.add]) (Zbt _) ?_)
 refine WP.step (R := fun y w' => y = decide (k < (strI t).length ∧ (strI t).getD k 0 = 46) ∧ w = w') (WP.ite (fun h => WP.nilck (WP.ld s 0 rfl (o := 0) (by simp [Addr.add]) (Zbt _) (WP.chk ⟨by omega, h⟩ (WP.ret ⟨?_, rfl⟩)))) (fun h => WP.ret ⟨?_, rfl⟩)) ?_
 ·have h : (k : Int) < (t.size : Int) := h
  rw [Zd3, Bool.eq_iff_iff, decide_eq_true_iff, beq_iff_eq]
  exact ⟨fun h' => ⟨by omega, h'⟩, fun h' => h'.2⟩
 ·have h : ¬ (k : Int) < (t.size : Int) := h
  exact (decide_eq_false fun h' => by omega).symm
 rintro _ _ ⟨rfl, rfl⟩
 refine WP.step (R := fun y w' => y = decide (k < (strI t).length ∧ (strI t).getD k 0 = 46 ∧ (st.gs ≠ [] ∨ st.gap ≥ 0)) ∧ w = w') (WP.ite (fun h1 => WP.nilck (WP.ld s 0 rfl (o := 3) rfl (Zbb _) (WP.ret ⟨?_, rfl⟩))) (fun h1 => WP.ret ⟨?_, rfl⟩)) ?_
 ·have h1 := of_decide_eq_true h1
  show decide ((st.at_ : Int) > 0) = _
  exact decide_eq_decide.2 ⟨fun h' => ⟨h1.1, h1.2, hp.1 (by omega)⟩, fun h' => by have := hp.2 h'.2.2; omega⟩
 ·exact (decide_eq_false fun h' => h1 (decide_eq_true ⟨h'.1, h'.2.1⟩)).symm
 rintro _ _ ⟨rfl, rfl⟩
 -- room
 have hroom : ∀ (j : Nat), j ≤ 2 → ((IntKind.wrap .i64 ((g.len : Int) + (j : Int)) > (if st.gap ≥ 0 then (7 : Int) else 8)) ↔ st.room < (j : Int)) := by
  intro j hj
  rw [ZaP (by omega) (by omega)]
  unfold S6.room
  split <;> omega
 refine WP.ite (fun h => ?_) (fun h => ?_)
 ·rw [if_pos (of_decide_eq_true h)]
  unfold Zaw.K1
  refine WP.draw' s (fun w s => WP.nilck (WP.ld s 0 rfl (o := 1) rfl (Za5 _) (WP.step (Zjx s.closeR6) ?_)))
  rintro _ _ ⟨rfl, rfl⟩
  refine WP.same s 0 rfl (o := 1) rfl (Za5 _) (WP.ite (fun h2 => ?_) (fun h2 => ?_))
  ·rw [if_pos (show st.room < 2 from (hroom 2 (by omega)).1 h2)]
   refine WP.nilck (WP.ld s 0 rfl (o := 3) rfl (Zbb _) (WP.step (ZeS s.closeR6 rfl _ _) (fun _ w s => WP.ret ⟨rfl, s⟩)))
  rw [if_neg (show ¬ st.room < 2 from fun h' => h2 ((hroom 2 (by omega)).2 h'))]
  refine WP.ite (fun _ => WP.draw' s (fun w s => WP.nilck (WP.ld s 0 rfl (o := 0) (by simp [Addr.add]) (Zbt _) (WP.nilck (WP.ld s 0 rfl (o := 3) rfl (Zbb _) (WP.step (Zhk s t ht st.at_ ha) ?_)))))) (fun h' => absurd h h')
  rintro ⟨d, e, at'⟩ w hr
  cases hfm : Ze8 (strI t) st.at_ with
  | error f =>
   rw [hfm] at hr
   obtain ⟨hr, s⟩ := hr
   cases hr
   have hb := (ZfK (by omega) hfm).1
   refine WP.ite (fun _ => WP.step (ZeS s.closeR6 rfl _ _) (fun _ w s => WP.ret ⟨rfl, s⟩)) (fun h' => absurd hb h')
  | ok a =>
   rw [hfm] at hr
   obtain ⟨hr, sp', s⟩ := hr
   cases hr
   obtain ⟨a4, a5⟩ := ZfJ (by omega) hfm
   obtain ⟨n1, n2, n3, n4, rfl⟩ : ∃ n1 n2 n3 n4, a = [n1, n2, n3, n4] := by
    match a, a4 with
    | [n1, n2, n3, n4], _ => exact ⟨n1, n2, n3, n4, rfl⟩
   have b1 := a5 n1 (by simp)
   have b2 := a5 n2 (by simp)
   have b3 := a5 n3 (by simp)
   have b4 := a5 n4 (by simp)
   refine WP.ite (fun h' => absurd rfl h') (fun _ => WP.draw' s (fun w s => WP.nilck (WP.ld s 1 rfl (o := 1) rfl (Za5 _) ?_)))
   refine WP.rdxp0 s 0 rfl ZcG (by omega) (x := (n1 : Int)) (y := (n1 : Int)) rfl rfl (At.whole _) ?_
   refine WP.rdxp0 s 0 rfl ZcG (by omega) (x := (n2 : Int)) (y := (n2 : Int)) rfl rfl (At.whole _) ?_
   refine WP.rdxp0 s 0 rfl ZcG (by omega) (x := (n3 : Int)) (y := (n3 : Int)) rfl rfl (At.whole _) ?_
   refine WP.rdxp0 s 0 rfl ZcG (by omega) (x := (n4 : Int)) (y := (n4 : Int)) rfl rfl (At.whole _) ?_
   have ev : ∀ x y : Nat, x ≤ 255 → y ≤ 255 → IntKind.wrap .i64 (IntKind.wrap .i64 (256 * IntKind.wrap .i64 (x : Int)) + IntKind.wrap .i64 (y : Int)) = ((256 * x + y : Nat) : Int) := by
    intro x y hx hy
    rw [ZaP (n := (x : Int)) (by omega) (by omega), ZaP (n := (y : Int)) (by omega) (by omega), ZaP (n := 256 * _) (by omega) (by omega), ZaP (by omega) (by omega)]
    omega
   rw [ev n1 n2 b1 b2, ev n3 n4 b3 b4]
   refine WP.slot' s (fun _ w s => WP.same s 1 rfl (o := 1) rfl (Za5 _) ?_)
   refine WP.appl s 2 rfl (by simp only [List.length_map, List.length_cons, List.length_nil, live]; omega) (by decide) (fun g' w sp2 s => WP.nilck ?_)
   refine WP.st s 1 rfl (o := 1) rfl (Zdp _ _) (fun w s => WP.nilck (WP.ld s 1 rfl (o := 0) (by simp [Addr.add]) (Zbt _) (WP.nilck ?_)))
   refine WP.st s 1 rfl (o := 3) rfl (ZcC _ _) (fun w s => WP.ret ⟨by simp, (t.size : Int), fun h => (by cases h), ?_⟩)
   refine Ss.closeR6 (g := g') (sp := sp2) ?_
   unfold R6Hs
   rw [List.map_append]
   exact s.drop
 ·rw [if_neg (fun h' => h (decide_eq_true h'))]
  unfold Zaw.K1
  refine WP.draw' s (fun w s => WP.nilck (WP.ld s 0 rfl (o := 1) rfl (Za5 _) (WP.step (Zjx s.closeR6) ?_)))
  rintro _ _ ⟨rfl, rfl⟩
  refine WP.same s 0 rfl (o := 1) rfl (Za5 _) (WP.ite (fun h2 => ?_) (fun h2 => ?_))
  ·rw [if_pos (show st.room < 1 from (hroom 1 (by omega)).1 h2)]
   refine WP.nilck (WP.ld s 0 rfl (o := 3) rfl (Zbb _) (WP.step (ZeS s.closeR6 rfl _ _) (fun _ w s => WP.ret ⟨rfl, s⟩)))
  rw [if_neg (show ¬ st.room < 1 from fun h' => h2 ((hroom 1 (by omega)).2 h'))]
  refine WP.ite (fun h' => absurd h' h) (fun _ => WP.nilck (WP.ld s 0 rfl (o := 3) rfl (Zbb _) ?_))
  have ew : IntKind.wrap .i64 ((k : Int) - (live st).p) = ((k - st.at_ : Nat) : Int) := by
   show IntKind.wrap .i64 ((k : Int) - (st.at_ : Int)) = _
   rw [ZaP (by omega) (by omega)]
   omega
  rw [ew]
  refine WP.ite (fun h4 => ?_) (fun h4 => ?_)
  ·rw [if_pos (by omega)]
   refine WP.nilck (WP.ld s 0 rfl (o := 3) rfl (Zbb _) (WP.step (ZeS s.closeR6 rfl _ _) (fun _ w s => WP.ret ⟨rfl, s⟩)))
  rw [if_neg (by omega), Nat.min_eq_left (show k - st.at_ ≤ 4 by omega)]
  refine WP.nilck (WP.ld s 0 rfl (o := 1) rfl (Za5 _) (WP.slot' s (fun _ w s => ?_)))
  refine WP.appl s 1 rfl (by simp only [List.length_map, List.length_cons, List.length_nil, live]; omega) (by decide) (fun g' w sp2 s => WP.nilck ?_)
  refine WP.st s 0 rfl (o := 1) rfl (Zdp _ _) (fun w s => WP.nilck ?_)
  refine WP.st s 0 rfl (o := 3) rfl (ZcC _ _) (fun w s => WP.nilck (WP.ld s 0 rfl (o := 0) (by simp [Addr.add]) (Zbt _) (WP.ret ⟨?_, (k : Int), fun _ => rfl, ?_⟩)))
  ·rw [Bool.eq_iff_iff, beq_iff_eq, decide_eq_true_iff]
   simp only [Bool.false_eq_true, false_or]
   omega
  ·refine Ss.closeR6 (g := g') (sp := sp2) ?_
   unfold R6Hs
   rw [List.map_append]
   exact s
def betM (l : List Int) (st : S6) : Except Flt S6 := match Zb8 l st with
 | .error f => .error f
 | .ok (y, st2) => if y = true then .ok st2 else if l.getD st2.at_ 0 ≠ 58 then .error (41, st2.at_) else .ok ⟨st2.at_ + 1, st2.gs, st2.gap⟩
theorem Zko {b : Nat} {t : ByteArray} {st : S6} (s : Ss W (R6P b t (live st) :: Hs) w) (hg : st.gs.length ≤ 8) (ht : t.size ≤ 1000) (ha : st.at_ < t.size) : WP (ZbM (some (pt b 0))) w (fun r w' => match betM (strI t) st with
  | .error f => r = false ∧ Ss W (R6P b t ⟨st.gs, st.gap, (st.at_ : Int), f.1, (f.2 : Int)⟩ :: Hs) w'
  | .ok st2 => r = decide (ZeU (strI t) st.at_ ∧ st2.at_ = t.size) ∧ Ss W (R6P b t (live st2) :: Hs) w') := by
 have hl := Zdb t
 obtain ⟨g, sp, s⟩ := s.openR6
 have hgl := (s.vec_len (i := 1) rfl).1
 rw [List.length_map] at hgl
 have hgl : g.len = st.gs.length := hgl
 unfold ZbM
 refine WP.draw' s (fun w s => WP.nilck (WP.ld s 0 rfl (o := 0) (by simp [Addr.add]) (Zbt _) (WP.nilck (WP.ld s 0 rfl (o := 3) rfl (Zbb _) (WP.step (Zms t ht st.at_ (by omega)) ?_)))))
 rintro _ _ ⟨rfl, rfl⟩
 refine WP.step (R := fun y w' => y = decide (ZeU (strI t) st.at_ ∧ (st.gap ≥ 0 ∨ st.gs.length = 8)) ∧ w = w') (WP.ite (fun h => WP.nilck (WP.ld s 0 rfl (o := 2) rfl (Zcn _) ?_)) (fun h => WP.ret ⟨(decide_eq_false fun h' => h (decide_eq_true h'.1)).symm, rfl⟩)) ?_
 ·have h := of_decide_eq_true h
  refine WP.step (R := fun y w' => y = decide (ZeU (strI t) st.at_ ∧ (st.gap ≥ 0 ∨ st.gs.length = 8)) ∧ w = w') (WP.ite (fun h2 => WP.ret ⟨(decide_eq_true ⟨h, .inl h2⟩).symm, rfl⟩) (fun h2 => WP.nilck (WP.ld s 0 rfl (o := 1) rfl (Za5 _) (WP.ret ⟨?_, rfl⟩)))) (fun r w h => WP.ret h)
  rw [Bool.eq_iff_iff, beq_iff_eq, decide_eq_true_iff]
  have h2 : ¬ st.gap ≥ 0 := h2
  exact ⟨fun h' => ⟨h, .inr (by have h' : (g.len : Int) = 8 := h'; omega)⟩, fun h' => by have := h'.2.resolve_left h2; show (g.len : Int) = 8; omega⟩
 rintro _ _ ⟨rfl, rfl⟩
 refine WP.ite (fun h => ?_) (fun h => ?_)
 ·obtain ⟨h1, h2⟩ := of_decide_eq_true h
  have e : betM (strI t) st = .error (44, st.at_) := by
   unfold betM Zb8
   rw [if_neg (fun h' => h' h1), if_pos h2]
  rw [e]
  refine WP.nilck (WP.ld s 0 rfl (o := 3) rfl (Zbb _) (WP.step (ZeS s.closeR6 rfl _ _) (fun _ w s => WP.ret ⟨rfl, s⟩)))
 have h : ¬ (ZeU (strI t) st.at_ ∧ (st.gap ≥ 0 ∨ st.gs.length = 8)) := fun h' => h (decide_eq_true h')
 refine WP.ite (fun h1 => ?_) (fun h1 => ?_)
 ·have h1 := of_decide_eq_true h1
  have e : betM (strI t) st = .ok ⟨st.at_ + 2, st.gs, st.gs.length⟩ := by
   unfold betM Zb8
   rw [if_neg (fun h' => h' h1), if_neg (fun h' => h ⟨h1, h'⟩)]
   rfl
  rw [e]
  refine WP.nilck (WP.ld s 0 rfl (o := 1) rfl (Za5 _) (WP.nilck (WP.st s 0 rfl (o := 2) rfl (Zdh _ _) (fun w s => WP.nilck (WP.ld s 0 rfl (o := 3) rfl (Zbb _) (WP.nilck ?_))))))
  refine WP.st s 0 rfl (o := 3) rfl (ZcC _ _) (fun w s => WP.draw' s (fun w s => WP.nilck (WP.ld s 0 rfl (o := 3) rfl (Zbb _) (WP.nilck (WP.ld s 0 rfl (o := 0) (by simp [Addr.add]) (Zbt _) (WP.ret ⟨?_, ?_⟩))))))
  ·simp only [live]
   rw [ZaP (by omega) (by omega), Bool.eq_iff_iff, beq_iff_eq, decide_eq_true_iff]
   exact ⟨fun h' => ⟨h1, by omega⟩, fun h' => by have := h'.2; omega⟩
  ·refine Ss.closeR6 (g := g) (sp := sp) ?_
   have e3 : IntKind.wrap .i64 ((st.at_ : Int) + 2) = ((st.at_ + 2 : Nat) : Int) := by
    rw [ZaP (by omega) (by omega)]
    omega
   simp only [live, hgl, e3] at s
   exact s
 ·have h1 : ¬ ZeU (strI t) st.at_ := fun h' => h1 (decide_eq_true h')
  have e : betM (strI t) st = if (strI t).getD st.at_ 0 ≠ 58 then .error (41, st.at_) else .ok ⟨st.at_ + 1, st.gs, st.gap⟩ := by
   unfold betM Zb8
   rw [if_pos h1]
   rfl
  rw [e]
  refine WP.draw' s (fun w s => WP.nilck (WP.ld s 0 rfl (o := 0) (by simp [Addr.add]) (Zbt _) (WP.nilck (WP.ld s 0 rfl (o := 3) rfl (Zbb _) (WP.chk ⟨by simp only [live]; omega, by simp only [live]; omega⟩ ?_)))))
  have esb : sb t (live st).p = (strI t).getD st.at_ 0 := Zd3
  rw [esb]
  refine WP.ite (fun h2 => ?_) (fun h2 => ?_)
  ·rw [if_neg (fun h' => h' h2)]
   refine WP.nilck (WP.ld s 0 rfl (o := 3) rfl (Zbb _) (WP.nilck (WP.st s 0 rfl (o := 3) rfl (ZcC _ _) (fun w s => WP.ret ⟨(decide_eq_false fun h' => h1 h'.1).symm, ?_⟩))))
   refine Ss.closeR6 (g := g) (sp := sp) ?_
   have e3 : IntKind.wrap .i64 ((st.at_ : Int) + 1) = ((st.at_ + 1 : Nat) : Int) := by
    rw [ZaP (by omega) (by omega)]
    omega
   simp only [live, e3] at s
   exact s
  ·rw [if_pos h2]
   refine WP.nilck (WP.ld s 0 rfl (o := 3) rfl (Zbb _) (WP.step (ZeS s.closeR6 rfl _ _) (fun _ w s => WP.ret ⟨rfl, s⟩)))
end
end Go.Proofs.YtfgcobigollfjaaDoor.Lx
