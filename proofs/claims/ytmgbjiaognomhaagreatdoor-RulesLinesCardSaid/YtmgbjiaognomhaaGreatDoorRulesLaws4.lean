/- Plain words, put together. -/
import Derived.Test.YtmgbjiaognomhaaGreatDoorAddrRefB
import Derived.Test.YtmgbjiaognomhaaGreatDoorRulesSide3
set_option linter.unusedVariables false
set_option linter.unusedSimpArgs false
namespace Go.Proofs.YtmgbjiaognomhaaGreatDoor.Lx
open Go Go.Proofs Go.RowKit
abbrev cR6 := ZbC
structure R6 where
 gs : List Nat
 gap : Int
 p : Int
 err : Int
 at_ : Int
def R6Hs (b : Nat) (t : ByteArray) (g : Sl) (r : R6) (sp : List Int) : List HP := [pts true (pt b 0) (cR6.enc ⟨t, g, r.gap, r.p, r.err, r.at_⟩), vec (cI .i64) g (r.gs.map fun n : Nat => (n : Int)) sp]
def R6P (b : Nat) (t : ByteArray) (r : R6) : HP := fun h => ∃ g sp, seps (R6Hs b t g r sp) h
section
variable {W w : World} {Hs : List HP}
theorem Ss.openR6 {b : Nat} {t : ByteArray} {r : R6} (s : Ss W (R6P b t r :: Hs) w) : ∃ g sp, Ss W (R6Hs b t g r sp ++ Hs) w := by
 obtain ⟨hb, k, ⟨h1, h2, e, l1, l2, ⟨g, sp, a3⟩, b⟩, hw⟩ := s
 exact ⟨g, sp, Ss.split ⟨hb, k, ⟨h1, h2, e, l1, l2, a3, b⟩, hw⟩⟩
theorem Ss.closeR6 {b : Nat} {t : ByteArray} {r : R6} {g : Sl} {sp : List Int} (s : Ss W (R6Hs b t g r sp ++ Hs) w) : Ss W (R6P b t r :: Hs) w := s.group.first (fun h hh => ⟨g, sp, hh⟩)
theorem ZhB {b : Nat} {t : ByteArray} {r : R6} (s : Ss W (R6P b t r :: Hs) w) (h0 : r.err = 0) (e at' : Int) : WP (Zb0 (some (pt b 0)) e at') w (fun _ w' => Ss W (R6P b t ⟨r.gs, r.gap, r.p, e, at'⟩ :: Hs) w') := by
 obtain ⟨g, sp, s⟩ := s.openR6
 unfold Zb0
 refine WP.nilck (WP.ld s 0 rfl (o := 4) rfl (Zcn _) (WP.ite (fun _ => ?_) (fun h => absurd h0 h)))
 refine WP.nilck (WP.st s 0 rfl (o := 4) rfl (Ziu _ _) (fun w s => WP.nilck (WP.st s 0 rfl (o := 5) rfl (Ziv _ _) (fun w s => WP.ret ?_))))
 exact Ss.closeR6 (g := g) (sp := sp) s
theorem ZoB {b : Nat} {t : ByteArray} {r : R6} (s : Ss W (R6P b t r :: Hs) w) : WP (ZcU (some (pt b 0))) w (fun x w' => x = (if r.gap ≥ 0 then 7 else 8) ∧ w = w') := by
 obtain ⟨g, sp, s⟩ := s.openR6
 unfold ZcU
 refine WP.nilck (WP.ld s 0 rfl (o := 2) rfl (Zdw _) (WP.ite (fun h => WP.ret ⟨by rw [if_pos h], rfl⟩) (fun h => WP.ret ⟨by rw [if_neg h], rfl⟩)))
def live (st : S6) : R6 := ⟨st.gs, st.gap, (st.at_ : Int), 0, 0⟩
theorem Zpw {l : List Int} {i k : Nat} (h : ∀ j, i ≤ j → j < k → Zgm (l.getD j 0) = true) (hk : k ≤ l.length) (hik : i ≤ k) (h4 : k - i ≤ 4) : hexN ((l.drop i).take (k - i)) < 16 ^ (k - i) := by
 refine ZoR (fun c hc => ?_) (k - i) (by rw [List.length_take]; omega) h4
 obtain ⟨j, hj, rfl⟩ := List.mem_iff_getElem.1 hc
 rw [List.length_take, List.length_drop] at hj
 rw [List.getElem_take, List.getElem_drop]
 have := h (i + j) (by omega) (by omega)
 rwa [List.getD, List.getElem?_eq_getElem (by omega)] at this
def Zuz (W : World) (Hs : List HP) (b : Nat) (t : ByteArray) (st : S6) (x : Except Flt (Bool × S6)) (r : Bool) (w : World) : Prop :=
 match x with
 | .error f => r = true ∧ Ss W (R6P b t ⟨st.gs, st.gap, (st.at_ : Int), f.1, (f.2 : Int)⟩ :: Hs) w
 | .ok (done, st1) => r = decide (done = true ∨ st1.at_ = t.size) ∧ ∃ p : Int, (done = false → p = (st1.at_ : Int)) ∧ Ss W (R6P b t ⟨st1.gs, st1.gap, p, 0, 0⟩ :: Hs) w
theorem Zp2 {b : Nat} {t : ByteArray} {st : S6} (s : Ss W (R6P b t (live st) :: Hs) w) (hg : st.gs.length ≤ 8) (ht : t.size ≤ 1000) (ha : st.at_ ≤ t.size) (hp : 0 < st.at_ ↔ (st.gs ≠ [] ∨ st.gap ≥ 0)) : WP (Zao (some (pt b 0))) w (Zuz W Hs b t st (Zfd (strI t) st)) := by
 have hl := Zbq t
 obtain ⟨r1, r2⟩ := Zhk (p := Zgm) (l := strI t) (i := st.at_) (by omega)
 obtain ⟨g, sp, s⟩ := s.openR6
 unfold Zao
 refine WP.nilck (WP.ld s 0 rfl (o := 3) rfl (Zby _) ?_)
 refine WP.loopG (γ := Nat) (fun k (p : Int × Int) w => p = ((k : Int), (hexN (((strI t).drop st.at_).take (min (k - st.at_) 4)) : Int)) ∧ st.at_ ≤ k ∧ k ≤ runE Zgm (strI t) st.at_ ∧ Ss W (R6Hs b t g (live st) sp ++ Hs) w) (fun k _ => t.size - k) st.at_ ⟨by simp [hexN, live], Nat.le_refl _, r1, s⟩ ?_
 clear s
 rintro k _ w ⟨rfl, k1, k2, s⟩
 show WP (Zao.L1 (some (pt b 0)) (k : Int) (hexN (((strI t).drop st.at_).take (min (k - st.at_) 4)) : Int)) w _
 unfold Zao.L1
 have hgo := Zhl k1 k2
 rw [hl] at hgo
 refine WP.nilck (WP.ld s 0 rfl (o := 0) (by simp [Addr.add]) (Zb5 _) ?_)
 refine WP.step (R := fun y w' => y = decide (k < runE Zgm (strI t) st.at_) ∧ w = w') (WP.ite (fun h => WP.nilck (WP.ld s 0 rfl (o := 0) (by simp [Addr.add]) (Zb5 _) (WP.chk ⟨by omega, h⟩ (WP.step (Zoo _ (Zsx t k)) ?_)))) (fun h => WP.ret ⟨?_, rfl⟩)) ?_
 ·rintro _ _ ⟨rfl, rfl⟩
  have h : (k : Int) < (t.size : Int) := h
  refine WP.ret ⟨?_, rfl⟩
  rw [Zct, Bool.eq_iff_iff, decide_eq_true_iff, decide_eq_true_iff, ← hgo]
  exact ⟨fun h' => ⟨by omega, decide_eq_true h'⟩, fun h' => of_decide_eq_true h'.2⟩
 ·have h : ¬ (k : Int) < (t.size : Int) := h
  refine (decide_eq_false fun h' => ?_).symm
  have := hgo.2 h'
  omega
 rintro _ _ ⟨rfl, rfl⟩
 have hhex : ∀ j, st.at_ ≤ j → j < k → Zgm ((strI t).getD j 0) = true := fun j j1 j2 => ZgT j1 (by omega)
 refine WP.ite (fun h => ?_) (fun h => ?_)
 ·have hk := of_decide_eq_true h
  have hh := hgo.2 hk
  refine WP.nilck (WP.ld s 0 rfl (o := 3) rfl (Zby _) ?_)
  have ew : IntKind.wrap .i64 ((k : Int) - (live st).p) = ((k - st.at_ : Nat) : Int) := by
   show IntKind.wrap .i64 ((k : Int) - (st.at_ : Int)) = _
   rw [Zak (by omega) (by omega)]
   omega
  rw [ew, Zak (n := (k : Int) + 1) (by omega) (by omega)]
  refine WP.ite (fun h4 => ?_) (fun h4 => ?_)
  ·refine WP.nilck (WP.ld s 0 rfl (o := 0) (by simp [Addr.add]) (Zb5 _) (WP.chk ⟨by omega, by simp only; omega⟩ (WP.step (Zoo _ (Zsx t k)) ?_)))
   rintro _ _ ⟨rfl, rfl⟩
   have hv := of_decide_eq_true hh.2
   have htk : ((strI t).drop st.at_).take (min (k + 1 - st.at_) 4) = ((strI t).drop st.at_).take (min (k - st.at_) 4) ++ [(strI t).getD k 0] := by
    rw [Nat.min_eq_left (by omega), Nat.min_eq_left (by omega), show k + 1 - st.at_ = (k - st.at_) + 1 by omega, List.take_add_one, List.getElem?_drop, show st.at_ + (k - st.at_) = k by omega, List.getD, List.getElem?_eq_getElem (by omega)]
    rfl
   refine WP.next ⟨k + 1, ⟨?_, by omega, by omega, s⟩, by omega⟩
   rw [htk, ZiT, Zct]
   have hN := Zpw (l := strI t) (i := st.at_) (k := k) hhex (by omega) k1 (by omega)
   have hN2 : 16 ^ (k - st.at_) ≤ 16 ^ 3 := Nat.pow_le_pow_right (by omega) (by omega)
   rw [Nat.min_eq_left (by omega)]
   have hx := Zmp ((strI t).getD k 0)
   generalize hexN (((strI t).drop st.at_).take (k - st.at_)) = N at hN
   generalize hexV ((strI t).getD k 0) = x at hv hx
   have h163 : 16 ^ 3 = 4096 := by decide
   rw [Zak (n := 16 * (N : Int)) (by omega) (by omega), Zak (by omega) (by omega)]
   refine Prod.ext (by simp) ?_
   simp only
   omega
  ·refine WP.next ⟨k + 1, ⟨?_, by omega, by omega, s⟩, by omega⟩
   rw [show min (k + 1 - st.at_) 4 = min (k - st.at_) 4 by omega]
   refine Prod.ext (by simp) rfl
 have hk : k = runE Zgm (strI t) st.at_ := by
  have : ¬ k < runE Zgm (strI t) st.at_ := fun h' => h (decide_eq_true h')
  omega
 refine WP.step ?_ (fun r w h => WP.done h)
 unfold Zao.K2 Zfd
 rw [← hk]
 have hgl := (s.vec_len (i := 1) rfl).1
 rw [List.length_map] at hgl
 have hgl : g.len = st.gs.length := hgl
 refine WP.nilck (WP.ld s 0 rfl (o := 3) rfl (Zby _) ?_)
 refine WP.ite (fun h => ?_) (fun h => ?_)
 ·have h : (k : Int) = (st.at_ : Int) := h
  rw [if_pos (by omega)]
  refine WP.draw' s (fun w s => WP.nilck (WP.ld s 0 rfl (o := 0) (by simp [Addr.add]) (Zb5 _) (WP.nilck (WP.ld s 0 rfl (o := 3) rfl (Zby _) (WP.step (Zmq t st.at_ ha) ?_)))))
  rintro _ _ ⟨rfl, rfl⟩
  refine WP.step (ZhB s.closeR6 rfl _ _) (fun _ w s => WP.ret ⟨rfl, s⟩)
 have h : ¬ (k : Int) = (st.at_ : Int) := h
 have hne : ¬ k = st.at_ := by omega
 rw [if_neg hne]
 refine WP.nilck (WP.ld s 0 rfl (o := 0) (by simp [Addr.add]) (Zb5 _) ?_)
 refine WP.step (R := fun y w' => y = decide (k < (strI t).length ∧ (strI t).getD k 0 = 46) ∧ w = w') (WP.ite (fun h => WP.nilck (WP.ld s 0 rfl (o := 0) (by simp [Addr.add]) (Zb5 _) (WP.chk ⟨by omega, h⟩ (WP.ret ⟨?_, rfl⟩)))) (fun h => WP.ret ⟨?_, rfl⟩)) ?_
 ·have h : (k : Int) < (t.size : Int) := h
  rw [Zct, Bool.eq_iff_iff, decide_eq_true_iff, beq_iff_eq]
  exact ⟨fun h' => ⟨by omega, h'⟩, fun h' => h'.2⟩
 ·have h : ¬ (k : Int) < (t.size : Int) := h
  exact (decide_eq_false fun h' => by omega).symm
 rintro _ _ ⟨rfl, rfl⟩
 refine WP.step (R := fun y w' => y = decide (k < (strI t).length ∧ (strI t).getD k 0 = 46 ∧ (st.gs ≠ [] ∨ st.gap ≥ 0)) ∧ w = w') (WP.ite (fun h1 => WP.nilck (WP.ld s 0 rfl (o := 3) rfl (Zby _) (WP.ret ⟨?_, rfl⟩))) (fun h1 => WP.ret ⟨?_, rfl⟩)) ?_
 ·have h1 := of_decide_eq_true h1
  show decide ((st.at_ : Int) > 0) = _
  exact decide_eq_decide.2 ⟨fun h' => ⟨h1.1, h1.2, hp.1 (by omega)⟩, fun h' => by have := hp.2 h'.2.2; omega⟩
 ·exact (decide_eq_false fun h' => h1 (decide_eq_true ⟨h'.1, h'.2.1⟩)).symm
 rintro _ _ ⟨rfl, rfl⟩
 -- room
 have hroom : ∀ (j : Nat), j ≤ 2 → ((IntKind.wrap .i64 ((g.len : Int) + (j : Int)) > (if st.gap ≥ 0 then (7 : Int) else 8)) ↔ st.room < (j : Int)) := by
  intro j hj
  rw [Zak (by omega) (by omega)]
  unfold S6.room
  split <;> omega
 refine WP.ite (fun h => ?_) (fun h => ?_)
 ·rw [if_pos (of_decide_eq_true h)]
  unfold Zao.K1
  refine WP.draw' s (fun w s => WP.nilck (WP.ld s 0 rfl (o := 1) rfl (Zbm _) (WP.step (ZoB s.closeR6) ?_)))
  rintro _ _ ⟨rfl, rfl⟩
  refine WP.same s 0 rfl (o := 1) rfl (Zbm _) (WP.ite (fun h2 => ?_) (fun h2 => ?_))
  ·rw [if_pos (show st.room < 2 from (hroom 2 (by omega)).1 h2)]
   refine WP.nilck (WP.ld s 0 rfl (o := 3) rfl (Zby _) (WP.step (ZhB s.closeR6 rfl _ _) (fun _ w s => WP.ret ⟨rfl, s⟩)))
  rw [if_neg (show ¬ st.room < 2 from fun h' => h2 ((hroom 2 (by omega)).2 h'))]
  refine WP.ite (fun _ => WP.draw' s (fun w s => WP.nilck (WP.ld s 0 rfl (o := 0) (by simp [Addr.add]) (Zb5 _) (WP.nilck (WP.ld s 0 rfl (o := 3) rfl (Zby _) (WP.step (Zlv s t ht st.at_ ha) ?_)))))) (fun h' => absurd h h')
  rintro ⟨d, e, at'⟩ w hr
  cases hfm : ZfL (strI t) st.at_ with
  | error f =>
   rw [hfm] at hr
   obtain ⟨hr, s⟩ := hr
   cases hr
   have hb := (ZiV (by omega) hfm).1
   refine WP.ite (fun _ => WP.step (ZhB s.closeR6 rfl _ _) (fun _ w s => WP.ret ⟨rfl, s⟩)) (fun h' => absurd hb h')
  | ok a =>
   rw [hfm] at hr
   obtain ⟨hr, sp', s⟩ := hr
   cases hr
   obtain ⟨a4, a5⟩ := ZgZ (by omega) hfm
   obtain ⟨n1, n2, n3, n4, rfl⟩ : ∃ n1 n2 n3 n4, a = [n1, n2, n3, n4] := by
    match a, a4 with
    | [n1, n2, n3, n4], _ => exact ⟨n1, n2, n3, n4, rfl⟩
   have b1 := a5 n1 (by simp)
   have b2 := a5 n2 (by simp)
   have b3 := a5 n3 (by simp)
   have b4 := a5 n4 (by simp)
   refine WP.ite (fun h' => absurd rfl h') (fun _ => WP.draw' s (fun w s => WP.nilck (WP.ld s 1 rfl (o := 1) rfl (Zbm _) ?_)))
   refine WP.rdxp0 s 0 rfl ZbO (by omega) (x := (n1 : Int)) (y := (n1 : Int)) rfl rfl (At.whole _) ?_
   refine WP.rdxp0 s 0 rfl ZbO (by omega) (x := (n2 : Int)) (y := (n2 : Int)) rfl rfl (At.whole _) ?_
   refine WP.rdxp0 s 0 rfl ZbO (by omega) (x := (n3 : Int)) (y := (n3 : Int)) rfl rfl (At.whole _) ?_
   refine WP.rdxp0 s 0 rfl ZbO (by omega) (x := (n4 : Int)) (y := (n4 : Int)) rfl rfl (At.whole _) ?_
   have ev : ∀ x y : Nat, x ≤ 255 → y ≤ 255 → IntKind.wrap .i64 (IntKind.wrap .i64 (256 * IntKind.wrap .i64 (x : Int)) + IntKind.wrap .i64 (y : Int)) = ((256 * x + y : Nat) : Int) := by
    intro x y hx hy
    rw [Zak (n := (x : Int)) (by omega) (by omega), Zak (n := (y : Int)) (by omega) (by omega), Zak (n := 256 * _) (by omega) (by omega), Zak (by omega) (by omega)]
    omega
   rw [ev n1 n2 b1 b2, ev n3 n4 b3 b4]
   refine WP.slot' s (fun _ w s => WP.same s 1 rfl (o := 1) rfl (Zbm _) ?_)
   refine WP.appl s 2 rfl (by simp only [List.length_map, List.length_cons, List.length_nil, live]; omega) (by decide) (fun g' w sp2 s => WP.nilck ?_)
   refine WP.st s 1 rfl (o := 1) rfl (Zfe _ _) (fun w s => WP.nilck (WP.ld s 1 rfl (o := 0) (by simp [Addr.add]) (Zb5 _) (WP.nilck ?_)))
   refine WP.st s 1 rfl (o := 3) rfl (ZdX _ _) (fun w s => WP.ret ⟨by simp, (t.size : Int), fun h => (by cases h), ?_⟩)
   refine Ss.closeR6 (g := g') (sp := sp2) ?_
   unfold R6Hs
   rw [List.map_append]
   exact s.drop
 ·rw [if_neg (fun h' => h (decide_eq_true h'))]
  unfold Zao.K1
  refine WP.draw' s (fun w s => WP.nilck (WP.ld s 0 rfl (o := 1) rfl (Zbm _) (WP.step (ZoB s.closeR6) ?_)))
  rintro _ _ ⟨rfl, rfl⟩
  refine WP.same s 0 rfl (o := 1) rfl (Zbm _) (WP.ite (fun h2 => ?_) (fun h2 => ?_))
  ·rw [if_pos (show st.room < 1 from (hroom 1 (by omega)).1 h2)]
   refine WP.nilck (WP.ld s 0 rfl (o := 3) rfl (Zby _) (WP.step (ZhB s.closeR6 rfl _ _) (fun _ w s => WP.ret ⟨rfl, s⟩)))
  rw [if_neg (show ¬ st.room < 1 from fun h' => h2 ((hroom 1 (by omega)).2 h'))]
  refine WP.ite (fun h' => absurd h' h) (fun _ => WP.nilck (WP.ld s 0 rfl (o := 3) rfl (Zby _) ?_))
  have ew : IntKind.wrap .i64 ((k : Int) - (live st).p) = ((k - st.at_ : Nat) : Int) := by
   show IntKind.wrap .i64 ((k : Int) - (st.at_ : Int)) = _
   rw [Zak (by omega) (by omega)]
   omega
  rw [ew]
  refine WP.ite (fun h4 => ?_) (fun h4 => ?_)
  ·rw [if_pos (by omega)]
   refine WP.nilck (WP.ld s 0 rfl (o := 3) rfl (Zby _) (WP.step (ZhB s.closeR6 rfl _ _) (fun _ w s => WP.ret ⟨rfl, s⟩)))
  rw [if_neg (by omega), Nat.min_eq_left (show k - st.at_ ≤ 4 by omega)]
  refine WP.nilck (WP.ld s 0 rfl (o := 1) rfl (Zbm _) (WP.slot' s (fun _ w s => ?_)))
  refine WP.appl s 1 rfl (by simp only [List.length_map, List.length_cons, List.length_nil, live]; omega) (by decide) (fun g' w sp2 s => WP.nilck ?_)
  refine WP.st s 0 rfl (o := 1) rfl (Zfe _ _) (fun w s => WP.nilck ?_)
  refine WP.st s 0 rfl (o := 3) rfl (ZdX _ _) (fun w s => WP.nilck (WP.ld s 0 rfl (o := 0) (by simp [Addr.add]) (Zb5 _) (WP.ret ⟨?_, (k : Int), fun _ => rfl, ?_⟩)))
  ·rw [Bool.eq_iff_iff, beq_iff_eq, decide_eq_true_iff]
   simp only [Bool.false_eq_true, false_or]
   omega
  ·refine Ss.closeR6 (g := g') (sp := sp2) ?_
   unfold R6Hs
   rw [List.map_append]
   exact s
def betM (l : List Int) (st : S6) : Except Flt S6 := match ZcM l st with
 | .error f => .error f
 | .ok (y, st2) => if y = true then .ok st2 else if l.getD st2.at_ 0 ≠ 58 then .error (41, st2.at_) else .ok ⟨st2.at_ + 1, st2.gs, st2.gap⟩
theorem ZpB {b : Nat} {t : ByteArray} {st : S6} (s : Ss W (R6P b t (live st) :: Hs) w) (hg : st.gs.length ≤ 8) (ht : t.size ≤ 1000) (ha : st.at_ < t.size) : WP (Zcx (some (pt b 0))) w (fun r w' => match betM (strI t) st with
  | .error f => r = false ∧ Ss W (R6P b t ⟨st.gs, st.gap, (st.at_ : Int), f.1, (f.2 : Int)⟩ :: Hs) w'
  | .ok st2 => r = decide (Zgp (strI t) st.at_ ∧ st2.at_ = t.size) ∧ Ss W (R6P b t (live st2) :: Hs) w') := by
 have hl := Zbq t
 obtain ⟨g, sp, s⟩ := s.openR6
 have hgl := (s.vec_len (i := 1) rfl).1
 rw [List.length_map] at hgl
 have hgl : g.len = st.gs.length := hgl
 unfold Zcx
 refine WP.draw' s (fun w s => WP.nilck (WP.ld s 0 rfl (o := 0) (by simp [Addr.add]) (Zb5 _) (WP.nilck (WP.ld s 0 rfl (o := 3) rfl (Zby _) (WP.step (Zsw t ht st.at_ (by omega)) ?_)))))
 rintro _ _ ⟨rfl, rfl⟩
 refine WP.step (R := fun y w' => y = decide (Zgp (strI t) st.at_ ∧ (st.gap ≥ 0 ∨ st.gs.length = 8)) ∧ w = w') (WP.ite (fun h => WP.nilck (WP.ld s 0 rfl (o := 2) rfl (Zdw _) ?_)) (fun h => WP.ret ⟨(decide_eq_false fun h' => h (decide_eq_true h'.1)).symm, rfl⟩)) ?_
 ·have h := of_decide_eq_true h
  refine WP.step (R := fun y w' => y = decide (Zgp (strI t) st.at_ ∧ (st.gap ≥ 0 ∨ st.gs.length = 8)) ∧ w = w') (WP.ite (fun h2 => WP.ret ⟨(decide_eq_true ⟨h, .inl h2⟩).symm, rfl⟩) (fun h2 => WP.nilck (WP.ld s 0 rfl (o := 1) rfl (Zbm _) (WP.ret ⟨?_, rfl⟩)))) (fun r w h => WP.ret h)
  rw [Bool.eq_iff_iff, beq_iff_eq, decide_eq_true_iff]
  have h2 : ¬ st.gap ≥ 0 := h2
  exact ⟨fun h' => ⟨h, .inr (by have h' : (g.len : Int) = 8 := h'; omega)⟩, fun h' => by have := h'.2.resolve_left h2; show (g.len : Int) = 8; omega⟩
 rintro _ _ ⟨rfl, rfl⟩
 refine WP.ite (fun h => ?_) (fun h => ?_)
 ·obtain ⟨h1, h2⟩ := of_decide_eq_true h
  have e : betM (strI t) st = .error (44, st.at_) := by
   unfold betM ZcM
   rw [if_neg (fun h' => h' h1), if_pos h2]
  rw [e]
  refine WP.nilck (WP.ld s 0 rfl (o := 3) rfl (Zby _) (WP.step (ZhB s.closeR6 rfl _ _) (fun _ w s => WP.ret ⟨rfl, s⟩)))
 have h : ¬ (Zgp (strI t) st.at_ ∧ (st.gap ≥ 0 ∨ st.gs.length = 8)) := fun h' => h (decide_eq_true h')
 refine WP.ite (fun h1 => ?_) (fun h1 => ?_)
 ·have h1 := of_decide_eq_true h1
  have e : betM (strI t) st = .ok ⟨st.at_ + 2, st.gs, st.gs.length⟩ := by
   unfold betM ZcM
   rw [if_neg (fun h' => h' h1), if_neg (fun h' => h ⟨h1, h'⟩)]
   rfl
  rw [e]
  refine WP.nilck (WP.ld s 0 rfl (o := 1) rfl (Zbm _) (WP.nilck (WP.st s 0 rfl (o := 2) rfl (ZeI _ _) (fun w s => WP.nilck (WP.ld s 0 rfl (o := 3) rfl (Zby _) (WP.nilck ?_))))))
  refine WP.st s 0 rfl (o := 3) rfl (ZdX _ _) (fun w s => WP.draw' s (fun w s => WP.nilck (WP.ld s 0 rfl (o := 3) rfl (Zby _) (WP.nilck (WP.ld s 0 rfl (o := 0) (by simp [Addr.add]) (Zb5 _) (WP.ret ⟨?_, ?_⟩))))))
  ·simp only [live]
   rw [Zak (by omega) (by omega), Bool.eq_iff_iff, beq_iff_eq, decide_eq_true_iff]
   exact ⟨fun h' => ⟨h1, by omega⟩, fun h' => by have := h'.2; omega⟩
  ·refine Ss.closeR6 (g := g) (sp := sp) ?_
   have e3 : IntKind.wrap .i64 ((st.at_ : Int) + 2) = ((st.at_ + 2 : Nat) : Int) := by
    rw [Zak (by omega) (by omega)]
    omega
   simp only [live, hgl, e3] at s
   exact s
 ·have h1 : ¬ Zgp (strI t) st.at_ := fun h' => h1 (decide_eq_true h')
  have e : betM (strI t) st = if (strI t).getD st.at_ 0 ≠ 58 then .error (41, st.at_) else .ok ⟨st.at_ + 1, st.gs, st.gap⟩ := by
   unfold betM ZcM
   rw [if_pos h1]
   rfl
  rw [e]
  refine WP.draw' s (fun w s => WP.nilck (WP.ld s 0 rfl (o := 0) (by simp [Addr.add]) (Zb5 _) (WP.nilck (WP.ld s 0 rfl (o := 3) rfl (Zby _) (WP.chk ⟨by simp only [live]; omega, by simp only [live]; omega⟩ ?_)))))
  have esb : sb t (live st).p = (strI t).getD st.at_ 0 := Zct
  rw [esb]
  refine WP.ite (fun h2 => ?_) (fun h2 => ?_)
  ·rw [if_neg (fun h' => h' h2)]
   refine WP.nilck (WP.ld s 0 rfl (o := 3) rfl (Zby _) (WP.nilck (WP.st s 0 rfl (o := 3) rfl (ZdX _ _) (fun w s => WP.ret ⟨(decide_eq_false fun h' => h1 h'.1).symm, ?_⟩))))
   refine Ss.closeR6 (g := g) (sp := sp) ?_
   have e3 : IntKind.wrap .i64 ((st.at_ : Int) + 1) = ((st.at_ + 1 : Nat) : Int) := by
    rw [Zak (by omega) (by omega)]
    omega
   simp only [live, e3] at s
   exact s
  ·rw [if_pos h2]
   refine WP.nilck (WP.ld s 0 rfl (o := 3) rfl (Zby _) (WP.step (ZhB s.closeR6 rfl _ _) (fun _ w s => WP.ret ⟨rfl, s⟩)))
end
def endM (l : List Int) (st : S6) : Except Flt S6 := if st.gap < 0 ∧ st.gs.length ≠ 8 then .error (42, l.length) else .ok st
theorem Zpg {l : List Int} {f : Nat} {op : Bool} {st : S6} (h : ¬ (st.at_ = l.length ∧ op = true)) : ZeR l (f + 1) op st = match Zfd l st with
  | .error e => .error e
  | .ok (done, st1) => if done = true ∨ st1.at_ = l.length then endM l st1 else match betM l st1 with
   | .error e => .error e
   | .ok st2 => ZeR l f (decide (Zgp l st1.at_)) st2 := by
 conv => lhs; unfold ZeR
 rw [if_neg h]
 cases Zfd l st with
 | error e => rfl
 | ok x =>
  obtain ⟨done, st1⟩ := x
  simp only
  split
  ·rfl
  ·unfold betM
   by_cases hd : Zgp l st1.at_
   ·cases hm : ZcM l st1 with
    | error e => rfl
    | ok y =>
     obtain ⟨y, st2⟩ := y
     have hy : y = true := by
      unfold ZcM at hm
      rw [if_neg (fun h => h hd)] at hm
      split at hm
      ·cases hm
      ·cases hm
       rfl
     subst hy
     rw [decide_eq_true hd]
     rfl
   ·have hm : ZcM l st1 = .ok (false, st1) := by
     unfold ZcM
     rw [if_pos hd]
    rw [hm]
    simp only
    rw [if_neg (by decide), decide_eq_false hd]
    by_cases h58 : l.getD st1.at_ 0 ≠ 58
    ·rw [if_pos h58, if_neg (show ¬ false = true by decide), if_pos h58]
    ·rw [if_neg h58, if_neg (show ¬ false = true by decide), if_neg h58]
theorem Ztq {l : List Int} {st st2 : S6} (ok : Ok6 l st) (hn : st.at_ ≠ l.length) (h : betM l st = .ok st2) : Ok6 l st2 ∧ st2.gs = st.gs ∧ st.at_ < st2.at_ := by
 unfold betM at h
 have ha := ok.a
 cases hd : ZcM l st with
 | error e =>
  rw [hd] at h
  cases h
 | ok x =>
  obtain ⟨y, st'⟩ := x
  rw [hd] at h
  obtain ⟨m1, m2, m3⟩ := Zfl ok hd
  simp only at h
  have hgs : st'.gs = st.gs := by
   unfold ZcM at hd
   split at hd
   ·cases hd
    rfl
   ·split at hd
    ·cases hd
    ·cases hd
     rfl
  split at h
  ·rename_i hy
   cases h
   have := (m3 hy).1
   exact ⟨m1, hgs, by omega⟩
  ·rename_i hy
   have e2 := m2 (by simpa using hy)
   subst e2
   split at h
   ·cases h
   ·cases h
    exact ⟨⟨by show st'.at_ + 1 ≤ l.length; omega, m1.g, m1.p1, m1.p2, m1.p3, m1.v⟩, rfl, by show st'.at_ < st'.at_ + 1; omega⟩
theorem Zsj {l : List Int} {st : S6} {f : Flt} (ha : st.at_ ≤ l.length) (h : betM l st = .error f) : Bad l f := by
 unfold betM at h
 cases hd : ZcM l st with
 | error e =>
  rw [hd] at h
  cases h
  exact Zir ha hd
 | ok x =>
  obtain ⟨y, st'⟩ := x
  rw [hd] at h
  simp only at h
  split at h
  ·cases h
  ·rename_i hy
   split at h
   ·cases h
    have : st' = st := by
     unfold ZcM at hd
     split at hd
     ·cases hd
      rfl
     ·split at hd
      ·cases hd
      ·cases hd
       exact absurd rfl hy
    subst this
    exact ⟨by simp, ha⟩
   ·cases h
theorem ZqM {l : List Int} {st st1 : S6} {y : Bool} (h : Zfd l st = .ok (y, st1)) (hy : y = false) : st1.gs ≠ [] := by
 subst hy
 unfold Zfd at h
 split at h
 ·cases h
 ·split at h
  ·split at h
   ·cases h
   ·cases hf : ZfL l st.at_ with
    | error g =>
     rw [hf] at h
     cases h
    | ok x =>
     rw [hf] at h
     cases h
  ·split at h
   ·cases h
   ·split at h
    ·cases h
    ·cases h
     simp
def SixR (W : World) (Hs : List HP) (x : Except Flt S6) (r : Vec Int 16 × Int × Int) (w : World) : Prop :=
 match x with
 | .error f => r.2 = (f.1, (f.2 : Int)) ∧ Ss W Hs w
 | .ok st => r = (st.bytes, 0, 0) ∧ Ss W Hs w
def SixI (W : World) (Hs : List HP) (b : Nat) (t : ByteArray) (X : Except Flt S6) (g : Option (Nat × Bool × S6)) (y : Bool) (w : World) : Prop :=
 match g with
 | some (f, op, st) => y = false ∧ Ok6 (strI t) st ∧ (0 < st.at_ ↔ (st.gs ≠ [] ∨ st.gap ≥ 0)) ∧ t.size + 1 ≤ f + st.at_ ∧ ¬ (st.at_ = (strI t).length ∧ op = true) ∧ ZeR (strI t) f op st = X ∧ Ss W (R6P b t (live st) :: Hs) w
 | none => ∃ r : R6, (r.err = 0 → y = true ∧ ∃ st : S6, st.gs = r.gs ∧ st.gap = r.gap ∧ Ok6 (strI t) st ∧ X = endM (strI t) st) ∧ (r.err ≠ 0 → ∃ k : Nat, r.at_ = (k : Int) ∧ X = .error (r.err, k)) ∧ Ss W (R6P b t r :: Hs) w
section
variable {W w : World} {Hs : List HP}
theorem Zub {b : Nat} {t : ByteArray} {r : R6} {st : S6} (s : Ss W (R6P b t r :: Hs) w) (hgs : st.gs = r.gs) (hgap : st.gap = r.gap) (ok : Ok6 (strI t) st) : WP (Zci (fun s_ : (Int × (Vec Int 16)) => Zad.L1 b s_.1 s_.2) (0, (Vec.rep 16 0))) w (fun x w' => x = (st.bytes, 0, 0) ∧ Ss W Hs w') := by
 have o1 := ok.g
 have o2 := ok.p1
 have o3 := ok.p2
 have o4 := ok.p3
 obtain ⟨gs, gap, p, e, a⟩ := r
 simp only at hgs hgap
 subst hgs hgap
 obtain ⟨g, sp, s⟩ := s.openR6
 have hl := (s.vec_len (i := 1) rfl).1
 rw [List.length_map] at hl
 refine WP.loopG (γ := Nat) (fun i (p' : Int × Vec Int 16) w => p'.1 = (i : Int) ∧ p'.2.l = two (st.words i) ∧ i ≤ st.gs.length ∧ Ss W (R6Hs b t g ⟨st.gs, st.gap, p, e, a⟩ sp ++ Hs) w) (fun i _ => st.gs.length - i) 0 ⟨rfl, rfl, Nat.zero_le _, s⟩ ?_
 clear s
 rintro i ⟨_, v⟩ w ⟨rfl, hv, hi, s⟩
 simp only at hv
 show WP (Zad.L1 b (i : Int) v) w _
 unfold Zad.L1
 have K1 : ∀ {w : World} (j : Nat), j = st.pos i → i < st.gs.length → Ss W (R6Hs b t g ⟨st.gs, st.gap, p, e, a⟩ sp ++ Hs) w → WP (Zad.K1 b (i : Int) v (j : Int)) w (WP.Rd (fun p' w => ∃ g' : Nat, (p'.1 = (g' : Int) ∧ p'.2.l = two (st.words g') ∧ g' ≤ st.gs.length ∧ Ss W (R6Hs b t g ⟨st.gs, st.gap, p, e, a⟩ sp ++ Hs) w) ∧ st.gs.length - g' < st.gs.length - i) (fun x w' => x = (st.bytes, 0, 0) ∧ Ss W Hs w')) := by
  intro w j hj hil s
  have hj8 : j < 8 := by
   rw [hj]
   unfold S6.pos
   split <;> omega
  unfold Zad.K1
  have e1 : IntKind.wrap .i64 (2 * (j : Int)) = ((2 * j : Nat) : Int) := by
   rw [Zak (by omega) (by omega)]
   omega
  have e2 : IntKind.wrap .i64 (((2 * j : Nat) : Int) + 1) = ((2 * j + 1 : Nat) : Int) := by
   rw [Zak (by omega) (by omega)]
   omega
  rw [e1, e2]
  have hx : (st.gs.getD i 0) < 65536 := by
   rw [List.getD, List.getElem?_eq_getElem hil]
   exact ok.v _ (List.getElem_mem _)
  have hxi : (st.gs.map fun n : Nat => (n : Int))[Int.toNat (i : Int)]? = some ((st.gs.getD i 0 : Nat) : Int) := by
   rw [Int.toNat_natCast, List.getElem?_map, List.getD, List.getElem?_eq_getElem hil]
   rfl
  refine WP.ld s 0 rfl (o := 1) rfl (Zbm _) ?_
  refine WP.rdxp0 s 1 rfl ZbO (by omega) (x := ((st.gs.getD i 0 : Nat) : Int)) (y := ((st.gs.getD i 0 : Nat) : Int)) hxi rfl (At.whole _) (WP.chk ⟨by omega, by omega⟩ ?_)
  refine WP.ld s 0 rfl (o := 1) rfl (Zbm _) ?_
  refine WP.rdxp0 s 1 rfl ZbO (by omega) (x := ((st.gs.getD i 0 : Nat) : Int)) (y := ((st.gs.getD i 0 : Nat) : Int)) hxi rfl (At.whole _) (WP.chk ⟨by omega, by omega⟩ ?_)
  have d1 : IntKind.wrap .u8 (IntKind.wrap .i64 (Int.tdiv ((st.gs.getD i 0 : Nat) : Int) 256)) = ((st.gs.getD i 0 / 256 : Nat) : Int) := by
   rw [Int.tdiv_eq_ediv_of_nonneg (by omega), Zak (by omega) (by omega), ZeS (by omega) (by omega)]
   omega
  have d2 : IntKind.wrap .u8 (Int.tmod ((st.gs.getD i 0 : Nat) : Int) 256) = ((st.gs.getD i 0 % 256 : Nat) : Int) := by
   rw [Int.tmod_eq_emod_of_nonneg (by omega), ZeS (by omega) (by omega)]
   omega
  rw [d1, d2]
  refine WP.next ⟨i + 1, ⟨?_, ?_, by omega, s⟩, by omega⟩
  ·show IntKind.wrap .i64 ((i : Int) + 1) = _
   rw [Zak (by omega) (by omega)]
   omega
  ·show ((v.l.set _ _).set _ _) = _
   rw [hv, Int.toNat_natCast, Int.toNat_natCast, ZnF, hj]
   rfl
 refine WP.ld s 0 rfl (o := 1) rfl (Zbm _) ?_
 refine WP.ite (fun h => ?_) (fun h => WP.done ⟨?_, s.drop.drop⟩)
 ·have h : (i : Int) < (g.len : Int) := h
  have hl : g.len = st.gs.length := hl
  have hil : i < st.gs.length := by omega
  refine WP.ld s 0 rfl (o := 2) rfl (Zdw _) ?_
  refine WP.step (R := fun y w' => y = decide (st.gap ≥ 0 ∧ (i : Int) ≥ st.gap) ∧ w = w') (WP.ite (fun h => WP.ld s 0 rfl (o := 2) rfl (Zdw _) (WP.ret ⟨?_, rfl⟩)) (fun h => WP.ret ⟨?_, rfl⟩)) ?_
  ·show decide ((i : Int) ≥ st.gap) = _
   exact decide_eq_decide.2 ⟨fun h' => ⟨h, h'⟩, fun h' => h'.2⟩
  ·exact (decide_eq_false fun h' => h h'.1).symm
  rintro _ _ ⟨rfl, rfl⟩
  refine WP.ite (fun h => ?_) (fun h => ?_)
  ·have h := of_decide_eq_true h
   refine WP.ld s 0 rfl (o := 1) rfl (Zbm _) ?_
   have e1 : IntKind.wrap .i64 (IntKind.wrap .i64 (8 - (g.len : Int)) + (i : Int)) = ((i + (8 - st.gs.length) : Nat) : Int) := by
    rw [Zak (n := 8 - _) (by omega) (by omega), Zak (by omega) (by omega)]
    omega
   simp only
   rw [e1]
   exact K1 _ (by unfold S6.pos; rw [if_pos h]) hil s
  ·exact K1 _ (by unfold S6.pos; rw [if_neg (fun h' => h (decide_eq_true h'))]) hil s
 ·have h : ¬ (i : Int) < (g.len : Int) := h
  have hl : g.len = st.gs.length := hl
  have : i = st.gs.length := by omega
  subst this
  have : v = st.bytes := Vec.eq hv
  rw [this]
theorem ZtX {b : Nat} {t : ByteArray} {X : Except Flt S6} {y : Bool} (s : SixI W Hs b t X none y w) : WP (Zad.K3 t b) w (SixR W Hs X) := by
 have hl := Zbq t
 obtain ⟨r, h1, h2, s⟩ := s
 have K2 : ∀ {r : R6} {w : World}, (r.err = 0 → ∃ st : S6, st.gs = r.gs ∧ st.gap = r.gap ∧ Ok6 (strI t) st ∧ X = .ok st) → (r.err ≠ 0 → ∃ k : Nat, r.at_ = (k : Int) ∧ X = .error (r.err, k)) → Ss W (R6P b t r :: Hs) w → WP (Zad.K2 b) w (SixR W Hs X) := by
  intro r w h1 h2 s
  unfold Zad.K2
  obtain ⟨g, sp, s⟩ := s.openR6
  refine WP.ld s 0 rfl (o := 4) rfl (Zcn _) (WP.ite (fun h => ?_) (fun h => ?_))
  ·have h : r.err ≠ 0 := h
   obtain ⟨k, k1, k2⟩ := h2 h
   refine WP.draw' s (fun w s => WP.ld s 0 rfl (o := 4) rfl (Zcn _) (WP.ld s 0 rfl (o := 5) rfl (Zf3 _) (WP.same s 0 rfl (o := 5) rfl (Zf3 _) (WP.same s 0 rfl (o := 4) rfl (Zcn _) (WP.ret ?_)))))
   rw [k2]
   refine ⟨?_, s.drop.drop⟩
   simp only
   rw [k1]
  ·have h : r.err = 0 := Decidable.not_not.1 h
   obtain ⟨st, e1, e2, e3, e4⟩ := h1 h
   rw [e4]
   exact Zub s.closeR6 e1 e2 e3
 unfold Zad.K3
 obtain ⟨g, sp, s⟩ := s.openR6
 have hgl := (s.vec_len (i := 1) rfl).1
 rw [List.length_map] at hgl
 have hgl : g.len = r.gs.length := hgl
 refine WP.ld s 0 rfl (o := 4) rfl (Zcn _) ?_
 refine WP.step (R := fun z w' => z = decide (r.err = 0 ∧ r.gap < 0) ∧ w = w') (WP.ite (fun h => WP.ld s 0 rfl (o := 2) rfl (Zdw _) (WP.ret ⟨?_, rfl⟩)) (fun h => WP.ret ⟨?_, rfl⟩)) ?_
 ·have h : r.err = 0 := h
  show decide (r.gap < 0) = _
  exact decide_eq_decide.2 ⟨fun h' => ⟨h, h'⟩, fun h' => h'.2⟩
 ·have h : ¬ r.err = 0 := h
  exact (decide_eq_false fun h' => h h'.1).symm
 rintro _ _ ⟨rfl, rfl⟩
 refine WP.step (R := fun z w' => z = decide (r.err = 0 ∧ r.gap < 0 ∧ r.gs.length < 8) ∧ w = w') (WP.ite (fun h => WP.ld s 0 rfl (o := 1) rfl (Zbm _) (WP.ret ⟨?_, rfl⟩)) (fun h => WP.ret ⟨?_, rfl⟩)) ?_
 ·have h := of_decide_eq_true h
  show decide ((g.len : Int) < 8) = _
  exact decide_eq_decide.2 ⟨fun h' => ⟨h.1, h.2, by omega⟩, fun h' => by omega⟩
 ·exact (decide_eq_false fun h' => h (decide_eq_true ⟨h'.1, h'.2.1⟩)).symm
 rintro _ _ ⟨rfl, rfl⟩
 refine WP.ite (fun h => ?_) (fun h => ?_)
 ·obtain ⟨e0, e1, e2⟩ := of_decide_eq_true h
  obtain ⟨_, st, f1, f2, f3, f4⟩ := h1 e0
  refine WP.step (ZhB s.closeR6 e0 _ _) (fun _ w s => K2 (fun h => absurd h (by simp)) (fun _ => ⟨t.size, rfl, ?_⟩) s)
  rw [f4]
  unfold endM
  rw [if_pos (by rw [f1, f2]; exact ⟨e1, by omega⟩), hl]
 ·have h : ¬ (r.err = 0 ∧ r.gap < 0 ∧ r.gs.length < 8) := fun h' => h (decide_eq_true h')
  refine K2 (fun e0 => ?_) h2 s.closeR6
  obtain ⟨_, st, f1, f2, f3, f4⟩ := h1 e0
  refine ⟨st, f1, f2, f3, ?_⟩
  rw [f4]
  unfold endM
  have := f3.g
  rw [if_neg (fun h' => h ⟨e0, by rw [← f2]; exact h'.1, by rw [← f1]; omega⟩)]
theorem Zl6 {b : Nat} {t : ByteArray} (ht : t.size ≤ 1000) {X : Except Flt S6} {g : Option (Nat × Bool × S6)} {y : Bool} (s : SixI W Hs b t X g y w) : WP (Zad.K4 t b y) w (SixR W Hs X) := by
 have hl := Zbq t
 unfold Zad.K4
 refine WP.loopG (γ := Option (Nat × Bool × S6)) (fun g (y : Bool) w => SixI W Hs b t X g y w) (fun g _ => match g with | some (f, _, _) => f + 1 | none => 0) g s ?_
 clear s g y
 rintro g y w s
 unfold Zad.L2
 cases g with
 | none =>
  have s0 := s
  obtain ⟨r, h1, h2, s⟩ := s
  obtain ⟨g, sp, s⟩ := s.openR6
  refine WP.step (R := fun z w' => z = false ∧ w = w') (WP.ite (fun h => WP.ld s 0 rfl (o := 4) rfl (Zcn _) (WP.ret ⟨?_, rfl⟩)) (fun h => WP.ret ⟨rfl, rfl⟩)) ?_
  ·refine beq_eq_false_iff_ne.2 fun h' => h (h1 h').1
  rintro _ _ ⟨rfl, rfl⟩
  refine WP.ite (fun h => by cases h) (fun _ => WP.step (ZtX s0) (fun r w h => WP.done h))
 | some x =>
  obtain ⟨f, op, st⟩ := x
  obtain ⟨rfl, ok, hp, hf, hop, hX, s⟩ := s
  have oka := ok.a
  have okg := ok.g
  obtain ⟨f, rfl⟩ : ∃ k, f = k + 1 := ⟨f - 1, by omega⟩
  rw [Zpg hop] at hX
  refine WP.step (R := fun z w' => z = true ∧ w = w') (WP.ite (fun h => ?_) (fun h => absurd (by decide) h)) ?_
  ·obtain ⟨g, sp, s⟩ := s.openR6
   exact WP.ld s 0 rfl (o := 4) rfl (Zcn _) (WP.ret ⟨rfl, rfl⟩)
  rintro _ _ ⟨rfl, rfl⟩
  refine WP.ite (fun _ => WP.step (Zp2 s okg ht (by omega) hp) ?_) (fun h => absurd rfl h)
  clear s
  intro r w hr
  cases hg : Zfd (strI t) st with
  | error e =>
   rw [hg] at hr hX
   obtain ⟨rfl, s⟩ := hr
   have hb := (ZlK (l := strI t) (st := st) (by omega) hg).1
   refine WP.step (R := fun z w' => z = false ∧ w = w') (WP.ite (fun h => absurd rfl h) (fun _ => WP.ret ⟨rfl, rfl⟩)) ?_
   rintro _ _ ⟨rfl, rfl⟩
   refine WP.ite (fun h => by cases h) (fun _ => WP.next ⟨none, ⟨_, fun h => absurd h hb, fun _ => ⟨e.2, rfl, hX.symm⟩, s⟩, by simp only; omega⟩)
  | ok x =>
   obtain ⟨done, st1⟩ := x
   rw [hg] at hr hX
   obtain ⟨rfl, p, hpp, s⟩ := hr
   obtain ⟨k1, -, k2⟩ := ZiU ok hg
   simp only at hX
   by_cases hd : done = true ∨ st1.at_ = (strI t).length
   ·rw [if_pos hd] at hX
    rw [hl] at hd
    rw [decide_eq_true hd]
    refine WP.step (R := fun z w' => z = false ∧ w = w') (WP.ite (fun h => absurd rfl h) (fun _ => WP.ret ⟨rfl, rfl⟩)) ?_
    rintro _ _ ⟨rfl, rfl⟩
    refine WP.ite (fun h => by cases h) (fun _ => WP.next ⟨none, ⟨_, fun _ => ⟨rfl, st1, rfl, rfl, k1, hX.symm⟩, fun h => absurd rfl h, s⟩, by simp only; omega⟩)
   ·rw [if_neg hd] at hX
    have hne : st1.at_ ≠ (strI t).length := fun h => hd (.inr h)
    have hdf : done = false := by cases done with | false => rfl | true => exact absurd (.inl rfl) hd
    have k3 := k2 hdf
    have k1a := k1.a
    have k1g := k1.g
    rw [hl] at hd
    rw [decide_eq_false hd]
    have hpe := hpp hdf
    subst hpe
    have s : Ss W (R6P b t (live st1) :: Hs) w := s
    refine WP.step (R := fun z w' => z = true ∧ w = w') (WP.ite (fun h => ?_) (fun h => absurd (by decide) h)) ?_
    ·obtain ⟨g, sp, s⟩ := s.openR6
     exact WP.ld s 0 rfl (o := 4) rfl (Zcn _) (WP.ret ⟨rfl, rfl⟩)
    rintro _ _ ⟨rfl, rfl⟩
    refine WP.ite (fun _ => WP.step (ZpB s k1g ht (by omega)) ?_) (fun h => absurd rfl h)
    clear s
    intro r w hr
    cases hb : betM (strI t) st1 with
    | error e =>
     rw [hb] at hr hX
     obtain ⟨rfl, s⟩ := hr
     have hbad := (Zsj k1.a hb).1
     exact WP.next ⟨none, ⟨_, fun h => absurd h hbad, fun _ => ⟨e.2, rfl, hX.symm⟩, s⟩, by simp only; omega⟩
    | ok st2 =>
     rw [hb] at hr hX
     obtain ⟨rfl, s⟩ := hr
     simp only at hX
     obtain ⟨m1, m2, m3⟩ := Ztq k1 hne hb
     have m1a := m1.a
     by_cases hend : Zgp (strI t) st1.at_ ∧ st2.at_ = t.size
     ·rw [decide_eq_true hend]
      have hfp : ∃ q, f = q + 1 := ⟨f - 1, by omega⟩
      obtain ⟨q, rfl⟩ := hfp
      rw [decide_eq_true hend.1] at hX
      unfold ZeR at hX
      rw [if_pos ⟨by omega, rfl⟩] at hX
      refine WP.next ⟨none, ⟨_, fun _ => ⟨rfl, st2, rfl, rfl, m1, ?_⟩, fun h => absurd rfl h, s⟩, by simp only; omega⟩
      rw [← hX]
      unfold endM
      have hgap : st2.gap ≥ 0 := by
       unfold betM ZcM at hb
       rw [if_neg (fun h => h hend.1)] at hb
       split at hb
       ·cases hb
       ·rename_i x y z hz
        split at hz
        ·cases hz
        ·cases hz
         simp only at hb
         cases hb
         simp only
         omega
      rw [if_neg (by omega)]
     ·rw [decide_eq_false hend]
      refine WP.next ⟨some (f, decide (Zgp (strI t) st1.at_), st2), ⟨rfl, m1, ⟨fun _ => .inl (by rw [m2]; exact ZqM hg hdf), fun _ => by omega⟩, by omega, fun h => hend ⟨of_decide_eq_true h.2, by omega⟩, hX, s⟩, by simp only; omega⟩
theorem ZrB (s : Ss W Hs w) (t : ByteArray) (ht : t.size ≤ 1000) : WP (Zad t) w (SixR W Hs (Zhr (strI t))) := by
 have hl := Zbq t
 unfold Zad
 refine WP.slot' s (fun _ w s => WP.slot' s (fun _ w s => WP.newv s (fun b w s => ?_)))
 have s : Ss W (R6P b t ⟨[], -1, 0, 0, 0⟩ :: Hs) w := Ss.closeR6 (g := Sl.nil) (sp := []) ((s.mk0 (A := vec (cI .i64) Sl.nil [] []) Zch).use [1, 0] (r := Hs) rfl)
 refine WP.step (Zsw t ht 0 (Nat.zero_le _)) ?_
 rintro _ _ ⟨rfl, rfl⟩
 refine WP.ite (fun h => ?_) (fun h => ?_)
 ·have h := of_decide_eq_true h
  have hX : Zhr (strI t) = ZeR (strI t) ((strI t).length + 1) true ⟨2, [], 0⟩ := by
   unfold Zhr ZcM
   rw [if_neg (fun h' => h' h), if_neg (by simp)]
   rfl
  have h2 := (Zq2.1 h).1
  obtain ⟨g, sp, s⟩ := s.openR6
  refine WP.st s 0 rfl (o := 2) rfl (ZeI _ _) (fun w s => ?_)
  refine WP.st s 0 rfl (o := 3) rfl (ZdX _ _) (fun w s => ?_)
  have s : Ss W (R6P b t (live ⟨2, [], 0⟩) :: Hs) w := Ss.closeR6 (g := g) (sp := sp) s
  have ok2 : Ok6 (strI t) ⟨2, [], 0⟩ := ⟨by show 2 ≤ _; omega, by simp, by simp, by simp, fun h => by simp, fun x h => by cases h⟩
  by_cases h3 : t.size = 2
  ·rw [show ((t.size : Int) == 2) = true from beq_iff_eq.2 (by omega)]
   refine Zl6 ht (g := none) ⟨_, fun _ => ⟨rfl, ⟨2, [], 0⟩, rfl, rfl, ok2, ?_⟩, fun h => absurd rfl h, s⟩
   rw [hX]
   unfold ZeR
   rw [if_pos ⟨by show 2 = _; omega, rfl⟩]
   rfl
  ·rw [show ((t.size : Int) == 2) = false from beq_eq_false_iff_ne.2 (by omega)]
   exact Zl6 ht (g := some ((strI t).length + 1, true, ⟨2, [], 0⟩)) ⟨rfl, ok2, by simp, by simp only; omega, fun h => h3 (by have : 2 = (strI t).length := h.1; omega), hX.symm, s⟩
 ·have h : ¬ Zgp (strI t) 0 := fun h' => h (decide_eq_true h')
  have hX : Zhr (strI t) = ZeR (strI t) ((strI t).length + 1) false ⟨0, [], -1⟩ := by
   unfold Zhr ZcM
   rw [if_pos h]
   rfl
  have ok0 : Ok6 (strI t) ⟨0, [], -1⟩ := ⟨by simp, by simp, by simp, by simp, fun h => by simp, fun x h => by cases h⟩
  exact Zl6 ht (g := some ((strI t).length + 1, false, ⟨0, [], -1⟩)) ⟨rfl, ok0, by simp, by simp only; omega, fun h => (by cases h.2), hX.symm, s⟩
end
section
variable {W w : World} {Hs : List HP}
theorem ZkF (s : Ss W Hs w) (t : ByteArray) : WP (Zbc t) w (fun r w' => r = ipM (strI t) ∧ Ss W Hs w') := by
 have hl := Zbq t
 unfold Zbc ipM ZeZ
 refine WP.slot' s (fun _ w s => WP.ite (fun h => WP.ret ⟨?_, s⟩) (fun h => WP.step (Zuj s t (by omega) 58) ?_))
 ·rw [if_pos (by omega)]
  rfl
 rw [if_neg (by omega)]
 rintro _ w ⟨rfl, s⟩
 refine WP.ite (fun h58 => WP.step (ZrB s t (by omega)) ?_) (fun h58 => WP.step (Zlv s t (by omega) 0 (Nat.zero_le _)) ?_)
 ·rw [if_pos (of_decide_eq_true h58)]
  intro r w hr
  cases hm : Zhr (strI t) with
  | error f =>
   rw [hm] at hr
   obtain ⟨hr, s⟩ := hr
   obtain ⟨v, e, a⟩ := r
   cases hr
   have hb := (ZmT hm).1
   exact WP.slot' s (fun _ w s => WP.ite (fun _ => WP.ret ⟨rfl, s⟩) (fun h => absurd hb h))
  | ok st =>
   rw [hm] at hr
   obtain ⟨rfl, s⟩ := hr
   exact WP.slot' s (fun _ w s => WP.ite (fun h => absurd rfl h) (fun _ => WP.ret ⟨rfl, s⟩))
 ·rw [if_neg (fun h => h58 (decide_eq_true h))]
  rintro ⟨sl, e, at'⟩ w hr
  cases hm : ZfL (strI t) 0 with
  | error f =>
   rw [hm] at hr
   obtain ⟨hr, s⟩ := hr
   cases hr
   have hb := (ZiV (Nat.zero_le _) hm).1
   exact WP.ite (fun _ => WP.ret ⟨rfl, s⟩) (fun h => absurd hb h)
  | ok a =>
   rw [hm] at hr
   obtain ⟨hr, sp, s⟩ := hr
   cases hr
   obtain ⟨a4, a5⟩ := ZgZ (Nat.zero_le _) hm
   obtain ⟨n1, n2, n3, n4, rfl⟩ : ∃ n1 n2 n3 n4, a = [n1, n2, n3, n4] := by
    match a, a4 with
    | [n1, n2, n3, n4], _ => exact ⟨n1, n2, n3, n4, rfl⟩
   refine WP.ite (fun h => absurd rfl h) (fun _ => WP.slot' s (fun _ w s => ?_))
   refine WP.loopG (γ := Nat) (fun i (x : Int × Zbs) w => x.1 = (i : Int) ∧ i ≤ 4 ∧ x.2 = ⟨4, v4V ([n1, n2, n3, n4].take i)⟩ ∧ Ss W (vec (cI .u8) sl ([n1, n2, n3, n4].map (fun n : Nat => (n : Int))) sp :: Hs) w) (fun i _ => 4 - i) 0 ⟨rfl, by omega, rfl, s⟩ ?_
   clear s
   rintro i ⟨_, _⟩ w ⟨rfl, hi, rfl, s⟩
   show WP (Zbc.L1 (sl, 0, 0) (i : Int) ⟨4, v4V ([n1, n2, n3, n4].take i)⟩) w _
   unfold Zbc.L1
   refine WP.ite (fun h => ?_) (fun h => WP.done ⟨?_, s.drop⟩)
   ·have hi4 : i < 4 := by omega
    refine WP.rdxp0 s 0 rfl ZbO (by omega) (x := (([n1, n2, n3, n4].getD i 0 : Nat) : Int)) (y := (([n1, n2, n3, n4].getD i 0 : Nat) : Int)) ?_ rfl (At.whole _) (WP.chk ⟨by omega, by omega⟩ ?_)
    ·rw [Int.toNat_natCast]
     match i, hi4 with
     | 0, _ => rfl
     | 1, _ => rfl
     | 2, _ => rfl
     | 3, _ => rfl
    ·rw [Zak (by omega) (by omega)]
     refine WP.next ⟨i + 1, ⟨by simp, hi4, ?_, s⟩, by omega⟩
     match i, hi4 with
     | 0, _ => rfl
     | 1, _ => rfl
     | 2, _ => rfl
     | 3, _ => rfl
   ·have : i = 4 := by omega
    subst this
    rfl
theorem ZkE (s : Ss W Hs w) (t : ByteArray) : WP (Zae t) w (fun r w' => r = Zjm (strI t) ∧ Ss W Hs w') := by
 have hl := Zbq t
 unfold Zae Zjm
 refine WP.slot' s (fun _ w s => WP.ite (fun h => WP.ret ⟨?_, s⟩) (fun h => ?_))
 ·unfold ZkG
  rw [if_pos (by omega)]
  rfl
 have h49 : ¬ (strI t).length > 49 := by omega
 have hfl := Zk0 (strI t) 47
 refine WP.loopG (γ := Nat) (fun k (x : Int) w => x = (k : Int) ∧ k ≤ ZbA (strI t) 47 ∧ Ss W Hs w) (fun k _ => t.size - k) 0 ⟨rfl, Nat.zero_le _, s⟩ ?_
 clear s
 rintro k _ w ⟨rfl, hk, s⟩
 show WP (Zae.L2 t (k : Int)) w _
 unfold Zae.L2
 have hgo := Zhl (p := fun c => decide (c ≠ 47)) (l := strI t) (i := 0) (k := k) (Nat.zero_le _) hk
 have hgo : (k < t.size ∧ (strI t).getD k 0 ≠ 47) ↔ k < ZbA (strI t) 47 := by
  rw [← hl, show (k < ZbA (strI t) 47) ↔ _ from hgo.symm]
  simp
 refine WP.step (R := fun y w' => y = decide (k < ZbA (strI t) 47) ∧ w = w') (WP.ite (fun h => WP.chk ⟨by omega, by omega⟩ (WP.ret ⟨?_, rfl⟩)) (fun h => WP.ret ⟨?_, rfl⟩)) ?_
 ·rw [Zct, Bool.eq_iff_iff, decide_eq_true_iff, ← hgo, bne_iff_ne]
  exact ⟨fun h' => ⟨by omega, h'⟩, And.right⟩
 ·exact (decide_eq_false fun h' => h (by have := (hgo.2 h').1; omega)).symm
 rintro _ _ ⟨rfl, rfl⟩
 refine WP.ite (fun h => ?_) (fun h => ?_)
 ·have h := of_decide_eq_true h
  rw [Zak (by omega) (by omega)]
  exact WP.next ⟨k + 1, ⟨by simp, by omega, s⟩, by omega⟩
 have hk : ZbA (strI t) 47 = k := by
  have : ¬ k < ZbA (strI t) 47 := fun h' => h (decide_eq_true h')
  omega
 refine WP.step ?_ (fun r w h => WP.done h)
 unfold Zae.K2 ZkG
 rw [if_neg h49, hk]
 refine WP.ite (fun h => WP.ret ⟨?_, s⟩) (fun h => WP.chk ⟨by omega, by omega, by omega⟩ (WP.step (ZkF s _) ?_))
 ·rw [if_neg (by omega)]
  simp only
  rw [hl]
 rw [if_pos (by omega)]
 have ex : strI (ByteArray.extract t (Int.toNat 0) (Int.toNat (k : Int))) = (strI t).take k := by
  rw [Zcm]
  simp
 rw [ex]
 rintro _ w ⟨rfl, s⟩
 cases hm : ZeZ ((strI t).take k) with
 | error f =>
  have hb := (ZhO hm).1
  have e : ipM ((strI t).take k) = (ZcL, f.1, (f.2 : Int)) := by
   unfold ipM
   rw [hm]
  rw [e]
  exact WP.slot' s (fun _ w s => WP.ite (fun _ => WP.ret ⟨rfl, s⟩) (fun h => absurd hb h))
 | ok ip =>
  have hsz := ZkJ hm
  have hby := ZfP hm
  have e : ipM ((strI t).take k) = (ip, 0, 0) := by
   unfold ipM
   rw [hm]
  rw [e]
  refine WP.slot' s (fun _ w s => WP.ite (fun h => absurd rfl h) (fun _ => ?_))
  simp only
  have hk1 : k + 1 ≤ t.size := by omega
  have ek : IntKind.wrap .i64 ((k : Int) + 1) = ((k + 1 : Nat) : Int) := by
   rw [Zak (by omega) (by omega)]
   omega
  rw [ek]
  obtain ⟨r1, r2⟩ := Zhk (p := ZcT) (l := strI t) (i := k + 1) (by omega)
  refine WP.loopG (γ := Nat) (fun q (x : Int) w => x = (q : Int) ∧ k + 1 ≤ q ∧ q ≤ runE ZcT (strI t) (k + 1) ∧ Ss W Hs w) (fun q _ => t.size - q) (k + 1) ⟨rfl, Nat.le_refl _, r1, s⟩ ?_
  clear s
  rintro q _ w ⟨rfl, q1, q2, s⟩
  show WP (Zae.L1 t (k : Int) (ip, 0, 0) (q : Int)) w _
  unfold Zae.L1
  have hgo := Zhl q1 q2
  rw [hl] at hgo
  refine WP.step (R := fun y w' => y = decide (q < runE ZcT (strI t) (k + 1)) ∧ w = w') (WP.ite (fun h => WP.chk ⟨by omega, by omega⟩ (WP.step (ZkC _) ?_)) (fun h => WP.ret ⟨?_, rfl⟩)) ?_
  ·rintro _ _ ⟨rfl, rfl⟩
   refine WP.ret ⟨?_, rfl⟩
   rw [Zct, Bool.eq_iff_iff, decide_eq_true_iff, ← hgo]
   exact ⟨fun h' => ⟨by omega, h'⟩, fun h' => h'.2⟩
  ·refine (decide_eq_false fun h' => ?_).symm
   have := hgo.2 h'
   omega
  rintro _ _ ⟨rfl, rfl⟩
  refine WP.ite (fun h => WP.next ⟨q + 1, ⟨?_, by omega, by have := of_decide_eq_true h; omega, s⟩, by have := of_decide_eq_true h; omega⟩) (fun h => ?_)
  ·rw [Zak (by omega) (by omega)]
   simp
  have hq : q = runE ZcT (strI t) (k + 1) := by
   have : ¬ q < runE ZcT (strI t) (k + 1) := fun h' => h (decide_eq_true h')
   omega
  have hdig : ∀ j, k + 1 ≤ j → j < q → ZcT ((strI t).getD j 0) = true := fun j j1 j2 => ZgT j1 (by omega)
  have hnm := ZoI (strI t) (k + 1) (Zdh ip) 45
  rw [← hq] at hnm
  rw [hnm]
  refine WP.step ?_ (fun r w h => WP.done h)
  unfold Zae.K1
  rw [ek]
  refine WP.ite (fun h => WP.step (Zmq t q (by omega)) ?_) (fun h => ?_)
  ·rintro _ _ ⟨rfl, rfl⟩
   rw [if_pos (by omega), show q = k + 1 by omega]
   exact WP.ret ⟨rfl, s⟩
  rw [if_neg (by omega)]
  refine WP.step (Zoq s ip hsz) ?_
  rintro _ w ⟨rfl, s⟩
  refine WP.step (ZlQ s t (by omega) q1 (by omega) (Zdh ip) hdig) ?_
  rintro _ w ⟨rfl, s⟩
  refine WP.ite (fun h => WP.ret ⟨by rw [if_pos h], s⟩) (fun h => ?_)
  rw [if_neg h]
  simp only
  have hcast : (((Zj4 (strI t) (k + 1) q (Zdh ip)).toNat : Nat) : Int) = Zj4 (strI t) (k + 1) q (Zdh ip) := by omega
  refine WP.ite (fun h => WP.ret ⟨by rw [if_pos (by omega)], s⟩) (fun h => ?_)
  rw [if_neg (by omega), hcast]
  refine WP.slot' s (fun _ w s => WP.step (Zhv s ⟨ip, _⟩ hby) ?_)
  rintro _ w ⟨rfl, s⟩
  refine WP.ite (fun h => WP.ret ⟨by rw [if_pos h]; rfl, s⟩) (fun h => WP.ret ⟨by rw [if_neg h], s⟩)
end
section
variable {W w : World} {Hs : List HP} {b : Nat} {e : Int} {m : ZbN} {ws : List Wd} {sn : List (List Int)} {f : PF}
def OptR {α : Type} (r : α × Bool) (o : Option α) : Prop := r.2 = o.isSome ∧ ∀ p, o = some p → r.1 = p
theorem Zlq (s : Ss W Hs w) (t : ByteArray) : WP (Zdd t) w (fun r w' => OptR r (netR (strI t)) ∧ Ss W Hs w') := by
 unfold Zdd
 refine WP.slot' s (fun _ w s => WP.step (ZkE s t) ?_)
 rintro _ w ⟨rfl, s⟩
 refine WP.slot' s (fun _ w s => ?_)
 unfold netR Zjm
 cases hp : ZkG (strI t) with
 | ok p => exact WP.ite (fun _ => WP.ret ⟨⟨rfl, fun p h => Option.some.inj h⟩, s⟩) (fun h => absurd rfl h)
 | error f =>
  refine WP.ite (fun h => absurd h (ZmW hp).1) (fun _ => WP.step (ZkF s t) ?_)
  rintro _ w ⟨rfl, s⟩
  unfold ipM
  refine WP.slot' s (fun _ w s => ?_)
  cases hi : ZeZ (strI t) with
  | error f => exact WP.ite (fun _ => WP.ret ⟨⟨rfl, fun p h => by cases h⟩, s⟩) (fun h => absurd (ZhO hi).1 h)
  | ok ip =>
   have hz := ZkJ hi
   unfold Zdh at hz
   refine WP.ite (fun h => absurd rfl h) (fun _ => WP.ite (fun h4 => WP.ret ⟨⟨rfl, fun p h => ?_⟩, s⟩) (fun h4 => WP.ret ⟨⟨rfl, fun p h => ?_⟩, s⟩))
   ·have h4 : ip.V = 4 := h4
    rw [← Option.some.inj h, if_neg (by omega)]
   ·have h4 : ¬ ip.V = 4 := h4
    have h6 : ip.V = 6 := Decidable.byContradiction fun h6 => by
     rw [if_neg h6, if_neg (fun h => h4 h.1)] at hz
     omega
    rw [← Option.some.inj h, if_pos h6]
theorem ZjT (s : Ss W Hs w) (a c : List Int) : WP (Zar.K1 (numX a 0 65535) (numX c 0 65535)) w (fun r w' => OptR r (Zha (numR a 0 65535) (numR c 0 65535)) ∧ Ss W Hs w') := by
 unfold Zar.K1
 cases ha : numR a 0 65535 with
 | none =>
  rw [ZiQ ha]
  refine WP.step (R := fun y w' => y = false ∧ w = w') (WP.ite (fun h => absurd h (by decide)) (fun _ => WP.ret ⟨rfl, rfl⟩)) ?_
  rintro _ _ ⟨rfl, rfl⟩
  exact WP.ret ⟨⟨rfl, fun p h => by cases h⟩, s⟩
 | some v =>
  have hv := Zmd ha
  rw [ZiP ha]
  refine WP.step (R := fun y w' => y = decide (numX c 0 65535 ≥ v) ∧ w = w') (WP.ite (fun h => WP.ret ⟨rfl, rfl⟩) (fun h => absurd hv.1 h)) ?_
  rintro _ _ ⟨rfl, rfl⟩
  refine WP.ret ⟨?_, s⟩
  unfold OptR Zha
  cases hc : numR c 0 65535 with
  | none =>
   rw [ZiQ hc]
   exact ⟨decide_eq_false (by omega), fun p h => by cases h⟩
  | some u =>
   rw [ZiP hc]
   simp only
   by_cases hvu : v ≤ u
   ·rw [if_pos hvu]
    exact ⟨decide_eq_true hvu, fun p h => Option.some.inj h⟩
   ·rw [if_neg hvu]
    exact ⟨decide_eq_false hvu, fun p h => by cases h⟩
theorem Zkj (s : Ss W Hs w) (t : ByteArray) (ht : (strI t).length ≤ 1024) : WP (Zar t) w (fun r w' => OptR r (Zhu (strI t)) ∧ Ss W Hs w') := by
 have hl := Zbq t
 have hle := Zk0 (strI t) 45
 unfold Zar
 refine WP.slot' s (fun _ w s => ?_)
 refine WP.loopG (γ := Nat) (fun i (x : Int) w => x = (i : Int) ∧ i ≤ ZbA (strI t) 45 ∧ Ss W Hs w) (fun i _ => t.size - i) 0 ⟨rfl, Nat.zero_le _, s⟩ ?_
 clear s
 rintro i _ w ⟨rfl, hi, s⟩
 show WP (Zar.L1 t (i : Int)) w _
 unfold Zar.L1
 refine WP.step (R := fun y w' => y = decide (i < ZbA (strI t) 45) ∧ w = w') (WP.ite (fun h => WP.chk ⟨by omega, h⟩ (WP.ret ⟨?_, rfl⟩)) (fun h => WP.ret ⟨(decide_eq_false (by omega)).symm, rfl⟩)) ?_
 ·rw [Zct, Bool.eq_iff_iff, bne_iff_ne, decide_eq_true_iff]
  constructor
  ·intro h2
   refine Decidable.byContradiction fun h3 => h2 ?_
   have : i = ZbA (strI t) 45 := by omega
   rw [this]
   exact ZiY (by omega)
  ·intro h2
   exact ZkZ h2
 rintro _ _ ⟨rfl, rfl⟩
 refine WP.ite (fun h => ?_) (fun h => ?_)
 ·have := of_decide_eq_true h
  refine WP.next ⟨i + 1, ⟨?_, by omega, s⟩, by omega⟩
  rw [Zak (by omega) (by omega)]
  omega
 have hi : i = ZbA (strI t) 45 := by
  have : ¬ i < ZbA (strI t) 45 := fun h' => h (decide_eq_true h')
  omega
 refine WP.step (R := fun r w' => OptR r (Zhu (strI t)) ∧ Ss W Hs w') ?_ (fun r w h => WP.done h)
 unfold Zar.K2
 refine WP.chk ⟨by omega, by omega, by omega⟩ (WP.step (Zja _ (by decide) (by decide)) ?_)
 rintro _ _ ⟨rfl, rfl⟩
 have e1 : strI (ByteArray.extract t (Int.toNat 0) (Int.toNat (i : Int))) = (strI t).take (ZbA (strI t) 45) := by
  rw [Zcm, ← hi]
  simp
 rw [e1, ZmV]
 refine WP.ite (fun h2 => ?_) (fun h2 => ?_)
 ·rw [if_pos (show ZbA (strI t) 45 < (strI t).length by omega)]
  have ew : IntKind.wrap .i64 ((i : Int) + 1) = ((i + 1 : Nat) : Int) := by
   rw [Zak (by omega) (by omega)]
   omega
  rw [ew]
  refine WP.chk ⟨by omega, by omega, by omega⟩ (WP.step (Zja _ (by decide) (by decide)) ?_)
  rintro _ _ ⟨rfl, rfl⟩
  have e2 : strI (ByteArray.extract t (Int.toNat ((i + 1 : Nat) : Int)) (Int.toNat (t.size : Int))) = (strI t).drop (ZbA (strI t) 45 + 1) := by
   rw [Zcm, ← hi]
   simp only [Int.toNat_natCast]
   rw [List.take_of_length_le (by rw [List.length_drop]; omega)]
  rw [e2]
  exact ZjT s _ _
 ·rw [if_neg (show ¬ ZbA (strI t) 45 < (strI t).length by omega)]
  exact ZjT s _ _
def Zsn {α : Type} (c : Cod α) (W : World) (Hs : List HP) (b : Nat) (e : Int) (m : ZbN) (sn : List (List Int)) (r : Sl) (w : World) : PE (List α × List Wd) → Prop
 | .ok q => q.1.length ≤ 16 ∧ ∃ sp, Ss W (vec c r q.1 sp :: XrA b e m q.2 sn :: Hs) w
 | .error f => Ss W (XrD b f :: Hs) w
theorem ZiA (s : Ss W (XrA b e m ws sn :: Hs) w) : WP (ZbH (some (pt b 0))) w (fun r w' =>
  (∃ f : PF, (strI r.Text = [] ∨ strI r.Text = Zcu) ∧ (∀ {α : Type} (g : Wd → List Wd → PE α), (match ws with | [] => (.error (161, e) : PE α) | x :: xs => if x.1 = Zcu then .error (160, x.2) else g x xs) = .error f) ∧ Ss W (XrD b f :: Hs) w')
  ∨ (∃ xs, ws = wrOf r :: xs ∧ strI r.Text ≠ Zcu ∧ (strI r.Text).length ≤ 1024 ∧ Ss W (XrA b e m xs sn :: Hs) w')) := by
 have hsz : ∀ x ∈ ws, x.1 ≠ [] ∧ x.1.length ≤ 1024 := by
  obtain ⟨q, hq, -⟩ := Zhg s
  exact hq.ne
 refine (Zol s).mono ?_
 intro r w h
 cases ws with
 | nil => exact .inl ⟨_, .inl h.1, fun g => rfl, h.2⟩
 | cons x xs =>
  obtain ⟨hr, s⟩ := h
  have hT : (wrOf r).1 = strI r.Text := rfl
  rw [hr] at hT
  by_cases hc : x.1 = Zcu
  ·rw [if_pos hc] at s
   exact .inl ⟨_, .inr (by rw [← hT]; exact hc), fun g => if_pos hc, s⟩
  ·rw [if_neg hc] at s
   exact .inr ⟨xs, by rw [hr], by rw [← hT]; exact hc, by rw [← hT]; exact (hsz x List.mem_cons_self).2, s⟩
theorem ZrQ {t : List Int} (h : t = [] ∨ t = Zcu) : netR t = none := by
 rcases h with rfl | rfl
 ·decide +kernel
 ·decide +kernel
theorem Zpj {t : List Int} (h : t = [] ∨ t = Zcu) : Zhu t = none := by
 rcases h with rfl | rfl
 ·decide +kernel
 ·decide +kernel
theorem Zt6 (e kind : Int) (n : Nat) (ws : List Wd) : net1 e kind n ws = match ws with
  | [] => .error (161, e)
  | x :: xs => if x.1 = Zcu then .error (160, x.2) else match netR x.1 with
   | none => .error (163, x.2)
   | some p => if n = 16 ∨ Zg1 p kind = false then .error (163, x.2) else .ok (p, xs) := by
 cases ws <;> rfl
theorem ZrG (e : Int) (n : Nat) (ws : List Wd) : Zlx e n ws = match ws with
  | [] => .error (161, e)
  | x :: xs => if x.1 = Zcu then .error (160, x.2) else match Zhu x.1 with
   | none => .error (164, x.2)
   | some p => if n = 16 then .error (164, x.2) else .ok (p, xs) := by
 cases ws <;> rfl
theorem Zmf {acc sp : List Zac} {u : Sl} {p : Zac} {Q : LS (Sl × Bool) Sl → World → Prop} (s : Ss W (XrD b f :: vec cPfx u acc sp :: Hs) w) (hacc : acc.length ≤ 16)
  (k : ∀ w u' sp', Ss W (vec cPfx u' (acc ++ [p]) sp' :: XrD b f :: Hs) w → Q (LS.next (u', false)) w) :
  WP (slot 69 >>= fun _ => appl ZaI 69 32 ZaU u [p] >>= fun r40 => ZaE (some (pt b 0)) str0 >>= fun r41 => (pure (LS.next (r40, r41)) : M (LS (Sl × Bool) Sl))) w Q := by
 refine WP.slot' s (fun _ w s => WP.appl s 1 rfl (by simp only [List.length_singleton]; omega) (by decide) (fun q w sp3 s => ?_))
 have s : Ss W (XrD b f :: (vec cPfx q (acc ++ [p]) sp3 :: Hs)) w := s
 refine WP.step (Zom s _) ?_
 rintro _ w ⟨rfl, s⟩
 have s := s.use [1, 0] rfl
 exact WP.ret (k w q sp3 s)
theorem Zjk {acc sp : List ZaD} {u : Sl} {p : ZaD} {Q : LS (Sl × Bool) Sl → World → Prop} (s : Ss W (XrD b f :: vec cRg u acc sp :: Hs) w) (hacc : acc.length ≤ 16)
  (k : ∀ w u' sp', Ss W (vec cRg u' (acc ++ [p]) sp' :: XrD b f :: Hs) w → Q (LS.next (u', false)) w) :
  WP (slot 71 >>= fun _ => appl Zbi 71 16 Zcv u [p] >>= fun r40 => ZaE (some (pt b 0)) str0 >>= fun r41 => (pure (LS.next (r40, r41)) : M (LS (Sl × Bool) Sl))) w Q := by
 refine WP.slot' s (fun _ w s => WP.appl s 1 rfl (by simp only [List.length_singleton]; omega) (by decide) (fun q w sp3 s => ?_))
 have s : Ss W (XrD b f :: (vec cRg q (acc ++ [p]) sp3 :: Hs)) w := s
 refine WP.step (Zom s _) ?_
 rintro _ w ⟨rfl, s⟩
 have s := s.use [1, 0] rfl
 exact WP.ret (k w q sp3 s)
theorem Zrm (s : Ss W (XrA b e m ws sn :: Hs) w) (hk : 0 ≤ m.Kind ∧ m.Kind ≤ 3) : WP (ZaP (some (pt b 0))) w (fun r w' => Zsn cPfx W Hs b e m sn r w' (ZgD e m.Kind [] ws)) := by
 unfold ZaP
 have s := s.mk0 (A := vec cPfx Sl.nil [] []) Zch
 generalize hX : ZgD e m.Kind [] ws = X
 refine WP.loopG (γ := Ph Zac × List Zac × List Zac) (fun g (x : Sl × Bool) w => g.2.1.length ≤ 17 ∧ (match g.1 with
   | .ok (more, a, ws) => x.2 = more ∧ a = g.2.1 ∧ g.2.1.length ≤ 16 ∧ (if more = true then ZgD e m.Kind a ws else .ok (a, ws)) = X ∧ Ss W (vec cPfx x.1 g.2.1 g.2.2 :: XrA b e m ws sn :: Hs) w
   | .error f => X = .error f ∧ Ss W (vec cPfx x.1 g.2.1 g.2.2 :: XrD b f :: Hs) w)) (fun g _ => g.1.mu) (.ok (true, [], ws), [], []) ⟨by simp, rfl, rfl, by simp, hX, s⟩ ?_
 clear s hX
 rintro ⟨g, acc, sp⟩ ⟨u, more⟩ w ⟨hacc, h⟩
 simp only at hacc h
 show WP (ZaP.L1 (some (pt b 0)) u more) w _
 unfold ZaP.L1
 cases g with
 | error f =>
  obtain ⟨hXf, s⟩ := h
  have s1 : Ss W (XrD b f :: (vec cPfx u acc sp :: Hs)) w := by
   have s := s.use [1] rfl
   exact s
  refine WP.step (R := fun y w' => y = false ∧ w = w') (WP.ite (fun _ => WP.nilck (ZmC s1 (fun h => WP.ret ⟨beq_eq_false_iff_ne.2 h, rfl⟩))) (fun _ => WP.ret ⟨rfl, rfl⟩)) ?_
  rintro _ _ ⟨rfl, rfl⟩
  refine WP.ite (fun h => by cases h) (fun _ => WP.done ?_)
  subst hXf
  exact s.drop
 | ok g =>
  obtain ⟨mr, a, ws⟩ := g
  obtain ⟨h1, h2, h16, h3, s⟩ := h
  subst h1
  subst h2
  have s1 : Ss W (XrA b e m ws sn :: (vec cPfx u a sp :: Hs)) w := by
   have s := s.use [1] rfl
   exact s
  cases more with
  | false =>
   refine WP.step (R := fun y w' => y = false ∧ w = w') (WP.ite (fun h => by cases h) (fun _ => WP.ret ⟨rfl, rfl⟩)) ?_
   rintro _ _ ⟨rfl, rfl⟩
   refine WP.ite (fun h => by cases h) (fun _ => WP.done ?_)
   subst h3
   exact ⟨h16, sp, s⟩
  | true =>
   refine WP.step (R := fun y w' => y = true ∧ w = w') (WP.ite (fun _ => WP.nilck (ZlZ s1 (WP.ret ⟨rfl, rfl⟩))) (fun h => absurd rfl h)) ?_
   rintro _ _ ⟨rfl, rfl⟩
   refine WP.ite (fun _ => ?_) (fun h => absurd rfl h)
   have hul := (s.vec_len (i := 0) rfl).1
   simp only [if_true] at h3
   rw [ZhP, Zt6] at h3
   refine WP.step (ZiA s1) ?_
   clear s s1
   have bad : ∀ {f : PF} {p : Zac} {w' : World} {u' : Sl} {sp' : List Zac}, X = .error f → Ss W (vec cPfx u' (a ++ [p]) sp' :: XrD b f :: Hs) w' → WP.Rd (fun (x : Sl × Bool) w => ∃ g : Ph Zac × List Zac × List Zac, (g.2.1.length ≤ 17 ∧ (match g.1 with
     | .ok (more, a, ws) => x.2 = more ∧ a = g.2.1 ∧ g.2.1.length ≤ 16 ∧ (if more = true then ZgD e m.Kind a ws else .ok (a, ws)) = X ∧ Ss W (vec cPfx x.1 g.2.1 g.2.2 :: XrA b e m ws sn :: Hs) w
     | .error f => X = .error f ∧ Ss W (vec cPfx x.1 g.2.1 g.2.2 :: XrD b f :: Hs) w)) ∧ g.1.mu < Ph.mu (.ok (true, a, ws) : Ph Zac)) (fun r w' => Zsn cPfx W Hs b e m sn r w' X) (LS.next (u', false)) w' := by
    intro f p w' u' sp' hXf s
    exact ⟨(.error f, a ++ [p], sp'), ⟨by simp only [List.length_append, List.length_singleton]; omega, hXf, s⟩, by simp [Ph.mu]⟩
   rintro r w (⟨f, hb, hg, s⟩ | ⟨xs, rfl, hc, hsz, s⟩)
   ·rw [hg] at h3
    refine WP.slot' s (fun _ w s => WP.step (Zlq s r.Text) ?_)
    rintro q w ⟨hq, s⟩
    rw [ZrQ hb] at hq
    refine WP.slot' s (fun _ w s => WP.draw' s (fun w s => ?_))
    refine WP.step (R := fun y w' => y = true ∧ w = w') (WP.ite (fun _ => WP.ret ⟨rfl, rfl⟩) (fun h => absurd (by rw [hq.1]; decide) h)) ?_
    rintro _ _ ⟨rfl, rfl⟩
    refine WP.step (R := fun y w' => y = true ∧ w = w') (WP.ite (fun _ => WP.ret ⟨rfl, rfl⟩) (fun h => absurd rfl h)) ?_
    rintro _ _ ⟨rfl, rfl⟩
    refine WP.ite (fun _ => WP.step (ZfO s _ _) (fun _ w s => ?_)) (fun h => absurd rfl h)
    exact Zmf s h16 (fun w u' sp' s => bad h3.symm s)
   ·have hT : (wrOf r).1 = strI r.Text := rfl
    have hA : (wrOf r).2 = r.At := rfl
    simp only [hT, hA, if_neg hc] at h3
    refine WP.slot' s (fun _ w s => WP.step (Zlq s r.Text) ?_)
    rintro q w ⟨hq, s⟩
    refine WP.slot' s (fun _ w s => WP.draw' s (fun w s => ?_))
    cases hn : netR (strI r.Text) with
    | none =>
     rw [hn] at hq h3
     refine WP.step (R := fun y w' => y = true ∧ w = w') (WP.ite (fun _ => WP.ret ⟨rfl, rfl⟩) (fun h => absurd (by rw [hq.1]; decide) h)) ?_
     rintro _ _ ⟨rfl, rfl⟩
     refine WP.step (R := fun y w' => y = true ∧ w = w') (WP.ite (fun _ => WP.ret ⟨rfl, rfl⟩) (fun h => absurd rfl h)) ?_
     rintro _ _ ⟨rfl, rfl⟩
     refine WP.ite (fun _ => WP.step (ZdQ s (by decide) _) (fun _ w s => ?_)) (fun h => absurd rfl h)
     exact Zmf s h16 (fun w u' sp' s => bad h3.symm s)
    | some p =>
     rw [hn] at hq h3
     have hqp := hq.2 p rfl
     simp only at h3
     refine WP.step (R := fun y w' => y = !Zg1 p m.Kind ∧ Ss W (XrA b e m xs sn :: vec cPfx u a sp :: Hs) w') (WP.ite (fun h => absurd (by rw [hq.1]; rfl) h) (fun _ => WP.nilck (Zsr s ?_))) ?_
     ·rw [hqp]
      refine WP.step (Zs0 s hk p (ZoK hn)) ?_
      rintro _ w ⟨rfl, s⟩
      exact WP.ret ⟨rfl, s⟩
     rintro _ w ⟨rfl, s⟩
     refine WP.step (R := fun y w' => y = decide (a.length = 16 ∨ Zg1 p m.Kind = false) ∧ w = w') (WP.ite (fun h => WP.ret ⟨?_, rfl⟩) (fun h => WP.ret ⟨?_, rfl⟩)) ?_
     ·refine (decide_eq_true (.inr ?_)).symm
      simpa using h
     ·rw [Bool.eq_iff_iff, beq_iff_eq, decide_eq_true_iff]
      refine ⟨fun h' => .inl (by omega), fun h' => h'.elim (fun h' => by omega) (fun h' => absurd (by rw [h']; rfl) h)⟩
     rintro _ _ ⟨rfl, rfl⟩
     refine WP.ite (fun h => WP.step (ZdQ s (by decide) _) (fun _ w s => ?_)) (fun h => ?_)
     ·rw [if_pos (of_decide_eq_true h)] at h3
      exact Zmf s h16 (fun w u' sp' s => bad h3.symm s)
     ·have hh : ¬ (a.length = 16 ∨ Zg1 p m.Kind = false) := fun h' => h (decide_eq_true h')
      rw [if_neg hh] at h3
      rw [hqp]
      refine WP.slot' s (fun _ w s => WP.appl s 1 rfl (by simp only [List.length_singleton]; omega) (by decide) (fun q w sp3 s => ?_))
      have s : Ss W (XrA b e m xs sn :: (vec cPfx q (a ++ [p]) sp3 :: Hs)) w := s
      refine WP.step (Zei s ZeU) ?_
      intro y w h
      simp only at h3
      have hn16 : ¬ a.length = 16 := fun h => hh (.inl h)
      cases ht : Zcs Zcu xs with
      | none =>
       rw [ht] at h h3
       obtain ⟨rfl, s⟩ := h
       refine WP.ret ⟨(.ok (false, a ++ [p], xs), a ++ [p], sp3), ⟨by simp only [List.length_append, List.length_singleton]; omega, rfl, rfl, by simp only [List.length_append, List.length_singleton]; omega, h3, ?_⟩, by simp [Ph.mu]⟩
       have s := s.use [1] rfl
       exact s
      | some r2 =>
       rw [ht] at h h3
       obtain ⟨rfl, s⟩ := h
       have hlt := ZdE ht
       refine WP.ret ⟨(.ok (true, a ++ [p], r2), a ++ [p], sp3), ⟨by simp only [List.length_append, List.length_singleton]; omega, rfl, rfl, by simp only [List.length_append, List.length_singleton]; omega, h3, ?_⟩, by simp only [Ph.mu, List.length_cons]; omega⟩
       have s := s.use [1] rfl
       exact s
end
section
variable {W w : World} {Hs : List HP} {b : Nat} {e : Int} {m : ZbN} {ws : List Wd} {sn : List (List Int)} {f : PF}
theorem Zo7 (s : Ss W (XrA b e m ws sn :: Hs) w) : WP (ZaJ (some (pt b 0))) w (fun r w' => Zsn cRg W Hs b e m sn r w' (ZeD e [] ws)) := by
 unfold ZaJ
 have s := s.mk0 (A := vec cRg Sl.nil [] []) Zch
 generalize hX : ZeD e [] ws = X
 refine WP.loopG (γ := Ph ZaD × List ZaD × List ZaD) (fun g (x : Sl × Bool) w => g.2.1.length ≤ 17 ∧ (match g.1 with
   | .ok (more, a, ws) => x.2 = more ∧ a = g.2.1 ∧ g.2.1.length ≤ 16 ∧ (if more = true then ZeD e a ws else .ok (a, ws)) = X ∧ Ss W (vec cRg x.1 g.2.1 g.2.2 :: XrA b e m ws sn :: Hs) w
   | .error f => X = .error f ∧ Ss W (vec cRg x.1 g.2.1 g.2.2 :: XrD b f :: Hs) w)) (fun g _ => g.1.mu) (.ok (true, [], ws), [], []) ⟨by simp, rfl, rfl, by simp, hX, s⟩ ?_
 clear s hX
 rintro ⟨g, acc, sp⟩ ⟨u, more⟩ w ⟨hacc, h⟩
 simp only at hacc h
 show WP (ZaJ.L1 (some (pt b 0)) u more) w _
 unfold ZaJ.L1
 cases g with
 | error f =>
  obtain ⟨hXf, s⟩ := h
  have s1 : Ss W (XrD b f :: (vec cRg u acc sp :: Hs)) w := by
   have s := s.use [1] rfl
   exact s
  refine WP.step (R := fun y w' => y = false ∧ w = w') (WP.ite (fun _ => WP.nilck (ZmC s1 (fun h => WP.ret ⟨beq_eq_false_iff_ne.2 h, rfl⟩))) (fun _ => WP.ret ⟨rfl, rfl⟩)) ?_
  rintro _ _ ⟨rfl, rfl⟩
  refine WP.ite (fun h => by cases h) (fun _ => WP.done ?_)
  subst hXf
  exact s.drop
 | ok g =>
  obtain ⟨mr, a, ws⟩ := g
  obtain ⟨h1, h2, h16, h3, s⟩ := h
  subst h1
  subst h2
  have s1 : Ss W (XrA b e m ws sn :: (vec cRg u a sp :: Hs)) w := by
   have s := s.use [1] rfl
   exact s
  cases more with
  | false =>
   refine WP.step (R := fun y w' => y = false ∧ w = w') (WP.ite (fun h => by cases h) (fun _ => WP.ret ⟨rfl, rfl⟩)) ?_
   rintro _ _ ⟨rfl, rfl⟩
   refine WP.ite (fun h => by cases h) (fun _ => WP.done ?_)
   subst h3
   exact ⟨h16, sp, s⟩
  | true =>
   refine WP.step (R := fun y w' => y = true ∧ w = w') (WP.ite (fun _ => WP.nilck (ZlZ s1 (WP.ret ⟨rfl, rfl⟩))) (fun h => absurd rfl h)) ?_
   rintro _ _ ⟨rfl, rfl⟩
   refine WP.ite (fun _ => ?_) (fun h => absurd rfl h)
   have hul := (s.vec_len (i := 0) rfl).1
   simp only [if_true] at h3
   rw [ZgU, ZrG] at h3
   refine WP.step (ZiA s1) ?_
   clear s s1
   have bad : ∀ {f : PF} {p : ZaD} {w' : World} {u' : Sl} {sp' : List ZaD}, X = .error f → Ss W (vec cRg u' (a ++ [p]) sp' :: XrD b f :: Hs) w' → WP.Rd (fun (x : Sl × Bool) w => ∃ g : Ph ZaD × List ZaD × List ZaD, (g.2.1.length ≤ 17 ∧ (match g.1 with
     | .ok (more, a, ws) => x.2 = more ∧ a = g.2.1 ∧ g.2.1.length ≤ 16 ∧ (if more = true then ZeD e a ws else .ok (a, ws)) = X ∧ Ss W (vec cRg x.1 g.2.1 g.2.2 :: XrA b e m ws sn :: Hs) w
     | .error f => X = .error f ∧ Ss W (vec cRg x.1 g.2.1 g.2.2 :: XrD b f :: Hs) w)) ∧ g.1.mu < Ph.mu (.ok (true, a, ws) : Ph ZaD)) (fun r w' => Zsn cRg W Hs b e m sn r w' X) (LS.next (u', false)) w' := by
    intro f p w' u' sp' hXf s
    exact ⟨(.error f, a ++ [p], sp'), ⟨by simp only [List.length_append, List.length_singleton]; omega, hXf, s⟩, by simp [Ph.mu]⟩
   rintro r w (⟨f, hb, hg, s⟩ | ⟨xs, rfl, hc, hsz, s⟩)
   ·rw [hg] at h3
    refine WP.slot' s (fun _ w s => WP.step (Zkj s r.Text (by rcases hb with hb | hb <;> rw [hb] <;> decide)) ?_)
    rintro q w ⟨hq, s⟩
    rw [Zpj hb] at hq
    refine WP.slot' s (fun _ w s => ?_)
    refine WP.step (R := fun y w' => y = true ∧ w = w') (WP.ite (fun _ => WP.ret ⟨rfl, rfl⟩) (fun h => absurd (by rw [hq.1]; decide) h)) ?_
    rintro _ _ ⟨rfl, rfl⟩
    refine WP.ite (fun _ => WP.step (ZfO s _ _) (fun _ w s => ?_)) (fun h => absurd rfl h)
    exact Zjk s h16 (fun w u' sp' s => bad h3.symm s)
   ·have hT : (wrOf r).1 = strI r.Text := rfl
    have hA : (wrOf r).2 = r.At := rfl
    simp only [hT, hA, if_neg hc] at h3
    refine WP.slot' s (fun _ w s => WP.step (Zkj s r.Text hsz) ?_)
    rintro q w ⟨hq, s⟩
    refine WP.slot' s (fun _ w s => ?_)
    cases hn : Zhu (strI r.Text) with
    | none =>
     rw [hn] at hq h3
     refine WP.step (R := fun y w' => y = true ∧ w = w') (WP.ite (fun _ => WP.ret ⟨rfl, rfl⟩) (fun h => absurd (by rw [hq.1]; decide) h)) ?_
     rintro _ _ ⟨rfl, rfl⟩
     refine WP.ite (fun _ => WP.step (ZdQ s (by decide) _) (fun _ w s => ?_)) (fun h => absurd rfl h)
     exact Zjk s h16 (fun w u' sp' s => bad h3.symm s)
    | some p =>
     rw [hn] at hq h3
     have hqp := hq.2 p rfl
     simp only at h3
     refine WP.step (R := fun y w' => y = decide (a.length = 16) ∧ w = w') (WP.ite (fun h => absurd (by rw [hq.1]; rfl) h) (fun _ => WP.ret ⟨?_, rfl⟩)) ?_
     ·rw [Bool.eq_iff_iff, beq_iff_eq, decide_eq_true_iff]
      exact ⟨fun h' => by omega, fun h' => by omega⟩
     rintro _ _ ⟨rfl, rfl⟩
     refine WP.ite (fun h => WP.step (ZdQ s (by decide) _) (fun _ w s => ?_)) (fun h => ?_)
     ·rw [if_pos (of_decide_eq_true h)] at h3
      exact Zjk s h16 (fun w u' sp' s => bad h3.symm s)
     ·have hn16 : ¬ a.length = 16 := fun h' => h (decide_eq_true h')
      rw [if_neg hn16] at h3
      rw [hqp]
      refine WP.slot' s (fun _ w s => WP.appl s 1 rfl (by simp only [List.length_singleton]; omega) (by decide) (fun q w sp3 s => ?_))
      have s : Ss W (XrA b e m xs sn :: (vec cRg q (a ++ [p]) sp3 :: Hs)) w := s
      refine WP.step (Zei s ZeU) ?_
      intro y w h
      simp only at h3
      cases ht : Zcs Zcu xs with
      | none =>
       rw [ht] at h h3
       obtain ⟨rfl, s⟩ := h
       refine WP.ret ⟨(.ok (false, a ++ [p], xs), a ++ [p], sp3), ⟨by simp only [List.length_append, List.length_singleton]; omega, rfl, rfl, by simp only [List.length_append, List.length_singleton]; omega, h3, ?_⟩, by simp [Ph.mu]⟩
       have s := s.use [1] rfl
       exact s
      | some r2 =>
       rw [ht] at h h3
       obtain ⟨rfl, s⟩ := h
       have hlt := ZdE ht
       refine WP.ret ⟨(.ok (true, a ++ [p], r2), a ++ [p], sp3), ⟨by simp only [List.length_append, List.length_singleton]; omega, rfl, rfl, by simp only [List.length_append, List.length_singleton]; omega, h3, ?_⟩, by simp only [Ph.mu, List.length_cons]; omega⟩
       have s := s.use [1] rfl
       exact s
def ZsG (W : World) (Hs : List HP) (b : Nat) (e : Int) (m : ZbN) (sn : List (List Int)) (r : Zap) (w : World) : PE (Zfb × List Wd) → Prop
 | .ok q => Ss W (ZeJ r q.1 :: XrA b e m q.2 sn :: Hs) w
 | .error f => Ss W (XrD b f :: Hs) w
theorem ZjA (s : Ss W (XrD b f :: Hs) w) (j : Zap) (y : Bool) : WP (Zam.K1 (some (pt b 0)) j y) w (fun _ w' => Ss W (XrD b f :: Hs) w') := by
 unfold Zam.K1
 refine WP.step (R := fun y w' => y = false ∧ w = w') (WP.ite (fun _ => WP.nilck (ZmC s (fun h => WP.ret ⟨beq_eq_false_iff_ne.2 h, rfl⟩))) (fun _ => WP.ret ⟨rfl, rfl⟩)) ?_
 rintro _ _ ⟨rfl, rfl⟩
 exact WP.ite (fun h => by cases h) (fun _ => WP.ret s)
theorem ZmE (s : Ss W (XrD b f :: Hs) w) (j : Zap) : WP (Zam.K2 (some (pt b 0)) j) w (fun _ w' => Ss W (XrD b f :: Hs) w') := by
 unfold Zam.K2
 refine WP.step (Zo8 s) ?_
 rintro r w ⟨-, s⟩
 refine WP.slot' s (fun _ w s => WP.nilck (ZmC s (fun h => ?_)))
 refine WP.step (R := fun y w' => y = false ∧ w = w') (WP.ite (fun h' => absurd h' h) (fun _ => WP.ret ⟨rfl, rfl⟩)) ?_
 rintro _ _ ⟨rfl, rfl⟩
 refine WP.step (R := fun y w' => y = false ∧ w = w') (WP.ite (fun h' => by cases h') (fun _ => WP.ret ⟨rfl, rfl⟩)) ?_
 rintro _ _ ⟨rfl, rfl⟩
 refine WP.step (R := fun y w' => y = false ∧ w = w') (WP.ite (fun h' => by cases h') (fun _ => WP.ret ⟨rfl, rfl⟩)) ?_
 rintro _ _ ⟨rfl, rfl⟩
 exact WP.ite (fun h => by cases h) (fun _ => ZjA s _ _)
theorem Zlp {j : Zap} {nt : Bool} {ns sp : List Zac} (s : Ss W (vec cPfx j.Nets ns sp :: XrA b e m ws sn :: Hs) w) (hj : j.Not = nt) (hp : j.Ports = Sl.nil) :
  WP (Zam.K2 (some (pt b 0)) j) w (fun r w' => ZsG W Hs b e m sn r w' (match Zek e m.Proto ws with
   | .error f => .error f
   | .ok (ps, r) => .ok (⟨nt, ns, ps⟩, r))) := by
 unfold Zam.K2
 have s : Ss W (XrA b e m ws sn :: (vec cPfx j.Nets ns sp :: Hs)) w := by
  have s := s.use [1] rfl
  exact s
 have plain : ∀ {w : World} {xs : List Wd}, Ss W (XrA b e m xs sn :: (vec cPfx j.Nets ns sp :: Hs)) w → Ss W (ZeJ j ⟨nt, ns, []⟩ :: XrA b e m xs sn :: Hs) w := by
  intro w xs s
  have s := (s.mk0 (A := vec cRg j.Ports [] []) (by rw [hp]; exact Zch)).use [2, 0] rfl
  have s : Ss W (vec cPfx j.Nets ns sp :: vec cRg j.Ports [] [] :: (XrA b e m xs sn :: Hs)) w := s
  exact Zh9 hj s
 refine WP.step (Ziz s) ?_
 rintro r w ⟨hr, s⟩
 refine WP.slot' s (fun _ w s => WP.nilck (ZlZ s ?_))
 refine WP.step (R := fun y w' => XIsR W (vec cPfx j.Nets ns sp :: Hs) b e m ws sn y w' (Zcs (tx "port") ws)) (WP.ite (fun _ => WP.step (Zei s ZnD) (fun y w h => WP.ret h)) (fun h => absurd rfl h)) ?_
 intro y w h
 have hsp : Zek e m.Proto ws = match Zcs (tx "port") ws with
  | none => .ok ([], ws)
  | some r => if Zel m.Proto = true then ZeD e [] r else .error (165, (ws.headD ([], e)).2) := by
  cases ws with
  | nil => rfl
  | cons x xs =>
   rw [show Zek e m.Proto (x :: xs) = if x.1 = tx "port" then (if Zel m.Proto = true then ZeD e [] xs else .error (165, x.2)) else .ok ([], x :: xs) from rfl]
   rw [show Zcs (tx "port") (x :: xs) = if x.1 = tx "port" then some xs else none from rfl]
   by_cases hx : x.1 = tx "port"
   ·rw [if_pos hx, if_pos hx]
    rfl
   ·rw [if_neg hx, if_neg hx]
 rw [hsp]
 cases ht : Zcs (tx "port") ws with
 | none =>
  rw [ht] at h
  obtain ⟨rfl, s⟩ := h
  refine WP.step (R := fun y w' => y = false ∧ w = w') (WP.ite (fun h' => by cases h') (fun _ => WP.ret ⟨rfl, rfl⟩)) ?_
  rintro _ _ ⟨rfl, rfl⟩
  refine WP.step (R := fun y w' => y = false ∧ w = w') (WP.ite (fun h' => by cases h') (fun _ => WP.ret ⟨rfl, rfl⟩)) ?_
  rintro _ _ ⟨rfl, rfl⟩
  refine WP.ite (fun h => by cases h) (fun _ => ?_)
  unfold Zam.K1
  refine WP.step (R := fun y w' => y = false ∧ w = w') (WP.ite (fun h' => by cases h') (fun _ => WP.ret ⟨rfl, rfl⟩)) ?_
  rintro _ _ ⟨rfl, rfl⟩
  exact WP.ite (fun h => by cases h) (fun _ => WP.ret (plain s))
 | some r2 =>
  rw [ht] at h
  obtain ⟨rfl, s⟩ := h
  refine WP.step (R := fun y w' => y = !decide (m.Proto = 6) ∧ w = w') (WP.ite (fun _ => WP.nilck (Zki s (WP.ret ⟨?_, rfl⟩))) (fun h => absurd rfl h)) ?_
  ·rw [Bool.eq_iff_iff, bne_iff_ne, Bool.not_eq_true', decide_eq_false_iff_not]
  rintro _ _ ⟨rfl, rfl⟩
  refine WP.step (R := fun y w' => y = !Zel m.Proto ∧ w = w') (WP.ite (fun h => WP.nilck (Zki s (WP.ret ⟨?_, rfl⟩))) (fun h => WP.ret ⟨?_, rfl⟩)) ?_
  ·unfold Zel
   have h6 : ¬ m.Proto = 6 := by simpa using h
   rw [Bool.eq_iff_iff, bne_iff_ne, Bool.not_eq_true', decide_eq_false_iff_not]
   exact ⟨fun h' h2 => h2.elim h6 h', fun h' h2 => h' (.inr h2)⟩
  ·unfold Zel
   have h6 : m.Proto = 6 := by simpa using h
   rw [decide_eq_true (.inl h6)]
   rfl
  rintro _ _ ⟨rfl, rfl⟩
  cases hpt : Zel m.Proto with
  | false =>
   refine WP.ite (fun _ => WP.step (ZdQ s (by decide) _) (fun _ w s => (ZjA s j true).mono ?_)) (fun h => absurd rfl h)
   intro y w s
   have : r.At = (ws.headD ([], e)).2 := by rw [← hr]; rfl
   rw [← this]
   exact s.use [1] rfl |>.drop
  | true =>
   refine WP.ite (fun h => by cases h) (fun _ => ?_)
   unfold Zam.K1
   refine WP.step (R := fun y w' => y = true ∧ w = w') (WP.ite (fun _ => WP.nilck (ZlZ s (WP.ret ⟨rfl, rfl⟩))) (fun h => absurd rfl h)) ?_
   rintro _ _ ⟨rfl, rfl⟩
   refine WP.ite (fun _ => WP.step (Zo7 s) ?_) (fun h => absurd rfl h)
   intro u w h
   simp only [if_true]
   cases hX : ZeD e [] r2 with
   | error f =>
    rw [hX] at h
    refine WP.ret ?_
    have s : Ss W (XrD b f :: (vec cPfx j.Nets ns sp :: Hs)) w := h
    exact s.use [1] rfl |>.drop
   | ok q =>
    rw [hX] at h
    obtain ⟨-, sp2, s⟩ := h
    refine WP.ret ?_
    have s := s.use [2, 0] rfl
    have s : Ss W (vec cPfx j.Nets ns sp :: vec cRg u q.1 sp2 :: (XrA b e m q.2 sn :: Hs)) w := s
    exact Zh9 (j := ⟨j.Not, j.Nets, u⟩) hj s
theorem Zok (s : Ss W (XrA b e m ws sn :: Hs) w) (hk : 0 ≤ m.Kind ∧ m.Kind ≤ 3) : WP (Zam (some (pt b 0))) w (fun r w' => ZsG W Hs b e m sn r w' (Zjh e m.Kind m.Proto ws)) := by
 unfold Zam Zjh Zp0
 refine WP.slot' s (fun _ w s => WP.slot' s (fun _ w s => WP.step (Zei s Zov) ?_))
 intro y w h
 cases ha : Zcs (tx "any") ws with
 | some r =>
  rw [ha] at h
  obtain ⟨rfl, s⟩ := h
  refine WP.ite (fun h => absurd rfl h) (fun _ => ?_)
  have s := s.mk0 (A := vec cPfx ZaQ.Nets [] []) Zch
  exact Zlp s rfl rfl
 | none =>
  rw [ha] at h
  obtain ⟨rfl, s⟩ := h
  refine WP.ite (fun _ => WP.step (Zei s Zsv) ?_) (fun h => absurd (by decide) h)
  intro y w h
  have s : y = (Zcs (tx "not") ws).isSome ∧ Ss W (XrA b e m ((Zcs (tx "not") ws).getD ws) sn :: Hs) w := by
   cases hn : Zcs (tx "not") ws with
   | some r => rw [hn] at h; exact h
   | none => rw [hn] at h; exact h
  obtain ⟨rfl, s⟩ := s
  refine WP.step (Zrm s hk) ?_
  intro u w h
  simp only
  cases hX : ZgD e m.Kind [] ((Zcs (tx "not") ws).getD ws) with
  | error f =>
   rw [hX] at h
   exact ZmE h _
  | ok q =>
   rw [hX] at h
   obtain ⟨-, sp, s⟩ := h
   exact Zlp (j := ⟨(Zcs (tx "not") ws).isSome, u, ZaQ.Ports⟩) s rfl rfl
end
theorem ZqG {l : List (List Int)} {i : Nat} {x t : List Int} (h : l[i]? = some x) : (idxT (l.drop i) t).map (· + i) = if x = t then some i else (idxT (l.drop (i + 1)) t).map (· + (i + 1)) := by
 obtain ⟨hi, rfl⟩ := List.getElem?_eq_some_iff.1 h
 rw [List.drop_eq_getElem_cons hi, Zfz]
 split
 ·simp
 ·rw [Option.map_map]
  congr 1
  funext k
  simp only [Function.comp]
  omega
theorem Zss {α : Type} {c : Cod α} {n b k : Nat} {q : Bool} {v : Vec α n} {xs : List α} (hv : v.l = xs) : Rdb (pts q (pt b 0) ((c.arr n).enc v)) c ⟨some (pt b 0), n, k⟩ xs := by
 obtain ⟨l, hl⟩ := v
 simp only at hv
 subst hv
 subst hl
 rw [Cod.arr_enc]
 exact Zi7.rdb Zi7.pts
def flW : List ByteArray := [ZtO, ZtN, ZtM, ZtL, ZtK, ZtJ, ZtI, ZtH]
theorem Zuk : flW.map strI = ZiX := by decide +kernel
def knW : List ByteArray := [ZnJ, ZnI, Zkw, Zl5, Zj0, ZjZ, ZnH]
def Zgd : List (List Int) := [tx "on", tx "vid", tx "from", tx "to", tx "flags", tx "type", tx "pieces"]
theorem Zuc : knW.map strI = Zgd := by decide +kernel
section
variable {W w : World} {Hs : List HP} {b : Nat} {e : Int} {m : ZbN} {ws : List Wd} {sn : List (List Int)} {f : PF}
theorem Zlr (s : Ss W Hs w) (y : Bool) (t : ByteArray) : WP (ZaZ.K1 y t) w (fun r w' => r = (idxI ZiX (strI t), y) ∧ Ss W Hs w') := by
 unfold ZaZ.K1 ZdU
 refine WP.step (R := fun r w' => ∃ b, r = (⟨some (pt b 0), 8, 8⟩ : Sl) ∧ Ss W (pts true (pt b 0) ((cS.arr 8).enc (⟨flW, rfl⟩ : Vec ByteArray 8)) :: Hs) w') (WP.newv s (fun b w s => WP.ret ⟨b, rfl, s⟩)) ?_
 rintro _ w ⟨b, rfl, s⟩
 refine WP.loopG (γ := Nat) (fun i (x : Int) w => x = (i : Int) ∧ i ≤ 8 ∧ idxT ZiX (strI t) = (idxT (ZiX.drop i) (strI t)).map (· + i) ∧ Ss W (pts true (pt b 0) ((cS.arr 8).enc (⟨flW, rfl⟩ : Vec ByteArray 8)) :: Hs) w) (fun i _ => 8 - i) 0 ⟨rfl, Nat.zero_le _, by simp, s⟩ ?_
 clear s
 rintro i _ w ⟨rfl, hi, hx, s⟩
 show WP (ZaZ.L1 y t (⟨some (pt b 0), 8, 8⟩ : Sl) (i : Int)) w _
 unfold ZaZ.L1
 refine WP.ite (fun h => ?_) (fun h => WP.done ⟨?_, s.drop⟩)
 ·have hi8 : i < 8 := by omega
  have hlen : i < flW.length := hi8
  refine WP.rdx s 0 rfl (Zss (xs := flW) rfl) (by omega) (x := flW[i]) (by rw [Int.toNat_natCast, List.getElem?_eq_getElem hlen]) rfl ?_
  have hf : ZiX[i]? = some (strI flW[i]) := by
   rw [← Zuk, List.getElem?_map, List.getElem?_eq_getElem hlen]
   rfl
  rw [ZqG hf] at hx
  refine WP.ite (fun h2 => WP.done ⟨?_, s.drop⟩) (fun h2 => WP.next ⟨i + 1, ⟨?_, by omega, ?_, s⟩, by omega⟩)
  ·rw [Zbl] at h2
   rw [if_pos h2] at hx
   unfold idxI
   rw [hx]
  ·rw [Zak (by omega) (by omega)]
   omega
  ·rw [Zbl] at h2
   rw [if_neg h2] at hx
   exact hx
 ·have : i = 8 := by omega
  subst this
  rw [show ZiX.drop 8 = [] from rfl] at hx
  unfold idxI
  rw [hx]
  rfl
theorem Zon (s : Ss W Hs w) (t : ByteArray) : WP (ZaZ t) w (fun r w' => r = ((match (ZfD (strI t)).2 with | none => -1 | some k => (k : Int)), (ZfD (strI t)).1) ∧ Ss W Hs w') := by
 unfold ZaZ
 have hl := Zbq t
 have h0 : (strI t).head? = some 33 ↔ (t.size > 0 ∧ (strI t).getD 0 0 = 33) := by
  cases ht : strI t with
  | nil => simp
  | cons a l =>
   rw [ht] at hl
   simp at hl ⊢
   omega
 refine WP.step (R := fun y w' => y = decide ((strI t).head? = some 33) ∧ w = w') (WP.ite (fun h => WP.chk ⟨by omega, by omega⟩ (WP.ret ⟨?_, rfl⟩)) (fun h => WP.ret ⟨(decide_eq_false (fun h' => h (by have := (h0.1 h').1; omega))).symm, rfl⟩)) ?_
 ·have e0 : sb t 0 = (strI t).getD 0 0 := Zct (i := 0)
  rw [e0, Bool.eq_iff_iff, beq_iff_eq, decide_eq_true_iff, h0]
  exact ⟨fun h' => ⟨by omega, h'⟩, fun h' => h'.2⟩
 rintro _ _ ⟨rfl, rfl⟩
 unfold ZfD
 by_cases hh : (strI t).head? = some 33
 ·simp only [if_pos hh]
  have := (h0.1 hh).1
  refine WP.ite (fun _ => WP.chk ⟨by omega, by omega, by omega⟩ ((Zlr s _ _).mono ?_)) (fun h => absurd (decide_eq_true hh) h)
  rintro r w ⟨rfl, s⟩
  refine ⟨?_, s⟩
  have et : strI (ByteArray.extract t (Int.toNat 1) (Int.toNat (t.size : Int))) = (strI t).tail := by
   rw [Zcm]
   simp only [Int.toNat_natCast, show Int.toNat 1 = 1 from rfl]
   rw [List.take_of_length_le (by rw [List.length_drop]; omega), List.drop_one]
  rw [et, decide_eq_true hh]
  rfl
 ·simp only [if_neg hh]
  refine WP.ite (fun h => absurd (of_decide_eq_true h) hh) (fun _ => (Zlr s _ _).mono ?_)
  rintro r w ⟨rfl, s⟩
  rw [decide_eq_false hh]
  exact ⟨rfl, s⟩
theorem ZqQ (e x c : Int) (ws : List Wd) : Zoa e x c ws = match ws with
  | [] => .error (161, e)
  | w :: ws => if w.1 = Zcu then .error (160, w.2) else match (ZfD w.1).2 with
   | none => .error (160, w.2)
   | some k => if (hasB x k || hasB c k) = true then .error (165, w.2) else .ok ((if (ZfD w.1).1 = true then (x, c + 2 ^ k) else (x + 2 ^ k, c)), ws) := by
 cases ws <;> rfl
theorem Zr5 {t : List Int} (h : t = [] ∨ t = Zcu) : (ZfD t).2 = none := by
 rcases h with rfl | rfl
 ·decide +kernel
 ·decide +kernel
theorem Zt2 : ∀ k : _root_.Fin 8, IntKind.wrap .i64 (1 * 2 ^ min (Int.toNat (k.val : Int)) 64) = 2 ^ k.val := by decide +kernel
theorem Zoj {x : Int} (hs : 0 ≤ x ∧ x ≤ 255) {k : Nat} (hk : k < 8) (h : hasB x k = false) : IntKind.wrap .i64 (x + IntKind.wrap .i64 (1 * 2 ^ min (Int.toNat (k : Int)) 64)) = x + 2 ^ k ∧ 0 ≤ x + 2 ^ k ∧ x + 2 ^ k ≤ 255 := by
 have h2 := (Zk8 hs hk h).2
 rw [Zt2 ⟨k, hk⟩]
 simp only
 rw [Zak (by omega) (by omega)]
 exact ⟨rfl, h2⟩
theorem Zty {x : Int} (hs : 0 ≤ x ∧ x ≤ 255) {k : Nat} (hk : k < 8) : WP (Zbp x (k : Int)) w (fun y w' => y = hasB x k ∧ w = w') := by
 obtain ⟨a, rfl⟩ : ∃ a : Nat, x = a := ⟨x.toNat, by omega⟩
 exact Zs2 (by omega) (by omega)
theorem ZpK {p : Int × Int} (hb : B255 p) (s : Ss W (XrA b e (Zih m p) ws sn :: Hs) w) : WP (ZaN (some (pt b 0))) w (fun _ w' => Zll W Hs b e sn w' (ZmJ m (ZeN e p.1 p.2 ws))) := by
 unfold ZaN
 generalize hX : ZeN e p.1 p.2 ws = X
 refine WP.loopG (γ := Bool × (Int × Int) × List Wd) (fun g (x : Bool) w => x = g.1 ∧ B255 g.2.1 ∧ (if g.1 = true then ZeN e g.2.1.1 g.2.1.2 g.2.2 else .ok (g.2.1, g.2.2)) = X ∧ Ss W (XrA b e (Zih m g.2.1) g.2.2 sn :: Hs) w) (fun g _ => match g with
   | (true, _, ws) => ws.length + 1
   | _ => 0) (true, p, ws) ⟨rfl, hb, hX, s⟩ ?_
 clear s hb hX
 rintro ⟨more', p, ws⟩ more w ⟨rfl, hb, hX, s⟩
 simp only at hb hX s
 show WP (ZaN.L1 (some (pt b 0)) more) w _
 unfold ZaN.L1
 cases more with
 | false =>
  refine WP.step (R := fun y w' => y = false ∧ w = w') (WP.ite (fun h => by cases h) (fun _ => WP.ret ⟨rfl, rfl⟩)) ?_
  rintro _ _ ⟨rfl, rfl⟩
  refine WP.ite (fun h => by cases h) (fun _ => WP.done ?_)
  subst hX
  exact s
 | true =>
  refine WP.step (R := fun y w' => y = true ∧ w = w') (WP.ite (fun _ => WP.nilck (ZlZ s (WP.ret ⟨rfl, rfl⟩))) (fun h => absurd rfl h)) ?_
  rintro _ _ ⟨rfl, rfl⟩
  refine WP.ite (fun _ => ?_) (fun h => absurd rfl h)
  simp only [if_true] at hX
  rw [Zip] at hX
  refine WP.step (ZiA s) ?_
  clear s
  have bad : ∀ {f : PF} {w : World}, X = .error f → Ss W (XrD b f :: Hs) w → Zll W Hs b e sn w (ZmJ m X) := by
   intro f w h s
   subst h
   exact s
  rintro r w (⟨f, hbad, hg, s⟩ | ⟨xs, rfl, hc, hsz, s⟩)
  ·rw [(ZqQ e p.1 p.2 ws).trans (hg _)] at hX
   refine WP.slot' s (fun _ w s => WP.step (Zon s r.Text) ?_)
   rintro _ w ⟨rfl, s⟩
   rw [Zr5 hbad]
   exact WP.ite (fun _ => WP.step (ZfO s _ _) (fun _ w s => WP.done (bad hX.symm s))) (fun h => absurd (show (-1 : Int) < 0 by decide) h)
  ·have hT : (wrOf r).1 = strI r.Text := rfl
   have hA : (wrOf r).2 = r.At := rfl
   rw [ZqQ] at hX
   simp only [hT, hA, if_neg hc] at hX
   refine WP.slot' s (fun _ w s => WP.step (Zon s r.Text) ?_)
   rintro _ w ⟨rfl, s⟩
   cases hk : (ZfD (strI r.Text)).2 with
   | none =>
    rw [hk] at hX
    exact WP.ite (fun _ => WP.step (ZdQ s (by decide) _) (fun _ w s => WP.done (bad hX.symm s))) (fun h => absurd (show (-1 : Int) < 0 by decide) h)
   | some k =>
    rw [hk] at hX
    simp only at hX
    have hk8 : k < 8 := by
     unfold ZfD at hk
     split at hk
     ·exact Zhy (l := ZiX) hk
     ·exact Zhy (l := ZiX) hk
    have hu : (0 : Int) ≤ (k : Int) := by omega
    dsimp only
    refine WP.ite (fun h => absurd h (by omega)) (fun _ => WP.nilck (xldA (o := 12) (v := p.1) s (fun r => r.Set) (fun r => ZcB r) (fun r h => h.2.2.2.2.2.2.1) (WP.step (Zty hb.1 hk8) ?_)))
    rintro _ _ ⟨rfl, rfl⟩
    refine WP.step (R := fun y w' => y = (hasB p.1 k || hasB p.2 k) ∧ w = w') (WP.ite (fun h => WP.ret ⟨by rw [h]; rfl, rfl⟩) (fun h => WP.nilck (xldA (o := 13) (v := p.2) s (fun r => r.Clear) (fun r => Zcj r) (fun r h => h.2.2.2.2.2.2.2.1) (WP.step (Zty hb.2 hk8) ?_)))) ?_
    ·rintro _ _ ⟨rfl, rfl⟩
     refine WP.ret ⟨?_, rfl⟩
     cases hh : hasB p.1 k with
     | false => rfl
     | true => exact absurd hh h
    rintro _ _ ⟨rfl, rfl⟩
    refine WP.ite (fun h => ?_) (fun h => ?_)
    ·rw [if_pos h] at hX
     exact WP.step (ZdQ s (by decide) _) (fun _ w s => WP.done (bad hX.symm s))
    ·rw [if_neg h] at hX
     simp only at hX
     have hn1 : hasB p.1 k = false := by
      cases hh : hasB p.1 k with
      | false => rfl
      | true => exact absurd (by simp [hh]) h
     have hn2 : hasB p.2 k = false := by
      cases hh : hasB p.2 k with
      | false => rfl
      | true => exact absurd (by simp [hh]) h
     have go : ∀ {w : World} {q : Int × Int}, B255 q → (match Zcs Zcu xs with | none => (.ok (q, xs) : PE ((Int × Int) × List Wd)) | some r => ZeN e q.1 q.2 r) = X → Ss W (XrA b e (Zih m q) xs sn :: Hs) w → WP (ZaE (some (pt b 0)) str0 >>= fun r30 => (pure (LS.next r30) : M (LS Bool Unit))) w (WP.Rd (fun (x : Bool) w => ∃ g : Bool × (Int × Int) × List Wd, (x = g.1 ∧ B255 g.2.1 ∧ (if g.1 = true then ZeN e g.2.1.1 g.2.1.2 g.2.2 else .ok (g.2.1, g.2.2)) = X ∧ Ss W (XrA b e (Zih m g.2.1) g.2.2 sn :: Hs) w) ∧ (match g with
       | (true, _, ws) => ws.length + 1
       | _ => 0) < (wrOf r :: xs).length + 1) (fun _ w' => Zll W Hs b e sn w' (ZmJ m X))) := by
      intro w q hq hX s
      refine WP.step (Zei s ZeU) ?_
      intro y w h
      cases ht : Zcs Zcu xs with
      | none =>
       rw [ht] at h hX
       obtain ⟨rfl, s⟩ := h
       exact WP.ret ⟨(false, q, xs), ⟨rfl, hq, hX, s⟩, by simp⟩
      | some r2 =>
       rw [ht] at h hX
       obtain ⟨rfl, s⟩ := h
       have hlt := ZdE ht
       exact WP.ret ⟨(true, q, r2), ⟨rfl, hq, hX, s⟩, by simp only [List.length_cons]; omega⟩
     refine WP.ite (fun h2 => ?_) (fun h2 => ?_)
     ·rw [if_pos h2] at hX
      refine WP.draw' s (fun w s => WP.nilck (xldA (o := 13) (v := p.2) s (fun r => r.Clear) (fun r => Zcj r) (fun r h => h.2.2.2.2.2.2.2.1) (WP.chk hu (WP.nilck ?_))))
      have ha := Zoj hb.2 hk8 hn2
      rw [ha.1]
      exact Zlc (o := 13) (m' := Zih m (p.1, p.2 + 2 ^ k)) s (fun r => { r with Clear := p.2 + 2 ^ k }) (fun r => ZgJ r _) (fun r h => ⟨h.1, h.2.1, h.2.2.1, h.2.2.2.1, h.2.2.2.2.1, h.2.2.2.2.2.1, h.2.2.2.2.2.2.1, rfl, h.2.2.2.2.2.2.2.2⟩) (fun r => ⟨rfl, rfl⟩) ⟨rfl, rfl⟩ (fun w s => go (q := (p.1, p.2 + 2 ^ k)) ⟨hb.1, ha.2⟩ hX s)
     ·rw [if_neg h2] at hX
      refine WP.draw' s (fun w s => WP.nilck (xldA (o := 12) (v := p.1) s (fun r => r.Set) (fun r => ZcB r) (fun r h => h.2.2.2.2.2.2.1) (WP.chk hu (WP.nilck ?_))))
      have ha := Zoj hb.1 hk8 hn1
      rw [ha.1]
      exact Zlc (o := 12) (m' := Zih m (p.1 + 2 ^ k, p.2)) s (fun r => { r with Set := p.1 + 2 ^ k }) (fun r => ZhI r _) (fun r h => ⟨h.1, h.2.1, h.2.2.1, h.2.2.2.1, h.2.2.2.2.1, h.2.2.2.2.2.1, rfl, h.2.2.2.2.2.2.2⟩) (fun r => ⟨rfl, rfl⟩) ⟨rfl, rfl⟩ (fun w s => go (q := (p.1 + 2 ^ k, p.2)) ⟨ha.2, hb.2⟩ hX s)
def Zuu (W : World) (Hs : List HP) (b : Nat) (e : Int) (m : ZbN) (sn : List (List Int)) (r : Int) (w : World) : PE (Int × List Wd) → Prop
 | .ok q => r = q.1 + 1 ∧ (0 ≤ q.1 ∧ q.1 ≤ 7) ∧ Ss W (XrA b e m q.2 sn :: Hs) w
 | .error f => Ss W (XrD b f :: Hs) w
theorem ZnU (s : Ss W (XrD b f :: Hs) w) (r : Zba) (j : Int) : WP (ZaL.K1 (some (pt b 0)) r j) w (fun _ w' => Ss W (XrD b f :: Hs) w') := by
 unfold ZaL.K1
 exact WP.ite (fun _ => WP.step (ZfO s _ _) (fun _ w s => WP.ret s)) (fun _ => WP.ret s)
theorem Zrl (s : Ss W (XrA b e m ws sn :: Hs) w) : WP (ZaL (some (pt b 0))) w (fun r w' => Zuu W Hs b e m sn r w' (Zlf e ws)) := by
 unfold ZaL
 refine WP.step (ZiA s) ?_
 clear s
 have hw : Zlf e ws = match ws with
  | [] => .error (161, e)
  | w :: ws => if w.1 = Zcu then .error (160, w.2) else match (if w.1.head? = some 112 then numR w.1.tail 0 7 else none) with
   | none => .error (162, w.2)
   | some n => .ok (n, ws) := by cases ws <;> rfl
 rintro r w (⟨f, hbad, hg, s⟩ | ⟨xs, rfl, hc, hsz, s⟩)
 ·rw [hw.trans (hg _)]
  refine WP.slot' s (fun _ w s => ?_)
  refine WP.step (R := fun y w' => y = false ∧ w = w') (WP.ite (fun h => absurd h ?_) (fun _ => WP.ret ⟨rfl, rfl⟩)) ?_
  ·rw [← Zbq]
   rcases hbad with h | h <;> rw [h] <;> decide
  rintro _ _ ⟨rfl, rfl⟩
  exact WP.ite (fun h => by cases h) (fun _ => ZnU s _ _)
 ·have hT : (wrOf r).1 = strI r.Text := rfl
  have hA : (wrOf r).2 = r.At := rfl
  have hl := Zbq r.Text
  rw [hw]
  simp only [hT, hA, if_neg hc]
  refine WP.slot' s (fun _ w s => ?_)
  have e0 : sb r.Text 0 = (strI r.Text).getD 0 0 := Zct (i := 0)
  refine WP.step (R := fun y w' => y = decide ((strI r.Text).length > 1 ∧ (strI r.Text).head? = some 112) ∧ w = w') (WP.ite (fun h => WP.chk ⟨by omega, by omega⟩ (WP.ret ⟨?_, rfl⟩)) (fun h => WP.ret ⟨(decide_eq_false (by omega)).symm, rfl⟩)) ?_
  ·rw [e0, Bool.eq_iff_iff, beq_iff_eq, decide_eq_true_iff]
   cases ht : strI r.Text with
   | nil => rw [ht] at hl; simp at hl; omega
   | cons a l =>
    rw [ht] at hl
    simp at hl ⊢
    omega
  rintro _ _ ⟨rfl, rfl⟩
  have fail : ∀ {w : World}, Ss W (XrA b e m xs sn :: Hs) w → WP (ZaL.K1 (some (pt b 0)) r (-1)) w (fun y w' => Ss W (XrD b (162, r.At) :: Hs) w') := by
   intro w s
   unfold ZaL.K1
   exact WP.ite (fun _ => WP.step (ZdQ s (by decide) _) (fun _ w s => WP.ret s)) (fun h => absurd (by decide) h)
  refine WP.ite (fun h => ?_) (fun h => ?_)
  ·obtain ⟨h1, h2⟩ := of_decide_eq_true h
   refine WP.chk ⟨by omega, by omega, by omega⟩ (WP.step (Zja _ (by decide) (by decide)) ?_)
   rintro _ _ ⟨rfl, rfl⟩
   have et : strI (ByteArray.extract r.Text (Int.toNat 1) (Int.toNat (r.Text.size : Int))) = (strI r.Text).tail := by
    rw [Zcm]
    simp only [Int.toNat_natCast, show Int.toNat 1 = 1 from rfl]
    rw [List.take_of_length_le (by rw [List.length_drop]; omega), List.drop_one]
   rw [et, if_pos h2]
   cases hn : numR (strI r.Text).tail 0 7 with
   | none =>
    rw [ZiQ hn]
    exact fail s
   | some n =>
    rw [ZiP hn]
    have hn7 := Zmd hn
    unfold ZaL.K1
    rw [Zak (by omega) (by omega)]
    exact WP.ite (fun h => absurd h (by omega)) (fun _ => WP.ret ⟨rfl, hn7, s⟩)
  ·have hn : (if (strI r.Text).head? = some 112 then numR (strI r.Text).tail 0 7 else none) = none := by
    split
    ·rename_i h2
     have h1 : ¬ (strI r.Text).length > 1 := fun h1 => h (decide_eq_true ⟨h1, h2⟩)
     have : (strI r.Text).tail = [] := List.length_eq_zero_iff.1 (by rw [List.length_tail]; omega)
     rw [this]
     rfl
    ·rfl
   rw [hn]
   exact fail s
theorem ZpJ (s : Ss W Hs w) (t : ByteArray) : WP (Zbj t) w (fun r w' => r = decide (strI t ∈ Zgd) ∧ Ss W Hs w') := by
 unfold Zbj
 refine WP.newv s (fun b w s => ?_)
 have s : Ss W (pts true (pt b 0) ((cS.arr 7).enc (⟨knW, rfl⟩ : Vec ByteArray 7)) :: Hs) w := s
 refine WP.loopG (γ := Nat) (fun i (x : Int) w => x = (i : Int) ∧ i ≤ 7 ∧ (∀ x ∈ Zgd.take i, x ≠ strI t) ∧ Ss W (pts true (pt b 0) ((cS.arr 7).enc (⟨knW, rfl⟩ : Vec ByteArray 7)) :: Hs) w) (fun i _ => 7 - i) 0 ⟨rfl, Nat.zero_le _, by simp, s⟩ ?_
 clear s
 rintro i _ w ⟨rfl, hi, hx, s⟩
 show WP (Zbj.L1 t b (i : Int)) w _
 unfold Zbj.L1
 refine WP.ite (fun h => ?_) (fun h => WP.done ⟨?_, s.drop⟩)
 ·have h : (i : Int) < 7 := h
  have hi8 : i < 7 := by omega
  have hlen : i < knW.length := hi8
  refine WP.rdx s 0 rfl (Zss (xs := knW) rfl) (by omega) (x := knW[i]) (by rw [Int.toNat_natCast, List.getElem?_eq_getElem hlen]) rfl ?_
  have hf : Zgd[i]? = some (strI knW[i]) := by
   rw [← Zuc, List.getElem?_map, List.getElem?_eq_getElem hlen]
   rfl
  refine WP.ite (fun h2 => WP.done ⟨?_, s.drop⟩) (fun h2 => WP.next ⟨i + 1, ⟨?_, by omega, ?_, s⟩, by omega⟩)
  ·rw [Zbl] at h2
   rw [h2] at hf
   exact (decide_eq_true (List.mem_of_getElem? hf)).symm
  ·rw [Zak (by omega) (by omega)]
   omega
  ·rw [Zbl] at h2
   rw [List.take_add_one, hf]
   intro x hx2
   rcases List.mem_append.1 hx2 with hx2 | hx2
   ·exact hx x hx2
   ·have : x = strI knW[i] := by simpa using hx2
    rw [this]
    exact h2
 ·have h : ¬ (i : Int) < 7 := h
  have : i = 7 := by omega
  subst this
  exact (decide_eq_false (fun hm => hx _ hm rfl)).symm
theorem ZsK (s : Ss W (XrA b e m ws sn :: Hs) w) (hn : sn.length ≤ 2000) (t : ByteArray) : WP (Zay (some (pt b 0)) t) w (fun r w' => r = mayM sn m (strI t) ∧ Ss W (XrA b e m ws sn :: Hs) w') := by
 unfold Zay
 refine WP.loopG (γ := Nat) (fun i (x : Int) w => x = (i : Int) ∧ i ≤ sn.length ∧ (∀ x ∈ sn.take i, x ≠ strI t) ∧ Ss W (XrA b e m ws sn :: Hs) w) (fun i _ => sn.length - i) 0 ⟨rfl, Nat.zero_le _, by simp, s⟩ ?_
 clear s
 rintro i _ w ⟨rfl, hi, hx, s⟩
 show WP (Zay.L1 (some (pt b 0)) t (i : Int)) w _
 unfold Zay.L1
 obtain ⟨q, hq, s1⟩ := Zhg s
 have hl := (s1.vec_len (i := 2) rfl).1
 have hsl : q.2.2.1.length = sn.length := by rw [← hq.seen_, List.length_map]
 refine WP.nilck (WP.ld (x := q.1.seen) s1 0 rfl (o := 18) rfl (Zdc _) (WP.ite (fun h => ?_) (fun h => ?_)))
 ·have hlen : i < q.2.2.1.length := by omega
  refine WP.nilck (WP.ld (x := q.1.seen) s1 0 rfl (o := 18) rfl (Zdc _) (WP.rdx s1 2 rfl ZbO (by omega) (x := q.2.2.1[i]) (by rw [Int.toNat_natCast, List.getElem?_eq_getElem hlen]) rfl ?_))
  have hf : sn[i]? = some (strI q.2.2.1[i]) := by
   rw [← hq.seen_, List.getElem?_map, List.getElem?_eq_getElem hlen]
   rfl
  refine WP.ite (fun h2 => WP.done ⟨?_, s⟩) (fun h2 => WP.next ⟨i + 1, ⟨?_, by omega, ?_, s⟩, by omega⟩)
  ·rw [Zbl] at h2
   rw [h2] at hf
   unfold mayM
   exact (decide_eq_false (fun h => h.1 (List.mem_of_getElem? hf))).symm
  ·rw [Zak (by omega) (by omega)]
   omega
  ·rw [Zbl] at h2
   rw [List.take_add_one, hf]
   intro x hx2
   rcases List.mem_append.1 hx2 with hx2 | hx2
   ·exact hx x hx2
   ·have : x = strI q.2.2.1[i] := by simpa using hx2
    rw [this]
    exact h2
 ·have : i = sn.length := by omega
  subst this
  rw [List.take_length] at hx
  have hns : strI t ∉ sn := fun hm => hx _ hm rfl
  refine WP.step (R := fun r w' => r = mayM sn m (strI t) ∧ Ss W (XrA b e m ws sn :: Hs) w') ?_ (fun r w h => WP.done h)
  unfold Zay.K1 mayM
  refine WP.ite (fun h => WP.nilck (Zki s (WP.ret ⟨?_, s⟩))) (fun h => ?_)
  ·rw [Zbl, ZiH] at h
   rw [Bool.eq_iff_iff, beq_iff_eq, decide_eq_true_iff]
   exact ⟨fun h' => ⟨hns, fun _ => h', fun h2 => by rw [h] at h2; exact absurd h2 (by decide)⟩, fun h' => h'.2.1 h⟩
  ·rw [Zbl, ZiH] at h
   refine WP.step (R := fun y w' => y = decide (¬ strI t = tx "type" ∨ m.Proto = 1) ∧ w = w') (WP.ite (fun h2 => WP.ret ⟨?_, rfl⟩) (fun h2 => WP.nilck (Zki s (WP.ret ⟨?_, rfl⟩)))) ?_
   ·rw [Zbl, Zkp] at h2
    exact (decide_eq_true (.inl h2)).symm
   ·rw [Zbl, Zkp, Decidable.not_not] at h2
    rw [Bool.eq_iff_iff, beq_iff_eq, decide_eq_true_iff]
    exact ⟨.inr, fun h' => h'.elim (fun h' => absurd h2 h') id⟩
   rintro _ _ ⟨rfl, rfl⟩
   have hty : ZfS m.Proto = true ↔ (m.Proto = 1 ∨ m.Proto = 58) := by unfold ZfS; rw [decide_eq_true_iff]
   refine WP.step (R := fun y w' => y = decide (strI t ∉ sn ∧ (strI t = tx "flags" → m.Proto = 6) ∧ (strI t = tx "type" → ZfS m.Proto = true)) ∧ w = w') (WP.ite (fun h2 => WP.ret ⟨(decide_eq_true ⟨hns, fun h' => absurd h' h, fun h' => hty.2 (.inl ((of_decide_eq_true h2).elim (fun h2 => absurd h' h2) id))⟩).symm, rfl⟩) (fun h2 => WP.nilck (Zki s (WP.ret ⟨?_, rfl⟩)))) ?_
   ·have h2' : ¬ (¬ strI t = tx "type" ∨ m.Proto = 1) := fun h' => h2 (decide_eq_true h')
    have h3 : strI t = tx "type" := Decidable.byContradiction fun h3 => h2' (.inl h3)
    rw [Bool.eq_iff_iff, beq_iff_eq, decide_eq_true_iff]
    exact ⟨fun h' => ⟨hns, fun h4 => absurd h4 h, fun _ => hty.2 (.inr h')⟩, fun h' => (hty.1 (h'.2.2 h3)).elim (fun h4 => absurd (.inr h4) h2') id⟩
   rintro _ _ ⟨rfl, rfl⟩
   exact WP.ret ⟨rfl, s⟩
end
theorem Zoc {e : Int} {t : List Int} {m : ZbN} {ws : List Wd} (h : t ∉ Zgd) : Zea e t m ws = none := by
 have hn : ∀ u ∈ Zgd, ¬ t = u := fun u hu ht => h (by rw [ht]; exact hu)
 unfold Zea
 rw [if_neg (hn _ (by decide)), if_neg (hn _ (by decide)), if_neg (hn _ (by decide)), if_neg (hn _ (by decide)), if_neg (hn _ (by decide)), if_neg (hn _ (by decide)), if_neg (hn _ (by decide))]
section
variable {W w : World} {Hs : List HP} {b : Nat} {e : Int} {m : ZbN} {ws : List Wd} {sn : List (List Int)} {f : PF}
theorem Zri {β : Type} {sd : Zap} {sm : Zfb} {g : Unit → M β} {Q : β → World → Prop} (s : Ss W (ZeJ sd sm :: XrA b e m ws sn :: Hs) w) (k : ∀ w, Ss W (XrA b e { m with From := sm } ws sn :: Hs) w → WP (g ()) w Q) : WP (st ZaR (Addr.add (Addr.add (pt b 0) 2) 6) sd >>= g) w Q := by
 obtain ⟨⟨rr, q⟩, hq, s⟩ := Zhg (s.use [1] (s := [_]) (r := _ :: Hs) rfl)
 refine WP.st s 0 rfl (o := 2 + 6) rfl ((ZcK rr).trans' (ZdB rr.r sd) (ZdM rr _)) (fun w s => k w ?_)
 refine Zlo (q := (⟨rr.l, rr.end_, { rr.r with From := sd }, rr.seen, rr.err, rr.at_⟩, q)) ⟨hq.end_, hq.err, hq.ws_, hq.ne, hq.seen_, hq.sc⟩ ?_
 have s := (s.use [3] rfl).drop
 have s := s.use [0, 0, 0, 1] rfl
 exact s
theorem Ztx {β : Type} {sd : Zap} {sm : Zfb} {g : Unit → M β} {Q : β → World → Prop} (s : Ss W (ZeJ sd sm :: XrA b e m ws sn :: Hs) w) (k : ∀ w, Ss W (XrA b e { m with To := sm } ws sn :: Hs) w → WP (g ()) w Q) : WP (st ZaR (Addr.add (Addr.add (pt b 0) 2) 9) sd >>= g) w Q := by
 obtain ⟨⟨rr, q⟩, hq, s⟩ := Zhg (s.use [1] (s := [_]) (r := _ :: Hs) rfl)
 refine WP.st s 0 rfl (o := 2 + 9) rfl ((ZcK rr).trans' (Zeg rr.r sd) (ZdM rr _)) (fun w s => k w ?_)
 refine Zlo (q := (⟨rr.l, rr.end_, { rr.r with To := sd }, rr.seen, rr.err, rr.at_⟩, q)) ⟨hq.end_, hq.err, hq.ws_, hq.ne, hq.seen_, hq.sc⟩ ?_
 have s := (s.use [4] rfl).drop
 exact s
def ZuP (W : World) (Hs : List HP) (b : Nat) (e : Int) (sn : List (List Int)) (w : World) : Option (PE (ZbN × List Wd)) → Prop
 | none => True
 | some X => Zll W Hs b e sn w X
theorem Zo9 {x : Wd} (hb : B255 (m.Set, m.Clear)) (hk : 0 ≤ m.Kind ∧ m.Kind ≤ 3) (hl : sn.length ≤ 2000) (s : Ss W (XrA b e m (x :: ws) sn :: Hs) w) :
  WP (ZaB (some (pt b 0))) w (fun _ w' => if x.1 ∈ Zgd then (if mayM sn m x.1 = false then Ss W (XrD b (165, x.2) :: Hs) w' else ZuP W Hs b e (sn ++ [x.1]) w' (Zea e x.1 m ws)) else Ss W (XrD b (160, x.2) :: Hs) w') := by
 unfold ZaB
 refine WP.step (Ziz s) ?_
 rintro r w ⟨hr, s⟩
 rw [List.headD_cons] at hr
 subst hr
 have hT : (wrOf r).1 = strI r.Text := rfl
 have hA : (wrOf r).2 = r.At := rfl
 rw [hT, hA]
 refine WP.slot' s (fun _ w s => WP.step (ZpJ s r.Text) ?_)
 rintro _ w ⟨rfl, s⟩
 by_cases hkn : strI r.Text ∈ Zgd
 rotate_left
 ·refine WP.ite (fun _ => WP.step (ZdQ s (by decide) _) (fun _ w s => WP.ret ?_)) (fun h => absurd (by rw [decide_eq_false hkn]; decide) h)
  rw [if_neg hkn]
  exact s
 refine WP.ite (fun h => absurd (decide_eq_true hkn) h) (fun _ => WP.step (ZsK s hl r.Text) ?_)
 rintro _ w ⟨rfl, s⟩
 simp only [if_pos hkn]
 cases hm : mayM sn m (strI r.Text) with
 | false =>
  refine WP.ite (fun _ => WP.step (ZdQ s (by decide) _) (fun _ w s => WP.ret ?_)) (fun h => absurd (by decide) h)
  rw [if_pos rfl]
  exact s
 | true =>
 refine WP.ite (fun h => absurd rfl h) (fun _ => ?_)
 simp only [Bool.true_eq_false, if_false]
 refine WP.draw' s (fun w s => WP.nilck ?_)
 obtain ⟨⟨rr, ⟨wl, sp⟩, L, sp2⟩, hq, s⟩ := Zhg s
 have hsl : L.length = sn.length := by rw [← hq.seen_, List.length_map]
 refine WP.ld (x := rr.seen) s 0 rfl (o := 18) rfl (Zdc _) (WP.slot' s (fun _ w s => WP.same s 0 rfl (o := 18) rfl (Zdc rr) ?_))
 refine WP.appl s 2 rfl (by simp only [List.length_singleton]; omega) (by decide) (fun a' w sp' s => WP.nilck ?_)
 refine WP.st s 0 rfl (o := 18) rfl (ZgF rr a') (fun w s => ?_)
 have s : Ss W (XrHs b m (⟨rr.l, rr.end_, rr.r, a', rr.err, rr.at_⟩, (wl, sp), (L ++ [r.Text], sp')) ++ Hs) w := s
 have s := Zlo (e := e) (ws := wrOf r :: ws) (sn := sn ++ [strI r.Text]) (q := (⟨rr.l, rr.end_, rr.r, a', rr.err, rr.at_⟩, (wl, sp), (L ++ [r.Text], sp'))) ⟨hq.end_, hq.err, hq.ws_, hq.ne, (by show (L ++ [r.Text]).map strI = _; rw [List.map_append, show L.map strI = sn from hq.seen_]; rfl), hq.sc⟩ s
 refine ZsJ s (fun w s => ?_)
 clear hm hq hsl
 generalize sn ++ [strI r.Text] = sn at s ⊢
 generalize r.Text = t at s ⊢
 unfold Zea
 have k1 : t.toList = (ZnJ).toList ↔ strI t = tx "on" := by rw [Zbl, ZtC]
 have k2 : t.toList = (ZnI).toList ↔ strI t = tx "vid" := by rw [Zbl, Zsu]
 have k3 : t.toList = (Zkw).toList ↔ strI t = tx "from" := by rw [Zbl, ZpT]
 have k4 : t.toList = (Zl5).toList ↔ strI t = tx "to" := by rw [Zbl, ZtB]
 have k5 : t.toList = (Zj0).toList ↔ strI t = tx "flags" := by rw [Zbl, ZiH]
 have k6 : t.toList = (ZjZ).toList ↔ strI t = tx "type" := by rw [Zbl, Zkp]
 have k7 : t.toList = (ZnH).toList ↔ strI t = tx "pieces" := by rw [Zbl, ZmM]
 by_cases h1 : strI t = tx "on"
 ·rw [if_pos h1]
  refine WP.ite (fun _ => WP.step (Zrl s) ?_) (fun h => absurd (k1.2 h1) h)
  intro n w h
  cases hp : Zlf e ws with
  | error f =>
   rw [hp] at h
   exact WP.nilck (ZnB (o := 4) h (fun r => { r with In := n }) (fun r => Zft r _) (fun w s => WP.ret s))
  | ok q =>
   rw [hp] at h
   obtain ⟨rfl, hr, s⟩ := h
   exact WP.nilck (Zlc (o := 4) (m' := { m with In := q.1 + 1 }) s (fun r => { r with In := q.1 + 1 }) (fun r => Zft r _) (fun r h => ⟨h.1, h.2.1, h.2.2.1, h.2.2.2.1, rfl, h.2.2.2.2.2⟩) (fun r => ⟨rfl, rfl⟩) ⟨rfl, rfl⟩ (fun w s => WP.ret s))
 rw [if_neg h1]
 refine WP.ite (fun h => absurd (k1.1 h) h1) (fun _ => ?_)
 by_cases h2 : strI t = tx "vid"
 ·rw [if_pos h2]
  refine WP.ite (fun _ => WP.step (ZiB s (by decide) (by decide)) ?_) (fun h => absurd (k2.2 h2) h)
  intro n w h
  cases hp : numP e 1 4094 ws with
  | error f =>
   rw [hp] at h
   exact WP.nilck (ZnB (o := 5) h (fun r => { r with Vid := n }) (fun r => Ze4 r _) (fun w s => WP.ret s))
  | ok q =>
   rw [hp] at h
   obtain ⟨rfl, s⟩ := h
   exact WP.nilck (Zlc (o := 5) (m' := { m with Vid := q.1 }) s (fun r => { r with Vid := q.1 }) (fun r => Ze4 r _) (fun r h => ⟨h.1, h.2.1, h.2.2.1, h.2.2.2.1, h.2.2.2.2.1, rfl, h.2.2.2.2.2.2⟩) (fun r => ⟨rfl, rfl⟩) ⟨rfl, rfl⟩ (fun w s => WP.ret s))
 rw [if_neg h2]
 refine WP.ite (fun h => absurd (k2.1 h) h2) (fun _ => ?_)
 by_cases h3 : strI t = tx "from"
 ·rw [if_pos h3]
  refine WP.ite (fun _ => WP.step (Zok s hk) ?_) (fun h => absurd (k3.2 h3) h)
  intro n w h
  cases hp : Zjh e m.Kind m.Proto ws with
  | error f =>
   rw [hp] at h
   exact WP.nilck (ZnB (o := 6) h (fun r => { r with From := n }) (fun r => ZdB r _) (fun w s => WP.ret s))
  | ok q =>
   rw [hp] at h
   exact WP.nilck (Zri h (fun w s => WP.ret s))
 rw [if_neg h3]
 refine WP.ite (fun h => absurd (k3.1 h) h3) (fun _ => ?_)
 by_cases h4 : strI t = tx "to"
 ·rw [if_pos h4]
  refine WP.ite (fun _ => WP.step (Zok s hk) ?_) (fun h => absurd (k4.2 h4) h)
  intro n w h
  unfold ZaB.K1
  cases hp : Zjh e m.Kind m.Proto ws with
  | error f =>
   rw [hp] at h
   exact WP.nilck (ZnB (o := 9) h (fun r => { r with To := n }) (fun r => Zeg r _) (fun w s => WP.ret s))
  | ok q =>
   rw [hp] at h
   exact WP.nilck (Ztx h (fun w s => WP.ret s))
 rw [if_neg h4]
 refine WP.ite (fun h => absurd (k4.1 h) h4) (fun _ => ?_)
 by_cases h5 : strI t = tx "flags"
 ·rw [if_pos h5]
  refine WP.ite (fun _ => WP.step (ZpK (m := m) (p := (m.Set, m.Clear)) hb s) ?_) (fun h => absurd (k5.2 h5) h)
  intro n w h
  unfold ZaB.K1
  refine WP.ret ?_
  unfold ZmJ at h
  simp only at h
  cases hp : ZeN e m.Set m.Clear ws with
  | error f => rw [hp] at h; exact h
  | ok q => rw [hp] at h; exact h
 rw [if_neg h5]
 refine WP.ite (fun h => absurd (k5.1 h) h5) (fun _ => ?_)
 by_cases h6 : strI t = tx "type"
 ·rw [if_pos h6]
  refine WP.ite (fun _ => WP.step (ZiB s (by decide) (by decide)) ?_) (fun h => absurd (k6.2 h6) h)
  intro n w h
  unfold ZaB.K1
  cases hp : numP e 0 255 ws with
  | error f =>
   rw [hp] at h
   exact WP.nilck (ZnB (o := 14) h (fun r => { r with Type_ := IntKind.wrap .i64 (n + 1) }) (fun r => Zex r _) (fun w s => WP.ret s))
  | ok q =>
   rw [hp] at h
   obtain ⟨rfl, s⟩ := h
   have hr : 0 ≤ q.1 ∧ q.1 ≤ 255 := by
    cases ws with
    | nil => cases hp
    | cons x xs =>
     rw [show numP e 0 255 (x :: xs) = if x.1 = Zcu then .error (160, x.2) else match numR x.1 0 255 with
      | none => .error (162, x.2)
      | some n => .ok (n, xs) from rfl] at hp
     split at hp
     ·cases hp
     ·split at hp
      ·cases hp
      ·rename_i n hn
       cases hp
       exact Zmd hn
   have hw : IntKind.wrap .i64 (q.1 + 1) = q.1 + 1 := Zak (by omega) (by omega)
   rw [hw]
   exact WP.nilck (Zlc (o := 14) (m' := { m with Type_ := q.1 + 1 }) s (fun r => { r with Type_ := q.1 + 1 }) (fun r => Zex r _) (fun r h => ⟨h.1, h.2.1, h.2.2.1, h.2.2.2.1, h.2.2.2.2.1, h.2.2.2.2.2.1, h.2.2.2.2.2.2.1, h.2.2.2.2.2.2.2.1, rfl, h.2.2.2.2.2.2.2.2.2⟩) (fun r => ⟨rfl, rfl⟩) ⟨rfl, rfl⟩ (fun w s => WP.ret s))
 rw [if_neg h6]
 refine WP.ite (fun h => absurd (k6.1 h) h6) (fun _ => ?_)
 unfold ZaB.K1
 by_cases h7 : strI t = tx "pieces"
 ·rw [if_pos h7]
  exact WP.ite (fun _ => WP.nilck (Zlc (o := 15) (m' := { m with Pieces := true }) s (fun r => { r with Pieces := true }) (fun r => Zgi r _) (fun r h => ⟨h.1, h.2.1, h.2.2.1, h.2.2.2.1, h.2.2.2.2.1, h.2.2.2.2.2.1, h.2.2.2.2.2.2.1, h.2.2.2.2.2.2.2.1, h.2.2.2.2.2.2.2.2.1, rfl⟩) (fun r => ⟨rfl, rfl⟩) ⟨rfl, rfl⟩ (fun w s => WP.ret s))) (fun h => absurd (k7.2 h7) h)
 rw [if_neg h7]
 exact WP.ite (fun h => absurd (k7.1 h) h7) (fun _ => WP.ret trivial)
end
theorem ZoO : ∀ (l cur : List Int) (p : Int) (ws : List Wd), lexM cur p l = .ok ws → ∀ w ∈ ws, w.1 ≠ []
 | [], cur, p, ws, h => by
  have h : ws = if cur = [] then [] else [(cur, p - cur.length)] := by
   rw [lexM] at h
   exact (Except.ok.inj h).symm
  subst h
  split
  ·simp
  ·rename_i hc
   intro w hw
   rw [List.mem_singleton.1 hw]
   exact hc
 | c :: cs, cur, p, ws, h => by
  by_cases hw : Zhh c = true
  ·rw [Zke hw] at h
   exact ZoO cs _ _ _ h
  ·rw [Zna (by simpa using hw)] at h
   split at h
   ·cases h
   ·rename_i r hr
    cases h
    have key : ∀ w ∈ r, w.1 ≠ [] := by
     split at hr
     ·split at hr
      ·cases hr
      ·rename_i r' hr'
       cases hr
       intro w hm
       rcases List.mem_cons.1 hm with rfl | hm
       ·simp
       ·exact ZoO cs [] _ _ hr' w hm
     ·split at hr
      ·exact ZoO cs [] _ _ hr
      ·cases hr
    intro w hm
    split at hm
    ·exact key w hm
    ·rename_i hc
     rcases List.mem_cons.1 hm with rfl | hm
     ·exact hc
     ·exact key w hm
theorem Zrb {e : Int} {ws : List Wd} {q : ZbN × List Wd} (h : actX e ws = .ok q) : q.1.Kind = 0 ∧ q.1.Proto = 0 := by
 unfold actX at h
 split at h
 ·split at h
  ·cases h
  ·cases h
   exact ⟨rfl, rfl⟩
 ·split at h
  ·cases h
   exact ⟨rfl, rfl⟩
  ·split at h
   ·cases h
    exact ⟨rfl, rfl⟩
   ·cases h
theorem Zrq {e : Int} {k : Nat} {ws : List Wd} {p : (Int × Int) × List Wd} (hk : k < 3) (h : ZmK e k ws = .ok p) : 0 ≤ p.1.1 ∧ p.1.1 ≤ 3 := by
 unfold ZmK at h
 split at h
 ·cases h
  simp only
  omega
 ·split at h
  ·split at h
   ·cases h
   ·cases h
    simp only
    omega
  ·cases h
   simp only
   omega
theorem Zpa {e : Int} {ws : List Wd} {p : (Int × Int) × List Wd} (h : ZgK e ws = .ok p) : 0 ≤ p.1.1 ∧ p.1.1 ≤ 3 := by
 cases ws with
 | nil => cases h
 | cons w ws =>
  rw [ZhM] at h
  split at h
  ·cases h
   exact ⟨Int.le_refl 0, show (0 : Int) ≤ 3 by decide⟩
  ·split at h
   ·split at h
    ·split at h
     ·cases h
     ·cases h
      exact ⟨Int.le_refl 0, show (0 : Int) ≤ 3 by decide⟩
    ·cases h
   ·rename_i k hk
    exact Zrq (Zhy (l := Zmm) hk) h
theorem Znq {e : Int} {t : List Int} {m m' : ZbN} {ws r : List Wd} (h : Zea e t m ws = some (.ok (m', r))) : m'.Kind = m.Kind := by
 unfold Zea at h
 split at h
 ·split at h
  ·cases h
  ·cases h
   rfl
 ·split at h
  ·split at h
   ·cases h
   ·cases h
    rfl
  ·split at h
   ·split at h
    ·cases h
    ·cases h
     rfl
   ·split at h
    ·split at h
     ·cases h
     ·cases h
      rfl
    ·split at h
     ·split at h
      ·cases h
      ·cases h
       rfl
     ·split at h
      ·split at h
       ·cases h
       ·cases h
        rfl
      ·split at h
       ·cases h
        rfl
       ·cases h
theorem Zpr {S sn : List (List Int)} (h : ∀ t, t ∈ S ↔ t ∈ sn) (m : ZbN) (t : List Int) : mayM S m t = mayM sn m t := by
 unfold mayM
 refine decide_eq_decide.2 ?_
 rw [h t]
theorem Zm4 {S : List (List Int)} (hS : ∀ t ∈ S, t ∈ Zgd) (m : ZbN) {t : List Int} (h : t ∉ Zgd) : mayM S m t = true := by
 unfold mayM
 refine decide_eq_true ⟨fun h' => h (hS t h'), fun h' => absurd (by rw [h']; decide) h, fun h' => absurd (by rw [h']; decide) h⟩
section
variable {W w : World} {Hs : List HP} {b : Nat} {e : Int} {m : ZbN} {ws : List Wd} {sn : List (List Int)} {f : PF}
theorem Ziy (s : Ss W (XrD b f :: Hs) w) : WP (Zaf.K1 b) w (fun r w' => ParR W Hs r w' (.error f)) := by
 unfold Zaf.K1
 obtain ⟨rr, ⟨h1, h2, h3, h4⟩, s1⟩ := s.openx 0 rfl
 refine WP.ld (x := rr.err) s1 0 rfl (o := 19) rfl (ZcP _) (WP.ite (fun _ => WP.draw' s1 (fun w s1 => ?_)) (fun h => absurd (by rw [h1]; exact h3) h))
 refine WP.ld (x := rr.err) s1 0 rfl (o := 19) rfl (ZcP _) (WP.ld (x := rr.at_) s1 0 rfl (o := 20) rfl (Ze6 _) (WP.same s1 0 rfl (o := 20) rfl (Ze6 rr) (WP.same s1 0 rfl (o := 19) rfl (ZcP rr) (WP.ret ⟨?_, h3, s1.drop⟩))))
 rw [h1, h2]
theorem ZnC (s : Ss W (XrA b e m ws sn :: Hs) w) : WP (Zaf.K1 b) w (fun r w' => ParR W Hs r w' (.ok m)) := by
 unfold Zaf.K1
 refine ZlZ s (WP.ite (fun h => absurd rfl h) (fun _ => ?_))
 obtain ⟨⟨rr, q⟩, hq, s⟩ := Zhg s
 refine WP.ld (x := rr.r) s 0 rfl (o := 2) rfl (ZcK _) (WP.ret ⟨rfl, ?_⟩)
 have s : Ss W ([ZeJ rr.r.From m.From, ZeJ rr.r.To m.To] ++ Hs) w := by
  have s := s.drop.drop.drop
  exact s
 exact s.group.first (fun h hh => ⟨hq.sc, hh⟩)
theorem Zrn {S : List (List Int)} {fuel : Nat} {X : PE ZbN} (hX : Zhf e fuel S m ws = X) (hf : ws.length < fuel) (hb : B255 (m.Set, m.Clear)) (hk : 0 ≤ m.Kind ∧ m.Kind ≤ 3) (hS : ∀ t, t ∈ S ↔ t ∈ sn) (hK : ∀ t ∈ S, t ∈ Zgd) (hl : sn.length + ws.length ≤ 2000) (s : Ss W (XrA b e m ws sn :: Hs) w) :
  WP (Zaf.K2 b) w (fun r w' => ParR W Hs r w' X) := by
 unfold Zaf.K2
 refine WP.loopG (γ := PE (Nat × List (List Int) × List (List Int) × ZbN × List Wd)) (fun g (_ : Unit) w => match g with
   | .ok (fuel, S, sn, m, ws) => Zhf e fuel S m ws = X ∧ ws.length < fuel ∧ B255 (m.Set, m.Clear) ∧ (0 ≤ m.Kind ∧ m.Kind ≤ 3) ∧ (∀ t, t ∈ S ↔ t ∈ sn) ∧ (∀ t ∈ S, t ∈ Zgd) ∧ sn.length + ws.length ≤ 2000 ∧ Ss W (XrA b e m ws sn :: Hs) w
   | .error f => X = .error f ∧ Ss W (XrD b f :: Hs) w) (fun g _ => match g with
   | .ok (_, _, _, _, ws) => ws.length + 1
   | .error _ => 0) (.ok (fuel, S, sn, m, ws)) ⟨hX, hf, hb, hk, hS, hK, hl, s⟩ ?_
 clear s hX hf hb hk hS hK hl
 rintro g _ w h
 show WP (Zaf.L1 b) w _
 unfold Zaf.L1
 cases g with
 | error f =>
  obtain ⟨hXf, s⟩ := h
  refine ZmC s (fun h => ?_)
  refine WP.step (R := fun y w' => y = false ∧ w = w') (WP.ite (fun h' => absurd h' h) (fun _ => WP.ret ⟨rfl, rfl⟩)) ?_
  rintro _ _ ⟨rfl, rfl⟩
  refine WP.ite (fun h => by cases h) (fun _ => WP.step (Ziy s) (fun r w h => WP.done ?_))
  rw [hXf]
  exact h
 | ok g =>
  obtain ⟨fuel, S, sn, m, ws⟩ := g
  obtain ⟨hX, hf, hb, hk, hS, hK, hl, s⟩ := h
  obtain ⟨fu, rfl⟩ : ∃ k, fuel = k + 1 := ⟨fuel - 1, by omega⟩
  refine ZlZ s ?_
  refine WP.step (R := fun y w' => y = decide (ws ≠ []) ∧ w = w') (WP.ite (fun _ => ?_) (fun h => absurd rfl h)) ?_
  ·obtain ⟨q, hq, s1⟩ := Zhg s
   have hql := (s1.vec_len (i := 1) rfl).1
   refine WP.ld (x := q.1.l) s1 0 rfl (o := 0) (by simp [Addr.add]) (Zcg _) (WP.ret ⟨?_, rfl⟩)
   refine decide_eq_decide.2 ?_
   have h1 : ws ≠ [] ↔ 0 < ws.length := List.length_pos_iff.symm
   have h2 : ws.length = q.2.1.1.length := by rw [hq.ws_, List.length_map]
   rw [h1]
   omega
  rintro _ _ ⟨rfl, rfl⟩
  cases ws with
  | nil =>
   refine WP.ite (fun h => by simp at h) (fun _ => WP.step (ZnC s) (fun r w h => WP.done ?_))
   rw [← hX]
   exact h
  | cons x xs =>
   refine WP.ite (fun _ => WP.step (Zo9 hb hk (by omega) s) ?_) (fun h => absurd (by simp) h)
   clear s
   intro _ w h
   rw [show Zhf e (fu + 1) S m (x :: xs) = if mayM S m x.1 = false then .error (165, x.2) else match Zea e x.1 m xs with
    | none => .error (160, x.2)
    | some (.error q) => .error q
    | some (.ok (m', r')) => Zhf e fu (x.1 :: S) m' r' from rfl] at hX
   simp only [List.length_cons] at hf hl
   by_cases hkn : x.1 ∈ Zgd
   rotate_left
   ·rw [if_neg hkn] at h
    rw [if_neg (by rw [Zm4 hK m hkn]; decide), Zoc hkn] at hX
    exact WP.next ⟨.error (160, x.2), ⟨hX.symm, h⟩, by simp⟩
   rw [if_pos hkn, ← Zpr hS] at h
   by_cases hm : mayM S m x.1 = false
   ·rw [if_pos hm] at h hX
    exact WP.next ⟨.error (165, x.2), ⟨hX.symm, h⟩, by simp⟩
   rw [if_neg hm] at h hX
   cases hc : Zea e x.1 m xs with
   | none =>
    exfalso
    unfold Zea at hc
    have hh : x.1 = tx "on" ∨ x.1 = tx "vid" ∨ x.1 = tx "from" ∨ x.1 = tx "to" ∨ x.1 = tx "flags" ∨ x.1 = tx "type" ∨ x.1 = tx "pieces" := by
     unfold Zgd at hkn
     simpa using hkn
    split at hc
    ·cases hc
    ·split at hc
     ·cases hc
     ·split at hc
      ·cases hc
      ·split at hc
       ·cases hc
       ·split at hc
        ·cases hc
        ·split at hc
         ·cases hc
         ·split at hc
          ·cases hc
          ·rcases hh with h | h | h | h | h | h | h <;> contradiction
   | some Y =>
    rw [hc] at h hX
    cases Y with
    | error f => exact WP.next ⟨.error f, ⟨hX.symm, h⟩, by simp⟩
    | ok q =>
     obtain ⟨m', r'⟩ := q
     obtain ⟨c1, c2⟩ := Zk4 hc
     have c1 : r'.length ≤ xs.length := c1
     have c3 := Znq hc
     refine WP.next ⟨.ok (fu, x.1 :: S, sn ++ [x.1], m', r'), ⟨hX, show r'.length < fu by omega, c2 hb, by rw [c3]; exact hk, ?_, ?_, ?_, h⟩, show r'.length + 1 < xs.length + 1 + 1 by omega⟩
     ·intro t
      rw [List.mem_cons, List.mem_append, List.mem_singleton, hS t]
      exact or_comm
     ·intro t ht
      rcases List.mem_cons.1 ht with rfl | ht
      ·exact hkn
      ·exact hK t ht
     ·simp only [List.length_append, List.length_singleton]
      omega
theorem Zl0 (s : Ss W Hs w) (t : ByteArray) : WP (Zaf t) w (fun r w' => ParR W Hs r w' (ZdI (strI t))) := by
 unfold Zaf ZdI
 have hl := Zbq t
 refine WP.slot' s (fun _ w s => WP.ite (fun h => WP.ret ?_) (fun h => ?_))
 ·rw [if_pos (show (strI t).length > 1024 by omega)]
  exact ⟨rfl, by decide, s⟩
 rw [if_neg (show ¬ (strI t).length > 1024 by omega)]
 refine WP.step (ZpH s t (by omega)) ?_
 intro r2 w h
 cases hx : lexM [] 0 (strI t) with
 | error p =>
  rw [hx] at h
  obtain ⟨h1, h2, s⟩ := h
  refine WP.ite (fun _ => WP.ret ?_) (fun h => absurd (by omega) h)
  rw [h1, h2]
  exact ⟨rfl, show (160 : Int) ≠ 0 by decide, s⟩
 | ok ws =>
  rw [hx] at h
  show WP _ w (fun r w' => ParR W Hs r w' (match Zh2 ((strI t).length : Int) ws with
   | .error f => .error f
   | .ok (m, r) => Zhf ((strI t).length : Int) (ws.length + 1) [] m r))
  obtain ⟨h1, wl, sp, hw, s⟩ := h
  obtain ⟨l1, l2, l3⟩ := ZiS _ _ _ _ hx
  refine WP.ite (fun h => absurd h (by omega)) (fun _ => ?_)
  refine WP.newv (c := Za9) s (fun b w s => ?_)
  have s := (((s.mk0 (A := vec cRg Sl.nil [] []) Zch).mk0 (A := vec cPfx Sl.nil [] []) Zch))
  have s : Ss W (ZeJ ZaQ zSd :: (pts true (pt b 0) (cXr.enc ⟨r2.1, (t.size : Int), Zax, Sl.nil, 0, 0⟩) :: vec cWr r2.1 wl sp :: Hs)) w := Zh9 (j := ZaQ) (nt := false) (ns := []) (ps := []) (sp := []) (sp2 := []) rfl s
  have s := (((s.mk0 (A := vec cRg Sl.nil [] []) Zch).mk0 (A := vec cPfx Sl.nil [] []) Zch))
  have s : Ss W (ZeJ ZaQ zSd :: (ZeJ ZaQ zSd :: pts true (pt b 0) (cXr.enc ⟨r2.1, (t.size : Int), Zax, Sl.nil, 0, 0⟩) :: vec cWr r2.1 wl sp :: Hs)) w := Zh9 (j := ZaQ) (nt := false) (ns := []) (ps := []) (sp := []) (sp2 := []) rfl s
  have s := s.mk0 (A := vec cS Sl.nil [] []) Zch
  have s : Ss W (XrHs b zRl (⟨r2.1, (t.size : Int), Zax, Sl.nil, 0, 0⟩, (wl, sp), ([], [])) ++ Hs) w := by
   have s := s.use [3, 3, 0, 0, 0] rfl
   exact s
  have hne : ∀ x ∈ ws, x.1 ≠ [] ∧ x.1.length ≤ 1024 := by
   intro x hx2
   have := l3 x hx2
   exact ⟨ZoO _ _ _ _ hx x hx2, by simp only [List.length_nil] at this; omega⟩
  have s : Ss W (XrA b ((strI t).length : Int) zRl ws [] :: Hs) w := Zlo ⟨by simp only; omega, rfl, hw.symm, hne, rfl, Zkh⟩ s
  generalize hE : ((strI t).length : Int) = e at s ⊢
  refine WP.step (ZsL s) ?_
  intro _ w h
  have dead : ∀ {w : World} {f : PF}, Zh2 e ws = .error f → Ss W (XrD b f :: Hs) w → WP (Zaf.K2 b) w (fun r w' => ParR W Hs r w' (match Zh2 e ws with
    | .error f => .error f
    | .ok (m, r) => Zhf e (ws.length + 1) [] m r)) := by
   intro w f hh s
   rw [hh]
   unfold Zaf.K2
   refine WP.loopG (γ := Unit) (fun _ (_ : Unit) w => Ss W (XrD b f :: Hs) w) (fun _ _ => 0) () s ?_
   clear s
   rintro _ _ w s
   show WP (Zaf.L1 b) w _
   unfold Zaf.L1
   refine ZmC s (fun h => ?_)
   refine WP.step (R := fun y w' => y = false ∧ w = w') (WP.ite (fun h' => absurd h' h) (fun _ => WP.ret ⟨rfl, rfl⟩)) ?_
   rintro _ _ ⟨rfl, rfl⟩
   exact WP.ite (fun h => by cases h) (fun _ => WP.step (Ziy s) (fun r w h => WP.done h))
  have hh := Ztf e ws
  cases ha : actX e ws with
  | error f =>
   rw [ha] at h hh
   have s : Ss W (XrD b f :: Hs) w := h
   exact ZmC s (fun h => WP.ite (fun h' => absurd h' h) (fun _ => dead hh s))
  | ok q =>
   have hz := Zrb ha
   rw [ha] at h hh
   have s : Ss W (XrA b e q.1 q.2 [] :: Hs) w := h
   refine ZlZ s (WP.ite (fun _ => WP.step (Zrj s hz) ?_) (fun h => absurd rfl h))
   intro _ w h
   have hh : Zh2 e ws = Zjb q.1 (ZgK e q.2) := hh
   cases hp : ZgK e q.2 with
   | error f =>
    rw [hp] at h hh
    exact dead hh h
   | ok p =>
    rw [hp] at h hh
    have hh : Zh2 e ws = .ok ({ q.1 with Kind := p.1.1, Proto := p.1.2 }, p.2) := hh
    obtain ⟨hb, hr⟩ := Zng hh
    rw [hh]
    exact Zrn (S := []) (sn := []) (fuel := ws.length + 1) rfl (by omega) hb (Zpa hp) (fun t => Iff.rfl) (fun t ht => by cases ht) (by simp only [List.length_nil]; omega) h
end
def outR : PE ZbN → ZbN × Int × Int
 | .ok m => (m, 0, 0)
 | .error f => (zRl, f.1, f.2)
def ZsH (m : ZbN) : Prop := (m.From.nets.length ≤ 16 ∧ m.From.ports.length ≤ 16) ∧ m.To.nets.length ≤ 16 ∧ m.To.ports.length ≤ 16
theorem ZrJ (t : List Int) : BytR (outR (ZdI t)).1 ∧ ZsH (outR (ZdI t)).1 := by
 have key : ∀ {m : ZbN}, FitR m → BytR m ∧ ZsH m := fun h => ⟨⟨h.1.1.2, h.2.1.2⟩, ⟨h.1.1.1, h.1.2⟩, h.2.1.1, h.2.2⟩
 cases hX : ZdI t with
 | error f => exact key zFit
 | ok m => exact key (Zp4 hX)
section
variable {W w : World} {R Hs : List HP}
theorem outP {r : Zaz × Int × Int} {X : PE ZbN} (h : ParR W Hs r w X) : r.2 = (outR X).2 ∧ Ss W (Zsq r.1 (outR X).1 :: Hs) w := by
 cases X with
 | ok m => exact h
 | error f =>
  obtain ⟨rfl, -, s⟩ := h
  refine ⟨rfl, ?_⟩
  have s := (((s.mk0 (A := vec cRg Sl.nil [] []) Zch).mk0 (A := vec cPfx Sl.nil [] []) Zch))
  have s : Ss W (ZeJ ZaQ zSd :: Hs) w := Zh9 (j := ZaQ) (nt := false) (ns := []) (ps := []) (sp := []) (sp2 := []) rfl s
  have s := (((s.mk0 (A := vec cRg Sl.nil [] []) Zch).mk0 (A := vec cPfx Sl.nil [] []) Zch))
  have s : Ss W ([ZeJ ZaQ zSd, ZeJ ZaQ zSd] ++ Hs) w := Zh9 (j := ZaQ) (nt := false) (ns := []) (ps := []) (sp := []) (sp2 := []) rfl s
  exact s.group.first (fun h hh => ⟨Zkh, hh⟩)
theorem ZnW {r : Zaz} {m : ZbN} (s : Ss W (Zsq r m :: Hs) w) (hb : BytR m) : ∃ a1 a2 b1 b2, Ss W (vec cPfx r.To.Nets m.To.nets a1 :: vec cRg r.To.Ports m.To.ports a2 :: vec cPfx r.From.Nets m.From.nets b1 :: vec cRg r.From.Ports m.From.ports b2 :: Hs) w ∧ RdR (vec cPfx r.To.Nets m.To.nets a1 :: vec cRg r.To.Ports m.To.ports a2 :: vec cPfx r.From.Nets m.From.nets b1 :: vec cRg r.From.Ports m.From.ports b2 :: Hs) r m := by
 obtain ⟨h, hh⟩ := s.has (i := 0) rfl
 have sc := hh.1
 have s := Ss.split (s.first (B := seps [ZeJ r.From m.From, ZeJ r.To m.To]) (fun h hh => hh.2))
 obtain ⟨q1, n1, s⟩ := s.openx 0 rfl
 have s := Ss.split (l := [vec cPfx r.From.Nets m.From.nets q1.1, vec cRg r.From.Ports m.From.ports q1.2]) s
 obtain ⟨q2, n2, s⟩ := s.openx 2 rfl
 have s := s.use [2] rfl
 have s := Ss.split (l := [vec cPfx r.To.Nets m.To.nets q2.1, vec cRg r.To.Ports m.To.ports q2.2]) s
 exact ⟨_, _, _, _, s, sc, ⟨n1, hb.1, ⟨2, _, rfl, ZbO⟩, ⟨3, _, rfl, ZbO⟩⟩, ⟨n2, hb.2, ⟨0, _, rfl, ZbO⟩, ⟨1, _, rfl, ZbO⟩⟩⟩
def upto (k : Nat) (l : List Sl) : List Sl := if k = 0 then [] else l
theorem ZrU {u : Sl} {x : Zaz} (s : Ss W (vec Zaj u [x] [] :: R) w) : WP (Zbk u) w (fun r w' => ∃ l1 l2, Ss W (vec cL r.nets [x.From.Nets, x.To.Nets] l1 :: vec cL r.ports [x.From.Ports, x.To.Ports] l2 :: vec Zaj u [x] [] :: R) w') := by
 unfold Zbk
 refine WP.slot' s (fun _ w s => WP.slot' s (fun _ w s => ?_))
 have s := (s.mk0 (A := vec cL Sl.nil [] []) Zch).mk0 (A := vec cL Sl.nil [] []) Zch
 refine WP.loopG (γ := Nat × List Sl × List Sl) (fun g (y : Int × Zaw) w => y.1 = (g.1 : Int) ∧ g.1 ≤ 1 ∧ Ss W (vec cL y.2.nets (upto g.1 [x.From.Nets, x.To.Nets]) g.2.1 :: vec cL y.2.ports (upto g.1 [x.From.Ports, x.To.Ports]) g.2.2 :: vec Zaj u [x] [] :: R) w) (fun g _ => 1 - g.1) (0, [], []) ⟨rfl, by omega, s⟩ ?_
 clear s
 rintro ⟨k, l1, l2⟩ ⟨_, L⟩ w ⟨rfl, hk, s⟩
 simp only at hk s
 show WP (Zbk.L1 u (k : Int) L) w _
 unfold Zbk.L1
 have hu := (s.vec_len (i := 2) rfl).1
 refine WP.ite (fun h => WP.draw' s (fun w s => ?_)) (fun h => ?_)
 ·have hk0 : k = 0 := by
   simp at hu
   omega
  subst hk0
  have hx : [x][((0 : Nat) : Int).toNat]? = some x := rfl
  have h0 : (0 : Int) ≤ ((0 : Nat) : Int) := by decide
  have rd : ∀ {w : World} {A B : HP} {o p : Nat} {y : Sl} {β : Type} {F : Sl → M β} {Q : β → World → Prop}, Ss W (A :: B :: vec Zaj u [x] [] :: R) w → At (Zaj.enc x) (o + p) (cL.enc y) → WP (F y) w Q → WP (idx u.a u.len ((0 : Nat) : Int) 16 >>= fun q => ld cL (Addr.add (Addr.add q o) p) >>= F) w Q :=
   fun s h g => WP.idxr s 2 rfl ZbO h0 hx rfl (fun a ha => WP.ldp s 2 rfl ZbO hx ha (by rw [Zeo, Zeo]) h g)
  refine rd s ((ZdD x).trans (ZbL x.From)) (rd s ((ZdO x).trans (ZbL x.To)) ?_)
  refine WP.slot' s (fun _ w s => WP.appl s 0 rfl (show (0 + 2) * 24 ≤ 140737488355328 by decide) (by decide) (fun q1 w sp1 s => ?_))
  have s : Ss W (vec cL q1 [x.From.Nets, x.To.Nets] sp1 :: vec cL L.ports [] l2 :: vec Zaj u [x] [] :: R) w := s
  refine WP.draw' s (fun w s => ?_)
  refine rd s ((ZdD x).trans (ZbG x.From)) (rd s ((ZdO x).trans (ZbG x.To)) ?_)
  refine WP.slot' s (fun _ w s => WP.appl s 1 rfl (show (0 + 2) * 24 ≤ 140737488355328 by decide) (by decide) (fun q2 w sp2 s => ?_))
  have s : Ss W (vec cL q1 [x.From.Nets, x.To.Nets] sp1 :: vec cL q2 [x.From.Ports, x.To.Ports] sp2 :: vec Zaj u [x] [] :: R) w := s
  exact WP.next ⟨(1, sp1, sp2), ⟨show IntKind.wrap .i64 (((0 : Nat) : Int) + 1) = 1 by decide, Nat.le_refl 1, s⟩, by simp⟩
 ·have hk1 : k = 1 := by
   simp at hu
   omega
  subst hk1
  exact WP.done ⟨l1, l2, s⟩
theorem Zqq {u : Sl} {x : Zaz} {n1 n2 : List Zac} {p1 p2 : List ZaD} {a1 b1 : List Zac} {a2 b2 : List ZaD} (hl : (n1.length ≤ 16 ∧ p1.length ≤ 16) ∧ n2.length ≤ 16 ∧ p2.length ≤ 16)
  (s : Ss W (vec Zaj u [x] [] :: vec cPfx x.To.Nets n2 a1 :: vec cRg x.To.Ports p2 a2 :: vec cPfx x.From.Nets n1 b1 :: vec cRg x.From.Ports p1 b2 :: R) w) : WP (Zaa u) w (fun y w' => y = true ∧ Ss W R w') := by
 unfold Zaa
 refine WP.step (ZrU s) ?_
 clear s
 rintro r w ⟨l1, l2, s⟩
 refine WP.slot' s (fun _ w s => ?_)
 have s := Ss.group (l := [lsH cPfx ⟨x.From.Nets, n1, b1⟩, lsH cPfx ⟨x.To.Nets, n2, a1⟩]) (s.use [5, 3] rfl)
 have s := Ss.group (l := [lsH cRg ⟨x.From.Ports, p1, b2⟩, lsH cRg ⟨x.To.Ports, p2, a2⟩]) (s.use [5, 4] rfl)
 have s := s.use [2, 1, 1, 0] rfl
 refine Zqr (es := [⟨x.From.Nets, n1, b1⟩, ⟨x.To.Nets, n2, a1⟩]) (ps := [⟨x.From.Ports, p1, b2⟩, ⟨x.To.Ports, p2, a2⟩]) rfl rfl ?_ ?_ s
 ·intro j e he
  refine ⟨?_, fun h => absurd h (Nat.not_lt_zero _)⟩
  have := List.mem_of_getElem? he
  simp only [List.mem_cons, List.not_mem_nil, or_false] at this
  rcases this with rfl | rfl
  ·simp only
   omega
  ·simp only
   omega
 ·intro j e he
  refine ⟨?_, fun h => absurd h (Nat.not_lt_zero _)⟩
  have := List.mem_of_getElem? he
  simp only [List.mem_cons, List.not_mem_nil, or_false] at this
  rcases this with rfl | rfl
  ·simp only
   omega
  ·simp only
   omega
theorem Zmz {u : Sl} {xs : List ByteArray} (s : Ss W Hs w) (T : RTab Hs) (i : Nat) (e : nth Hs i = some (rdS cS false u xs)) (hxs : xs.length < 9000000000000000000) : WP (ZaY u) w (fun y w' => y = true ∧ ∃ L, Ss W L w') := by
 unfold ZaY
 have hl := (s.rd_len e ZeY).1
 refine WP.loopG (γ := Nat) (fun k (x : Int) w => x = (k : Int) ∧ k ≤ xs.length ∧ Ss W Hs w) (fun k _ => xs.length - k) 0 ⟨rfl, Nat.zero_le _, s⟩ ?_
 clear s
 rintro k _ w ⟨rfl, hk, s⟩
 show WP (ZaY.L1 u (k : Int)) w _
 unfold ZaY.L1
 refine WP.ite (fun h => ?_) (fun h => WP.step (Zpf s T) (fun y w h => WP.done ⟨h.1, _, h.2⟩))
 have hk2 : k < xs.length := by omega
 have hx := List.getElem?_eq_getElem hk2
 generalize xs[k] = t at hx
 have h0 : (0 : Int) ≤ (k : Int) := by omega
 have hx' : xs[(k : Int).toNat]? = some t := by rw [Int.toNat_natCast]; exact hx
 obtain ⟨hb, h16⟩ := ZrJ (strI t)
 have hs9 : ((outR (ZdI (strI t))).1.From.nets.length ≤ 9000000000000 ∧ (outR (ZdI (strI t))).1.From.ports.length ≤ 9000000000000) ∧ (outR (ZdI (strI t))).1.To.nets.length ≤ 9000000000000 ∧ (outR (ZdI (strI t))).1.To.ports.length ≤ 9000000000000 := by
  obtain ⟨⟨c1, c2⟩, c3, c4⟩ := h16
  omega
 refine WP.rdx s i e ZeY h0 hx' rfl (WP.step (ZkI s T t) ?_)
 clear s
 rintro ⟨r1, f1⟩ w h
 obtain ⟨e1, s⟩ := outP h
 clear h
 obtain ⟨a1, a2, b1, b2, s, d1⟩ := ZnW s hb
 simp only at e1
 refine WP.slot' s (fun _ w s => WP.rdx s (i + 4) e ZeY h0 hx' rfl (WP.step (Zl0 s t) ?_))
 clear s
 rintro ⟨r2, f2⟩ w h
 obtain ⟨e2, s⟩ := outP h
 clear h
 obtain ⟨a3, a4, b3, b4, s, d2⟩ := ZnW s hb
 simp only at e2
 have d1 := d1.push (A := vec cRg r2.From.Ports (outR (ZdI (strI t))).1.From.ports b4) |>.push (A := vec cPfx r2.From.Nets (outR (ZdI (strI t))).1.From.nets b3) |>.push (A := vec cRg r2.To.Ports (outR (ZdI (strI t))).1.To.ports a4) |>.push (A := vec cPfx r2.To.Nets (outR (ZdI (strI t))).1.To.nets a3)
 refine WP.slot' s (fun _ w s => WP.step (ZkO _) ?_)
 rintro _ _ ⟨rfl, rfl⟩
 dsimp only
 rw [e1, e2]
 refine WP.step (R := fun y w' => y = false ∧ w = w') (WP.ite (fun h => absurd rfl h) (fun _ => WP.ret ⟨by simp, rfl⟩)) ?_
 rintro _ _ ⟨rfl, rfl⟩
 refine WP.step (R := fun y w' => y = false ∧ Ss W (vec cPfx r2.To.Nets (outR (ZdI (strI t))).1.To.nets a3 :: vec cRg r2.To.Ports (outR (ZdI (strI t))).1.To.ports a4 :: vec cPfx r2.From.Nets (outR (ZdI (strI t))).1.From.nets b3 :: vec cRg r2.From.Ports (outR (ZdI (strI t))).1.From.ports b4 :: vec cPfx r1.To.Nets (outR (ZdI (strI t))).1.To.nets a1 :: vec cRg r1.To.Ports (outR (ZdI (strI t))).1.To.ports a2 :: vec cPfx r1.From.Nets (outR (ZdI (strI t))).1.From.nets b1 :: vec cRg r1.From.Ports (outR (ZdI (strI t))).1.From.ports b2 :: Hs) w') (WP.ite (fun h => by cases h) (fun _ => WP.step (Zog s d1 d2 hs9) ?_)) ?_
 ·rintro _ w ⟨rfl, s⟩
  exact WP.ret ⟨by simp, s⟩
 clear s
 rintro _ w ⟨rfl, s⟩
 refine WP.ite (fun h => by cases h) (fun _ => WP.newv s (fun bb w s => ?_))
 have s := arr1 (c := Zaj) (x := r1) s
 have s := s.use [0, 4, 4, 4, 4] rfl
 refine WP.step (Zqq h16 s) ?_
 clear s
 rintro _ w ⟨rfl, s⟩
 have T4 : RTab (vec cPfx r2.To.Nets (outR (ZdI (strI t))).1.To.nets a3 :: vec cRg r2.To.Ports (outR (ZdI (strI t))).1.To.ports a4 :: vec cPfx r2.From.Nets (outR (ZdI (strI t))).1.From.nets b3 :: vec cRg r2.From.Ports (outR (ZdI (strI t))).1.From.ports b4 :: Hs) := T.push.push.push.push
 have s : Ss W (vec cPfx r2.To.Nets (outR (ZdI (strI t))).1.To.nets a3 :: vec cRg r2.To.Ports (outR (ZdI (strI t))).1.To.ports a4 :: vec cPfx r2.From.Nets (outR (ZdI (strI t))).1.From.nets b3 :: vec cRg r2.From.Ports (outR (ZdI (strI t))).1.From.ports b4 :: Hs) w := s
 have d2 : RdR (vec cPfx r2.To.Nets (outR (ZdI (strI t))).1.To.nets a3 :: vec cRg r2.To.Ports (outR (ZdI (strI t))).1.To.ports a4 :: vec cPfx r2.From.Nets (outR (ZdI (strI t))).1.From.nets b3 :: vec cRg r2.From.Ports (outR (ZdI (strI t))).1.From.ports b4 :: Hs) r2 (outR (ZdI (strI t))).1 := ⟨d2.sc, ⟨d2.from_.no, hb.1, ⟨2, _, rfl, ZbO⟩, ⟨3, _, rfl, ZbO⟩⟩, ⟨d2.to_.no, hb.2, ⟨0, _, rfl, ZbO⟩, ⟨1, _, rfl, ZbO⟩⟩⟩
 refine WP.ite (fun h => absurd rfl h) (fun _ => WP.rdx s (i + 4) e ZeY h0 hx' rfl (WP.step (ZkI s T4 t) ?_))
 clear s
 rintro ⟨r3, f3⟩ w h
 obtain ⟨e3, s⟩ := outP h
 clear h
 obtain ⟨a5, a6, b5, b6, s, d3⟩ := ZnW s hb
 simp only at e3
 have d2 := d2.push (A := vec cRg r3.From.Ports (outR (ZdI (strI t))).1.From.ports b6) |>.push (A := vec cPfx r3.From.Nets (outR (ZdI (strI t))).1.From.nets b5) |>.push (A := vec cRg r3.To.Ports (outR (ZdI (strI t))).1.To.ports a6) |>.push (A := vec cPfx r3.To.Nets (outR (ZdI (strI t))).1.To.nets a5)
 refine WP.slot' s (fun _ w s => WP.step (ZkO _) ?_)
 rintro _ _ ⟨rfl, rfl⟩
 dsimp only
 rw [e3]
 refine WP.step (R := fun y w' => y = false ∧ w = w') (WP.ite (fun h => absurd rfl h) (fun _ => WP.ret ⟨by simp, rfl⟩)) ?_
 rintro _ _ ⟨rfl, rfl⟩
 refine WP.step (R := fun y w' => y = false ∧ Ss W Hs w') (WP.ite (fun h => by cases h) (fun _ => WP.step (Zog s d3 d2 hs9) ?_)) ?_
 ·rintro _ w ⟨rfl, s⟩
  exact WP.ret ⟨by simp, s.weak (l := [_, _, _, _, _, _, _, _])⟩
 rintro _ w ⟨rfl, s⟩
 refine WP.ite (fun h => by cases h) (fun _ => WP.next ⟨k + 1, ⟨?_, hk2, s⟩, by omega⟩)
 rw [Zak (by omega) (by omega)]
 simp
end
end Go.Proofs.YtmgbjiaognomhaaGreatDoor.Lx
