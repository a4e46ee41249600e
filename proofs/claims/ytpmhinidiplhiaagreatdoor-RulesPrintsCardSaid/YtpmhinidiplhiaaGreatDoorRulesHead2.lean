
import Derived.Test.YtpmhinidiplhiaaGreatDoorRulesHead
set_option linter.unusedVariables false
set_option linter.unusedSimpArgs false
namespace Go.Proofs.YtpmhinidiplhiaaGreatDoor.Lx
open Go Go.Proofs Go.RowKit
section
variable {W w : World} {Hs : List HP} {b : Nat} {wl : List ZaI} {e : Int} {m : Za9} {ws : List Wd} {f : PF}
theorem Zj2 (s : Ss W (RrD b f :: Hs) w) : WP (Zay.K1 (some (pt b 0))) w (fun _ w' => Ss W (RrD b f :: Hs) w') := by
 unfold Zay.K1
 refine WP.step (Znu s) ?_
 rintro _ w ⟨rfl, s⟩
 refine WP.nilck (errD s (fun h => ?_))
 refine WP.step (R := fun y w' => y = true ∧ w = w') (WP.ite (fun _ => WP.ret ⟨rfl, rfl⟩) (fun h' => absurd h h')) ?_
 rintro _ _ ⟨rfl, rfl⟩
 exact WP.ite (fun _ => WP.ret s) (fun h => absurd rfl h)
theorem Zj1 (s : Ss W (RrD b f :: Hs) w) : WP (Zay.K2 (some (pt b 0))) w (fun _ w' => Ss W (RrD b f :: Hs) w') := by
 unfold Zay.K2
 refine WP.nilck (ldD (o := 0) s (fun r => r.Act) (fun r => ZbS r) (fun x => ?_))
 refine WP.step (R := fun y w' => y = false ∧ Ss W (RrD b f :: Hs) w') (WP.ite (fun _ => WP.step (Ze6 s _) ?_) (fun _ => WP.ret ⟨rfl, s⟩)) ?_
 ·rintro _ w ⟨rfl, s⟩
  exact WP.ret ⟨rfl, s⟩
 rintro _ w ⟨rfl, s⟩
 exact WP.ite (fun h => by cases h) (fun _ => Zj2 s)
def Zsl (m : Za9) (X : PE (Int × List Wd)) (e : Int) : PE (Za9 × List Wd) := match X with
 | .error f => .error f
 | .ok (c, r) => Zps { m with Class := c } (Zmb e r)
theorem Zqo (s : Ss W (RrA b wl e m ws :: Hs) w) (h0 : m.Class = 0 ∧ m.Kind = 0 ∧ m.Proto = 0) (ik : Nat) (ek : nth Hs ik = some (NmP 1 ZhE)) {a : Nat} (ha : m.Act = (a : Int) + 1) :
  WP (Zay.K2 (some (pt b 0))) w (fun _ w' => RulR W Hs b wl e w' (Zsl m (Zid e a ws) e)) := by
 unfold Zay.K2
 have hm : ({ m with Class := 0 } : Za9) = m := by
  obtain ⟨h1, -⟩ := h0
  cases m
  simp only at h1
  subst h1
  rfl
 refine WP.nilck (ldA (o := 0) (v := m.Act) s (fun r => r.Act) (fun r => ZbS r) (fun r h => h.1) ?_)
 have k1 : ∀ {w : World} {c : Int} {xs : List Wd}, Ss W (RrA b wl e { m with Class := c } xs :: Hs) w → WP (Zay.K1 (some (pt b 0))) w (fun _ w' => RulR W Hs b wl e w' (Zps { m with Class := c } (Zmb e xs))) := fun s => Zqp s h0.2 ik ek
 by_cases h1 : a = 0
 rotate_left
 ·have hc : Zid e a ws = .ok (0, ws) := by unfold Zid; rw [if_neg h1]
  rw [hc]
  refine WP.step (R := fun y w' => y = false ∧ w = w') (WP.ite (fun h => absurd h (by omega)) (fun _ => WP.ret ⟨rfl, rfl⟩)) ?_
  rintro _ _ ⟨rfl, rfl⟩
  exact WP.ite (fun h => by cases h) (fun _ => k1 (c := 0) (hm.symm ▸ s))
 refine WP.step (R := fun y w' => Zt9 W Hs b wl e m ws y w' (Zd7 (tx "class") ws)) (WP.ite (fun _ => WP.step (Ze5 s Zrg) (fun y w h => WP.ret h)) (fun h => absurd (by omega) h)) ?_
 intro y w h
 unfold Zid
 rw [if_pos h1]
 cases ht : Zd7 (tx "class") ws with
 | none =>
  rw [ht] at h
  obtain ⟨rfl, s⟩ := h
  exact WP.ite (fun h => by cases h) (fun _ => k1 (c := 0) (hm.symm ▸ s))
 | some xs =>
  rw [ht] at h
  obtain ⟨rfl, s⟩ := h
  refine WP.ite (fun _ => WP.step (Zjj s 0 7) ?_) (fun h => absurd rfl h)
  intro v w h
  show WP _ w (fun _ w' => RulR W Hs b wl e w' (Zsl m (numP e 0 7 xs) e))
  cases hn : numP e 0 7 xs with
  | error f =>
   rw [hn] at h
   exact WP.nilck (setD (o := 1) h (fun r => { r with Class := v }) (fun r => ZfV r v) (fun w s => Zj2 s))
  | ok q =>
   rw [hn] at h
   obtain ⟨rfl, s⟩ := h
   exact WP.nilck (setA (o := 1) (m' := { m with Class := q.1 }) s (fun r => { r with Class := q.1 }) (fun r => ZfV r _) (fun r h => ⟨h.1, rfl, h.2.2⟩) (fun r => ⟨rfl, rfl⟩) ⟨rfl, rfl⟩ (fun w s => k1 (c := q.1) s))
theorem Zs3 (s : Ss W (RrA b wl e zRl ws :: Hs) w) (ia : Nat) (ea : nth Hs ia = some (NmP 0 actB)) (ik : Nat) (ek : nth Hs ik = some (NmP 1 ZhE)) :
  WP (Zay (some (pt b 0))) w (fun _ w' => RulR W Hs b wl e w' (Zpd e ws)) := by
 unfold Zay
 refine WP.step (ZgB s) ?_
 intro r w h
 cases ws with
 | nil =>
  obtain ⟨rfl, s1⟩ := h
  refine WP.slot' s1 (fun _ w s => Zg3 s (ia + 1) ea (by decide) ?_)
  rw [ZqW]
  have hi : idxI actN (strI ZcD.s) = -1 := by decide +kernel
  rw [hi]
  refine WP.nilck (setD (o := 0) s (fun r => { r with Act := 0 }) (fun r => ZdZ r 0) (fun w s => WP.nilck (errD s (fun h => ?_))))
  refine WP.step (R := fun y w' => y = false ∧ w = w') (WP.ite (fun h' => absurd h' h) (fun _ => WP.ret ⟨rfl, rfl⟩)) ?_
  rintro _ _ ⟨rfl, rfl⟩
  exact WP.ite (fun h => by cases h) (fun _ => Zj1 s)
 | cons x xs =>
  obtain ⟨hx, s1⟩ := h
  clear s
  have s := s1
  clear s1
  subst hx
  have hr : Zpd e (wdOf r :: xs) = match idxT actN (strI r.s) with
   | none => .error (160, r.at_)
   | some a => match Zid e a xs with
    | .error f => .error f
    | .ok (c, r) => match Zmb e r with
     | .error f => .error f
     | .ok (k, r) => .ok ({ zRl with Act := (a : Int) + 1, Class := c, Kind := k.1, Proto := k.2 }, r) := rfl
  rw [hr]
  refine WP.slot' s (fun _ w s => Zg3 s (ia + 1) ea (by decide) ?_)
  rw [ZqW]
  unfold idxI
  cases hk : idxT actN (strI r.s) with
  | none =>
   refine WP.nilck (setA (o := 0) (m' := zRl) s (fun r => { r with Act := 0 }) (fun r => ZdZ r _) (fun r h => ⟨rfl, h.2⟩) (fun r => ⟨rfl, rfl⟩) ⟨rfl, rfl⟩ (fun w s => WP.nilck (errA s ?_)))
   refine WP.step (R := fun y w' => y = true ∧ w = w') (WP.ite (fun _ => WP.nilck (ldA (o := 0) (v := 0) s (fun r => r.Act) (fun r => ZbS r) (fun r h => h.1) (WP.ret ⟨rfl, rfl⟩))) (fun h => absurd rfl h)) ?_
   rintro _ _ ⟨rfl, rfl⟩
   refine WP.ite (fun _ => WP.step (Zdg s (by decide) r.at_) ?_) (fun h => absurd rfl h)
   intro _ w s
   exact Zj1 s
  | some a =>
   have ha3 := Zj0 hk
   have ha3 : a < 3 := ha3
   have hw : IntKind.wrap .i64 ((a : Int) + 1) = (a : Int) + 1 := Zah (by omega) (by omega)
   simp only
   rw [hw]
   refine WP.nilck (setA (o := 0) (m' := { zRl with Act := (a : Int) + 1 }) s (fun r => { r with Act := (a : Int) + 1 }) (fun r => ZdZ r _) (fun r h => ⟨rfl, h.2⟩) (fun r => ⟨rfl, rfl⟩) ⟨rfl, rfl⟩ (fun w s => WP.nilck (errA s ?_)))
   refine WP.step (R := fun y w' => y = false ∧ w = w') (WP.ite (fun _ => WP.nilck (ldA (o := 0) (v := (a : Int) + 1) s (fun r => r.Act) (fun r => ZbS r) (fun r h => h.1) (WP.ret ⟨beq_eq_false_iff_ne.2 (by omega), rfl⟩))) (fun h => absurd rfl h)) ?_
   rintro _ _ ⟨rfl, rfl⟩
   refine WP.ite (fun h => by cases h) (fun _ => (Zqo s ⟨rfl, rfl, rfl⟩ ik ek rfl).mono ?_)
   intro _ w h
   unfold Zsl at h
   cases hc : Zid e a xs with
   | error f => rw [hc] at h; exact h
   | ok q =>
    rw [hc] at h
    simp only [Zps] at h ⊢
    cases hq : Zmb e q.2 with
    | error f => rw [hq] at h; exact h
    | ok q2 => rw [hq] at h; exact h
end
end Go.Proofs.YtpmhinidiplhiaaGreatDoor.Lx
