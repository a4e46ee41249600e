
import Derived.Test.YtpmhinidiplhiaaDoorRulesHead
set_option linter.unusedVariables false
set_option linter.unusedSimpArgs false
namespace Go.Proofs.YtpmhinidiplhiaaDoor.Lx
open Go Go.Proofs Go.RowKit
section
variable {W w : World} {Hs : List HP} {b : Nat} {wl : List Zaw} {e : Int} {m : ZaO} {ws : List Wd} {f : PF}
theorem Zjh (s : Ss W (RrD b f :: Hs) w) : WP (Zav.K1 (some (pt b 0))) w (fun _ w' => Ss W (RrD b f :: Hs) w') := by
 unfold Zav.K1
 refine WP.step (ZmS s) ?_
 rintro _ w ⟨rfl, s⟩
 refine WP.nilck (errD s (fun h => ?_))
 refine WP.step (R := fun y w' => y = true ∧ w = w') (WP.ite (fun _ => WP.ret ⟨rfl, rfl⟩) (fun h' => absurd h h')) ?_
 rintro _ _ ⟨rfl, rfl⟩
 exact WP.ite (fun _ => WP.ret s) (fun h => absurd rfl h)
theorem Zjg (s : Ss W (RrD b f :: Hs) w) : WP (Zav.K2 (some (pt b 0))) w (fun _ w' => Ss W (RrD b f :: Hs) w') := by
 unfold Zav.K2
 refine WP.nilck (ldD (o := 0) s (fun r => r.Act) (fun r => ZbV r) (fun x => ?_))
 refine WP.step (R := fun y w' => y = false ∧ Ss W (RrD b f :: Hs) w') (WP.ite (fun _ => WP.step (ZeD s _) ?_) (fun _ => WP.ret ⟨rfl, s⟩)) ?_
 ·rintro _ w ⟨rfl, s⟩
  exact WP.ret ⟨rfl, s⟩
 rintro _ w ⟨rfl, s⟩
 exact WP.ite (fun h => by cases h) (fun _ => Zjh s)
def ZrS (m : ZaO) (X : PE (Int × List Wd)) (e : Int) : PE (ZaO × List Wd) := match X with
 | .error f => .error f
 | .ok (c, r) => Zo0 { m with Class := c } (ZjK e r)
theorem Zp1 (s : Ss W (RrA b wl e m ws :: Hs) w) (h0 : m.Class = 0 ∧ m.Kind = 0 ∧ m.Proto = 0) (ik : Nat) (ek : nth Hs ik = some (NmP 2 ZgX)) {a : Nat} (ha : m.Act = (a : Int) + 1) :
  WP (Zav.K2 (some (pt b 0))) w (fun _ w' => RulR W Hs b wl e w' (ZrS m (ZfP e a ws) e)) := by
 unfold Zav.K2
 have hm : ({ m with Class := 0 } : ZaO) = m := by
  obtain ⟨h1, -⟩ := h0
  cases m
  simp only at h1
  subst h1
  rfl
 refine WP.nilck (ldA (o := 0) (v := m.Act) s (fun r => r.Act) (fun r => ZbV r) (fun r h => h.1) ?_)
 have k1 : ∀ {w : World} {c : Int} {xs : List Wd}, Ss W (RrA b wl e { m with Class := c } xs :: Hs) w → WP (Zav.K1 (some (pt b 0))) w (fun _ w' => RulR W Hs b wl e w' (Zo0 { m with Class := c } (ZjK e xs))) := fun s => Zp2 s h0.2 ik ek
 by_cases h1 : a = 0
 rotate_left
 ·have hc : ZfP e a ws = .ok (0, ws) := by unfold ZfP; rw [if_neg h1]
  rw [hc]
  refine WP.step (R := fun y w' => y = false ∧ w = w') (WP.ite (fun h => absurd h (by omega)) (fun _ => WP.ret ⟨rfl, rfl⟩)) ?_
  rintro _ _ ⟨rfl, rfl⟩
  exact WP.ite (fun h => by cases h) (fun _ => k1 (c := 0) (hm.symm ▸ s))
 refine WP.step (R := fun y w' => Zts W Hs b wl e m ws y w' (Zdc (tx "class") ws)) (WP.ite (fun _ => WP.step (ZeC s ZqP) (fun y w h => WP.ret h)) (fun h => absurd (by omega) h)) ?_
 intro y w h
 unfold ZfP
 rw [if_pos h1]
 cases ht : Zdc (tx "class") ws with
 | none =>
  rw [ht] at h
  obtain ⟨rfl, s⟩ := h
  exact WP.ite (fun h => by cases h) (fun _ => k1 (c := 0) (hm.symm ▸ s))
 | some xs =>
  rw [ht] at h
  obtain ⟨rfl, s⟩ := h
  refine WP.ite (fun _ => WP.step (ZiB s 0 7) ?_) (fun h => absurd rfl h)
  intro v w h
  show WP _ w (fun _ w' => RulR W Hs b wl e w' (ZrS m (numP e 0 7 xs) e))
  cases hn : numP e 0 7 xs with
  | error f =>
   rw [hn] at h
   exact WP.nilck (setD (o := 1) h (fun r => { r with Class := v }) (fun r => Zfr r v) (fun w s => Zjh s))
  | ok q =>
   rw [hn] at h
   obtain ⟨rfl, s⟩ := h
   exact WP.nilck (setA (o := 1) (m' := { m with Class := q.1 }) s (fun r => { r with Class := q.1 }) (fun r => Zfr r _) (fun r h => ⟨h.1, rfl, h.2.2⟩) (fun r => ⟨rfl, rfl⟩) ⟨rfl, rfl⟩ (fun w s => k1 (c := q.1) s))
theorem Zsp (s : Ss W (RrA b wl e zRl ws :: Hs) w) (ia : Nat) (ea : nth Hs ia = some (NmP 0 actB)) (ik : Nat) (ek : nth Hs ik = some (NmP 2 ZgX)) :
  WP (Zav (some (pt b 0))) w (fun _ w' => RulR W Hs b wl e w' (Zmh e ws)) := by
 unfold Zav
 refine WP.step (Zf4 s) ?_
 intro r w h
 cases ws with
 | nil =>
  obtain ⟨rfl, s1⟩ := h
  refine WP.slot' s1 (fun _ w s => Zgp s (ia + 1) ea (by decide) ?_)
  rw [Zqx]
  have hi : idxI actN (strI ZbM.s) = -1 := by decide +kernel
  rw [hi]
  refine WP.nilck (setD (o := 0) s (fun r => { r with Act := 0 }) (fun r => Zdg r 0) (fun w s => WP.nilck (errD s (fun h => ?_))))
  refine WP.step (R := fun y w' => y = false ∧ w = w') (WP.ite (fun h' => absurd h' h) (fun _ => WP.ret ⟨rfl, rfl⟩)) ?_
  rintro _ _ ⟨rfl, rfl⟩
  exact WP.ite (fun h => by cases h) (fun _ => Zjg s)
 | cons x xs =>
  obtain ⟨hx, s1⟩ := h
  clear s
  have s := s1
  clear s1
  subst hx
  have hr : Zmh e (wdOf r :: xs) = match idxT actN (strI r.s) with
   | none => .error (160, r.at_)
   | some a => match ZfP e a xs with
    | .error f => .error f
    | .ok (c, r) => match ZjK e r with
     | .error f => .error f
     | .ok (k, r) => .ok ({ zRl with Act := (a : Int) + 1, Class := c, Kind := k.1, Proto := k.2 }, r) := rfl
  rw [hr]
  refine WP.slot' s (fun _ w s => Zgp s (ia + 1) ea (by decide) ?_)
  rw [Zqx]
  unfold idxI
  cases hk : idxT actN (strI r.s) with
  | none =>
   refine WP.nilck (setA (o := 0) (m' := zRl) s (fun r => { r with Act := 0 }) (fun r => Zdg r _) (fun r h => ⟨rfl, h.2⟩) (fun r => ⟨rfl, rfl⟩) ⟨rfl, rfl⟩ (fun w s => WP.nilck (errA s ?_)))
   refine WP.step (R := fun y w' => y = true ∧ w = w') (WP.ite (fun _ => WP.nilck (ldA (o := 0) (v := 0) s (fun r => r.Act) (fun r => ZbV r) (fun r h => h.1) (WP.ret ⟨rfl, rfl⟩))) (fun h => absurd rfl h)) ?_
   rintro _ _ ⟨rfl, rfl⟩
   refine WP.ite (fun _ => WP.step (ZcA s (by decide) r.at_) ?_) (fun h => absurd rfl h)
   intro _ w s
   exact Zjg s
  | some a =>
   have ha3 := Zjf hk
   have ha3 : a < 3 := ha3
   have hw : IntKind.wrap .i64 ((a : Int) + 1) = (a : Int) + 1 := Zat (by omega) (by omega)
   simp only
   rw [hw]
   refine WP.nilck (setA (o := 0) (m' := { zRl with Act := (a : Int) + 1 }) s (fun r => { r with Act := (a : Int) + 1 }) (fun r => Zdg r _) (fun r h => ⟨rfl, h.2⟩) (fun r => ⟨rfl, rfl⟩) ⟨rfl, rfl⟩ (fun w s => WP.nilck (errA s ?_)))
   refine WP.step (R := fun y w' => y = false ∧ w = w') (WP.ite (fun _ => WP.nilck (ldA (o := 0) (v := (a : Int) + 1) s (fun r => r.Act) (fun r => ZbV r) (fun r h => h.1) (WP.ret ⟨beq_eq_false_iff_ne.2 (by omega), rfl⟩))) (fun h => absurd rfl h)) ?_
   rintro _ _ ⟨rfl, rfl⟩
   refine WP.ite (fun h => by cases h) (fun _ => (Zp1 s ⟨rfl, rfl, rfl⟩ ik ek rfl).mono ?_)
   intro _ w h
   unfold ZrS at h
   cases hc : ZfP e a xs with
   | error f => rw [hc] at h; exact h
   | ok q =>
    rw [hc] at h
    simp only [Zo0] at h ⊢
    cases hq : ZjK e q.2 with
    | error f => rw [hq] at h; exact h
    | ok q2 => rw [hq] at h; exact h
end
end Go.Proofs.YtpmhinidiplhiaaDoor.Lx
