
import Derived.Test.YtpmhinidiplhiaaDoorRulesSide3
import Derived.Test.YtpmhinidiplhiaaDoorRulesBits
set_option linter.unusedVariables false
set_option linter.unusedSimpArgs false
namespace Go.Proofs.YtpmhinidiplhiaaDoor.Lx
open Go Go.Proofs Go.RowKit
def Zfl : List ByteArray := Ze6.map bstr
theorem Zrn : Zfl.map strI = Ze6 := by decide +kernel
theorem ZmJ : strI Zis = [33] := by decide +kernel
theorem tx_p : strI Zr1 = [112] := by decide +kernel
def Zng (e s c : Int) : List Wd → PE ((Int × Int) × List Wd)
 | [] => .error (161, e)
 | w :: ws => if w.1 = comma then .error (160, w.2) else match (ZfU w.1).2 with
  | none => .error (160, w.2)
  | some k => if (hasB s k || hasB c k) = true then .error (165, w.2) else .ok ((if (ZfU w.1).1 = true then (s, c + 2 ^ k) else (s + 2 ^ k, c)), ws)
theorem Zfm {e s c : Int} {w : Wd} {ws : List Wd} : Zng e s c (w :: ws) = if w.1 = comma then .error (160, w.2) else match (ZfU w.1).2 with
  | none => .error (160, w.2)
  | some k => if (hasB s k || hasB c k) = true then .error (165, w.2) else .ok ((if (ZfU w.1).1 = true then (s, c + 2 ^ k) else (s + 2 ^ k, c)), ws) := rfl
theorem Znf {e s c : Int} {w : Wd} {ws : List Wd} : Zd4 e s c (w :: ws) = if w.1 = comma then .error (160, w.2) else match (ZfU w.1).2 with
  | none => .error (160, w.2)
  | some k => if (hasB s k || hasB c k) = true then .error (165, w.2) else match ws with
   | [] => .ok ((if (ZfU w.1).1 = true then (s, c + 2 ^ k) else (s + 2 ^ k, c)), [])
   | d :: ws => if d.1 = comma then (if (ZfU w.1).1 = true then Zd4 e s (c + 2 ^ k) ws else Zd4 e (s + 2 ^ k) c ws)
    else .ok ((if (ZfU w.1).1 = true then (s, c + 2 ^ k) else (s + 2 ^ k, c)), d :: ws) := by
 rw [Zd4]
 rfl
theorem ZfG {e s c : Int} {ws : List Wd} : Zd4 e s c ws = match Zng e s c ws with
  | .error f => .error f
  | .ok (p, r) => match Zdc comma r with
   | none => .ok (p, r)
   | some r => Zd4 e p.1 p.2 r := by
 cases ws with
 | nil => rfl
 | cons w ws =>
  rw [Znf, Zfm]
  by_cases h : w.1 = comma
  ·rw [if_pos h, if_pos h]
  ·rw [if_neg h, if_neg h]
   cases (ZfU w.1).2 with
   | none => rfl
   | some k =>
    simp only
    by_cases h2 : (hasB s k || hasB c k) = true
    ·rw [if_pos h2, if_pos h2]
    ·rw [if_neg h2, if_neg h2]
     cases ws with
     | nil => rfl
     | cons d ws =>
      simp only [Zdc]
      by_cases h3 : d.1 = comma
      ·rw [if_pos h3, if_pos h3]
       cases (ZfU w.1).1 <;> rfl
      ·rw [if_neg h3, if_neg h3]
theorem Zml {e s c : Int} {ws r : List Wd} {p : Int × Int} (h : Zng e s c ws = .ok (p, r)) : r.length < ws.length := by
 cases ws with
 | nil => cases h
 | cons w ws =>
  rw [Zfm] at h
  split at h
  ·cases h
  ·split at h
   ·cases h
   ·split at h
    ·cases h
    ·cases h
     simp
section
variable {W w : World} {Hs : List HP}
theorem Zjx (t p : ByteArray) {q : Int} (hp : strI p = [q]) : WP (ZbC t p) w (fun r w' => (if (strI t).head? = some q then r.2 = true ∧ strI r.1 = (strI t).tail else r = (t, false)) ∧ w = w') := by
 have hn : p.size = 1 := by
  rw [← Zbn, hp]
  rfl
 have hl := Zbn t
 have hh : ((strI t).take p.size = strI p) ↔ (strI t).head? = some q := by
  rw [hn, hp]
  cases strI t with
  | nil => simp
  | cons a l => simp
 unfold ZbC ZbO
 refine WP.step (R := fun r w' => (if (strI t).head? = some q then r.2 = true ∧ strI r.1 = (strI t).tail else r = (t, false)) ∧ w = w') ?_ (fun r w h => WP.ret h)
 refine WP.step (R := fun r w' => r = decide ((strI t).head? = some q) ∧ w = w') ?_ ?_
 ·unfold Zbs
  refine WP.step (R := fun r w' => r = decide ((strI t).head? = some q) ∧ w = w') (WP.ite (fun h => WP.chk ⟨by omega, by omega, h⟩ (WP.ret ⟨?_, rfl⟩)) (fun h => WP.ret ⟨?_, rfl⟩)) (fun r w h => WP.ret h)
  ·rw [Bool.eq_iff_iff, beq_iff_eq, decide_eq_true_iff, Zbv, Zcw, ← hh]
   simp
  ·have : strI t = [] := List.length_eq_zero_iff.1 (by omega)
   rw [this]
   rfl
 rintro _ _ ⟨rfl, rfl⟩
 by_cases hq : (strI t).head? = some q
 ·simp only [if_pos hq]
  refine WP.ite (fun h => absurd (decide_eq_true hq) h) (fun _ => WP.chk ⟨by omega, ?_, by omega⟩ (WP.ret ⟨⟨rfl, ?_⟩, rfl⟩))
  ·cases e : strI t with
   | nil => rw [e] at hq; cases hq
   | cons a l =>
    rw [e] at hl
    simp at hl
    omega
  ·simp only
   rw [Zcw, hn]
   simp only [Int.toNat_natCast, show ((1 : Nat) : Int).toNat = 1 from rfl]
   rw [List.take_of_length_le (by rw [List.length_drop]; omega), List.drop_one]
 ·simp only [if_neg hq]
  exact WP.ite (fun _ => WP.ret ⟨rfl, rfl⟩) (fun h => absurd (by simp [hq]) h)
variable {b : Nat} {wl : List Zaw} {e : Int} {m : ZaO} {ws : List Wd} {f : PF}
theorem Zpp (s : Ss W (RrA b wl e m ws :: Hs) w) : WP (Zb4 (some (pt b 0))) w (fun r w' => ResR W Hs b wl e m r w' (ZjP e ws)) := by
 unfold Zb4
 refine WP.step (Zf5 s) ?_
 intro r w h
 have dead : ∀ {w : World} {f : PF}, Ss W (RrD b f :: Hs) w → WP (slot 53 >>= fun b2 => ZbC r.s Zr1 >>= fun r3 => ZaT r3.1 0 7 >>= fun r4 => nilck (some (pt b 0)) >>= fun p5 => ld (cI .i64) (Addr.add p5 19) >>= fun x6 =>
   (if x6 = 0 then (if ¬ (r3.2 = true) then pure true else pure (!r4.2)) >>= fun y7 => pure y7 else pure false) >>= fun y8 => if y8 = true then ZaN (some (pt b 0)) 162 r.at_ >>= fun r10 => pure r4.1 else pure r4.1) w (fun _ w' => Ss W (RrD b f :: Hs) w') := by
  intro w f s
  refine WP.slot' s (fun _ w s => WP.step (Zjx r.s _ tx_p) ?_)
  rintro q _ ⟨-, rfl⟩
  refine WP.step (Zij q.1 0 7) ?_
  rintro x _ ⟨-, -, rfl⟩
  refine WP.nilck (errD s (fun h => ?_))
  refine WP.step (R := fun y w' => y = false ∧ w = w') (WP.ite (fun h' => absurd h' h) (fun _ => WP.ret ⟨rfl, rfl⟩)) ?_
  rintro _ _ ⟨rfl, rfl⟩
  exact WP.ite (fun h => by cases h) (fun _ => WP.ret s)
 cases ws with
 | nil => exact dead h.2
 | cons x xs =>
  obtain ⟨hx, s1⟩ := h
  clear s
  have s := s1
  clear s1
  subst hx
  rw [show ZjP e (wdOf r :: xs) = if (wdOf r).1 = comma then .error (160, (wdOf r).2) else match (if (wdOf r).1.head? = some 112 then numR (wdOf r).1.tail 0 7 else none) with
   | none => .error (162, (wdOf r).2)
   | some n => .ok (n, xs) from rfl]
  by_cases hc : (wdOf r).1 = comma
  ·rw [if_pos hc] at s ⊢
   exact dead s
  rw [if_neg hc] at s ⊢
  have hr : (wdOf r).1 = strI r.s := rfl
  rw [hr]
  refine WP.slot' s (fun _ w s => WP.step (Zjx r.s _ tx_p) ?_)
  rintro q _ ⟨hq, rfl⟩
  refine WP.step (Zij q.1 0 7) ?_
  rintro x _ ⟨a1, a2, rfl⟩
  refine WP.nilck (errA s ?_)
  have bad : ∀ {w : World}, Ss W (RrA b wl e m xs :: Hs) w → WP (ZaN (some (pt b 0)) 162 r.at_ >>= fun _ => pure x.1) w (fun y w' => ResR W Hs b wl e m y w' (.error (162, r.at_))) := by
   intro w s
   refine WP.step (ZcA s (by decide) r.at_) ?_
   intro _ w s
   exact WP.ret s
  by_cases hh : (strI r.s).head? = some 112
  ·rw [if_pos hh] at hq ⊢
   obtain ⟨q1, q2⟩ := hq
   rw [q2] at a1 a2
   refine WP.step (R := fun y w' => y = !x.2 ∧ w = w') (WP.ite (fun _ => WP.step (R := fun y w' => y = !x.2 ∧ w = w') (WP.ite (fun h => absurd q1 h) (fun _ => WP.ret ⟨rfl, rfl⟩)) (fun y w h => WP.ret h)) (fun h => absurd rfl h)) ?_
   rintro _ _ ⟨rfl, rfl⟩
   rw [a1]
   cases hn : numR (strI r.s).tail 0 7 with
   | none => exact WP.ite (fun _ => bad s) (fun h => absurd rfl h)
   | some v => exact WP.ite (fun h => by cases h) (fun _ => WP.ret ⟨a2 v hn, s⟩)
  ·rw [if_neg hh] at hq ⊢
   refine WP.step (R := fun y w' => y = true ∧ w = w') (WP.ite (fun _ => WP.step (R := fun y w' => y = true ∧ w = w') (WP.ite (fun _ => WP.ret ⟨rfl, rfl⟩) (fun h => absurd (by rw [hq]; exact Bool.false_ne_true) h)) (fun y w h => WP.ret h)) (fun h => absurd rfl h)) ?_
   rintro _ _ ⟨rfl, rfl⟩
   exact WP.ite (fun _ => bad s) (fun h => absurd rfl h)
def ZkQ (m : ZaO) (p : Int × Int) : ZaO := { m with Set := p.1, Clear := p.2 }
def ZqH (m : ZaO) (X : PE ((Int × Int) × List Wd)) : PE (ZaO × List Wd) := match X with
 | .error f => .error f
 | .ok (p, r) => .ok (ZkQ m p, r)
def B255 (p : Int × Int) : Prop := (0 ≤ p.1 ∧ p.1 ≤ 255) ∧ (0 ≤ p.2 ∧ p.2 ≤ 255)
theorem Zp7 {s c : Int} {ws r : List Wd} {p : Int × Int} (hb : B255 (s, c)) (h : Zng e s c ws = .ok (p, r)) : B255 p := by
 cases ws with
 | nil => cases h
 | cons w ws =>
  rw [Zfm] at h
  split at h
  ·cases h
  ·split at h
   ·cases h
   ·rename_i k hk
    split at h
    ·cases h
    ·rename_i hn
     have hk8 : k < 8 := by
      unfold ZfU at hk
      split at hk
      ·exact Zjf hk
      ·exact Zjf hk
     have hn1 : hasB s k = false := by
      cases hh : hasB s k with
      | false => rfl
      | true => exact absurd (by simp [hh]) hn
     have hn2 : hasB c k = false := by
      cases hh : hasB c k with
      | false => rfl
      | true => exact absurd (by simp [hh]) hn
     have a1 := Zlq hb.1 hk8 hn1
     have a2 := Zlq hb.2 hk8 hn2
     cases h
     split
     ·exact ⟨hb.1, a2.2⟩
     ·exact ⟨a1.2, hb.2⟩
theorem ZeW (s : Ss W (RrD b f :: Hs) w) : WP (Zaj.K1 (some (pt b 0))) w (fun r w' => r = LS.next false ∧ Ss W (RrD b f :: Hs) w') := by
 unfold Zaj.K1
 refine WP.step (ZeD s _) ?_
 rintro _ w ⟨rfl, s⟩
 exact WP.ret ⟨rfl, s⟩
def FlR (W : World) (Hs : List HP) (b : Nat) (wl : List Zaw) (e : Int) (m : ZaO) (r : LS Bool Unit) (w : World) : PE ((Int × Int) × List Wd) → Prop
 | .error f => r = LS.next false ∧ Ss W (RrD b f :: Hs) w
 | .ok (p, ws) => match Zdc comma ws with
  | none => r = LS.next false ∧ Ss W (RrA b wl e (ZkQ m p) ws :: Hs) w
  | some ws => r = LS.next true ∧ Ss W (RrA b wl e (ZkQ m p) ws :: Hs) w
theorem Zkr {p : Int × Int} (s : Ss W (RrA b wl e (ZkQ m p) ws :: Hs) w) : WP (Zaj.K1 (some (pt b 0))) w (fun r w' => FlR W Hs b wl e m r w' (.ok (p, ws))) := by
 unfold Zaj.K1
 refine WP.step (ZeC s Zgl) ?_
 intro y w h
 refine WP.ret ?_
 cases ht : Zdc comma ws with
 | none =>
  rw [ht] at h
  obtain ⟨rfl, s⟩ := h
  simp only [FlR, ht]
  exact ⟨trivial, s⟩
 | some r =>
  rw [ht] at h
  obtain ⟨rfl, s⟩ := h
  simp only [FlR, ht]
  exact ⟨trivial, s⟩
theorem Zmk {p : Int × Int} (hb : B255 p) (fi : Nat) (ef : nth Hs fi = some (NmP 1 Zfl)) (s : Ss W (RrA b wl e (ZkQ m p) ws :: Hs) w) : WP (Zaj.L1 (some (pt b 0)) true) w (fun r w' => FlR W Hs b wl e m r w' (Zng e p.1 p.2 ws)) := by
 unfold Zaj.L1
 refine WP.step (R := fun y w' => y = true ∧ w = w') (WP.ite (fun _ => WP.nilck (errA s (WP.ret ⟨rfl, rfl⟩))) (fun h => absurd rfl h)) ?_
 rintro _ _ ⟨rfl, rfl⟩
 refine WP.ite (fun _ => WP.step (Zf5 s) ?_) (fun h => absurd rfl h)
 intro r w h
 cases ws with
 | nil =>
  obtain ⟨hz, s⟩ := h
  refine WP.slot' s (fun _ w s => WP.step (Zjx r.s _ ZmJ) ?_)
  rintro q _ ⟨-, rfl⟩
  refine Zgp s (fi + 1) ef (by decide) (WP.nilck (errD s (fun h => WP.ite (fun _ => ZeW s) (fun h' => absurd h h'))))
 | cons x xs =>
  obtain ⟨hx, s1⟩ := h
  clear s
  have s := s1
  clear s1
  subst hx
  rw [Zfm]
  have hr : (wdOf r).1 = strI r.s := rfl
  by_cases hc : (wdOf r).1 = comma
  ·rw [if_pos hc] at s ⊢
   refine WP.slot' s (fun _ w s => WP.step (Zjx r.s _ ZmJ) ?_)
   rintro q _ ⟨-, rfl⟩
   refine Zgp s (fi + 1) ef (by decide) (WP.nilck (errD s (fun h => WP.ite (fun _ => ZeW s) (fun h' => absurd h h'))))
  rw [if_neg hc] at s ⊢
  rw [hr]
  refine WP.slot' s (fun _ w s => WP.step (Zjx r.s _ ZmJ) ?_)
  rintro q _ ⟨hq, rfl⟩
  have hfr : ZfU (strI r.s) = (q.2, idxT Ze6 (strI q.1)) := by
   unfold ZfU
   by_cases hh : (strI r.s).head? = some 33
   ·rw [if_pos hh] at hq ⊢
    rw [hq.1, hq.2]
   ·rw [if_neg hh] at hq ⊢
    rw [hq]
  refine Zgp s (fi + 1) ef (by decide) ?_
  rw [Zrn, hfr]
  unfold idxI
  simp only
  cases hk : idxT Ze6 (strI q.1) with
  | none =>
   refine WP.nilck (errA s (WP.ite (fun h => absurd rfl h) (fun _ => WP.ite (fun _ => WP.step (ZcA s (by decide) r.at_) ?_) (fun h => absurd (by decide) h))))
   intro _ w s
   exact ZeW s
  | some k =>
   have hk8 : k < 8 := Zjf hk
   have hu : (0 : Int) ≤ IntKind.wrap .u64 (k : Int) := by rw [ZeO (by omega) (by omega)]; omega
   dsimp only
   refine WP.nilck (errA s (WP.ite (fun h => absurd rfl h) (fun _ => WP.ite (fun h => absurd h (by omega)) (fun _ => WP.draw' s (fun w s => WP.nilck (ldA (o := 12) (v := p.1) s (fun r => r.Set) (fun r => Zca r) (fun r h => h.2.2.2.2.2.2.1) (WP.nilck (ldA (o := 13) (v := p.2) s (fun r => r.Clear) (fun r => ZbR r) (fun r h => h.2.2.2.2.2.2.2.1) ?_))))))))
   refine WP.chk hu (WP.ite (fun h => ?_) (fun h => ?_))
   ·have h' := (ZrP hb.1 hb.2 hk8).1 h
    rw [if_pos h']
    refine WP.step (ZcA s (by decide) r.at_) ?_
    intro _ w s
    exact ZeW s
   ·have h' : ¬ (hasB p.1 k || hasB p.2 k) = true := fun h' => h ((ZrP hb.1 hb.2 hk8).2 h')
    rw [if_neg h']
    have hn1 : hasB p.1 k = false := by
     cases hh : hasB p.1 k with
     | false => rfl
     | true => exact absurd (by simp [hh]) h'
    have hn2 : hasB p.2 k = false := by
     cases hh : hasB p.2 k with
     | false => rfl
     | true => exact absurd (by simp [hh]) h'
    refine WP.ite (fun h2 => ?_) (fun h2 => ?_)
    ·rw [if_pos h2]
     refine WP.nilck (ldA (o := 13) (v := p.2) s (fun r => r.Clear) (fun r => ZbR r) (fun r h => h.2.2.2.2.2.2.2.1) (WP.chk hu (WP.nilck ?_)))
     rw [(Zlq hb.2 hk8 hn2).1]
     exact setA (o := 13) (m' := ZkQ m (p.1, p.2 + 2 ^ k)) s (fun r => { r with Clear := p.2 + 2 ^ k }) (fun r => Zh6 r _) (fun r h => ⟨h.1, h.2.1, h.2.2.1, h.2.2.2.1, h.2.2.2.2.1, h.2.2.2.2.2.1, h.2.2.2.2.2.2.1, rfl, h.2.2.2.2.2.2.2.2⟩) (fun r => ⟨rfl, rfl⟩) ⟨rfl, rfl⟩ (fun w s => Zkr s)
    ·rw [if_neg h2]
     refine WP.nilck (ldA (o := 12) (v := p.1) s (fun r => r.Set) (fun r => Zca r) (fun r h => h.2.2.2.2.2.2.1) (WP.chk hu (WP.nilck ?_)))
     rw [(Zlq hb.1 hk8 hn1).1]
     exact setA (o := 12) (m' := ZkQ m (p.1 + 2 ^ k, p.2)) s (fun r => { r with Set := p.1 + 2 ^ k }) (fun r => ZjG r _) (fun r h => ⟨h.1, h.2.1, h.2.2.1, h.2.2.2.1, h.2.2.2.2.1, h.2.2.2.2.2.1, rfl, h.2.2.2.2.2.2.2⟩) (fun r => ⟨rfl, rfl⟩) ⟨rfl, rfl⟩ (fun w s => Zkr s)
theorem Zou {p : Int × Int} (hb : B255 p) (fi : Nat) (ef : nth Hs fi = some (NmP 1 Zfl)) (s : Ss W (RrA b wl e (ZkQ m p) ws :: Hs) w) : WP (Zaj (some (pt b 0))) w (fun _ w' => RulR W Hs b wl e w' (ZqH m (Zd4 e p.1 p.2 ws))) := by
 unfold Zaj
 generalize hX : Zd4 e p.1 p.2 ws = X
 refine WP.loopG (γ := PE (Bool × (Int × Int) × List Wd)) (fun g (x : Bool) w => match g with
   | .ok (more, p, ws) => x = more ∧ B255 p ∧ (if more = true then Zd4 e p.1 p.2 ws else .ok (p, ws)) = X ∧ Ss W (RrA b wl e (ZkQ m p) ws :: Hs) w
   | .error f => x = false ∧ X = .error f ∧ Ss W (RrD b f :: Hs) w) (fun g _ => match g with
   | .ok (true, _, ws) => ws.length + 1
   | _ => 0) (.ok (true, p, ws)) ⟨rfl, hb, hX, s⟩ ?_
 clear s hb hX
 rintro g x w h
 show WP (Zaj.L1 (some (pt b 0)) x) w _
 have stop : ∀ {w : World} {Q : LS Bool Unit → World → Prop}, Q (LS.done ()) w → WP (Zaj.L1 (some (pt b 0)) false) w Q := by
  intro w Q h
  unfold Zaj.L1
  refine WP.step (R := fun y w' => y = false ∧ w = w') (WP.ite (fun h => by cases h) (fun _ => WP.ret ⟨rfl, rfl⟩)) ?_
  rintro _ _ ⟨rfl, rfl⟩
  exact WP.ite (fun h => by cases h) (fun _ => WP.ret h)
 cases g with
 | error f =>
  obtain ⟨rfl, hXf, s⟩ := h
  refine stop ?_
  show RulR W Hs b wl e w (ZqH m X)
  rw [hXf]
  exact s
 | ok g =>
  obtain ⟨more, p, ws⟩ := g
  obtain ⟨rfl, hb, hX, s⟩ := h
  cases x with
  | false =>
   refine stop ?_
   show RulR W Hs b wl e w (ZqH m X)
   rw [← hX]
   exact s
  | true =>
   refine (Zmk hb fi ef s).mono ?_
   intro r w h
   simp only [if_true] at hX
   rw [ZfG] at hX
   cases hf : Zng e p.1 p.2 ws with
   | error f =>
    rw [hf] at h hX
    obtain ⟨rfl, s⟩ := h
    exact ⟨.error f, ⟨rfl, hX.symm, s⟩, by simp⟩
   | ok q =>
    obtain ⟨p', r'⟩ := q
    have hlen := Zml hf
    have hb' := Zp7 hb hf
    rw [hf] at h hX
    simp only [FlR] at h hX
    cases ht : Zdc comma r' with
    | none =>
     rw [ht] at h hX
     obtain ⟨rfl, s⟩ := h
     exact ⟨.ok (false, p', r'), ⟨rfl, hb', hX, s⟩, by simp⟩
    | some r2 =>
     rw [ht] at h hX
     obtain ⟨rfl, s⟩ := h
     have := ZdL ht
     exact ⟨.ok (true, p', r2), ⟨rfl, hb', hX, s⟩, by simp only; omega⟩
end
end Go.Proofs.YtpmhinidiplhiaaDoor.Lx
