
import Derived.Test.YtpmhinidiplhiaaGreatDoorRulesSide3
import Derived.Test.YtpmhinidiplhiaaGreatDoorRulesBits
set_option linter.unusedVariables false
set_option linter.unusedSimpArgs false
namespace Go.Proofs.YtpmhinidiplhiaaGreatDoor.Lx
open Go Go.Proofs Go.RowKit
def ZfC : List ByteArray := ZeG.map bstr
theorem ZrK : ZfC.map strI = ZeG := by decide +kernel
theorem Zne : strI Zlp = [33] := by decide +kernel
theorem tx_p : strI Zsv = [112] := by decide +kernel
def Zpf (e s c : Int) : List Wd → PE ((Int × Int) × List Wd)
 | [] => .error (161, e)
 | w :: ws => if w.1 = comma then .error (160, w.2) else match (ZgN w.1).2 with
  | none => .error (160, w.2)
  | some k => if (hasB s k || hasB c k) = true then .error (165, w.2) else .ok ((if (ZgN w.1).1 = true then (s, c + 2 ^ k) else (s + 2 ^ k, c)), ws)
theorem Zg8 {e s c : Int} {w : Wd} {ws : List Wd} : Zpf e s c (w :: ws) = if w.1 = comma then .error (160, w.2) else match (ZgN w.1).2 with
  | none => .error (160, w.2)
  | some k => if (hasB s k || hasB c k) = true then .error (165, w.2) else .ok ((if (ZgN w.1).1 = true then (s, c + 2 ^ k) else (s + 2 ^ k, c)), ws) := rfl
theorem ZnP {e s c : Int} {w : Wd} {ws : List Wd} : Zfs e s c (w :: ws) = if w.1 = comma then .error (160, w.2) else match (ZgN w.1).2 with
  | none => .error (160, w.2)
  | some k => if (hasB s k || hasB c k) = true then .error (165, w.2) else match ws with
   | [] => .ok ((if (ZgN w.1).1 = true then (s, c + 2 ^ k) else (s + 2 ^ k, c)), [])
   | d :: ws => if d.1 = comma then (if (ZgN w.1).1 = true then Zfs e s (c + 2 ^ k) ws else Zfs e (s + 2 ^ k) c ws)
    else .ok ((if (ZgN w.1).1 = true then (s, c + 2 ^ k) else (s + 2 ^ k, c)), d :: ws) := by
 rw [Zfs]
 rfl
theorem Zka {e s c : Int} {ws : List Wd} : Zfs e s c ws = match Zpf e s c ws with
  | .error f => .error f
  | .ok (p, r) => match Zd7 comma r with
   | none => .ok (p, r)
   | some r => Zfs e p.1 p.2 r := by
 cases ws with
 | nil => rfl
 | cons w ws =>
  rw [ZnP, Zg8]
  by_cases h : w.1 = comma
  ·rw [if_pos h, if_pos h]
  ·rw [if_neg h, if_neg h]
   cases (ZgN w.1).2 with
   | none => rfl
   | some k =>
    simp only
    by_cases h2 : (hasB s k || hasB c k) = true
    ·rw [if_pos h2, if_pos h2]
    ·rw [if_neg h2, if_neg h2]
     cases ws with
     | nil => rfl
     | cons d ws =>
      simp only [Zd7]
      by_cases h3 : d.1 = comma
      ·rw [if_pos h3, if_pos h3]
       cases (ZgN w.1).1 <;> rfl
      ·rw [if_neg h3, if_neg h3]
theorem ZmQ {e s c : Int} {ws r : List Wd} {p : Int × Int} (h : Zpf e s c ws = .ok (p, r)) : r.length < ws.length := by
 cases ws with
 | nil => cases h
 | cons w ws =>
  rw [Zg8] at h
  split at h
  ·cases h
  ·split at h
   ·cases h
   ·split at h
    ·cases h
    ·cases h
     simp
section
variable {W w : World} {Hs : List HP}
theorem Zke (t p : ByteArray) {q : Int} (hp : strI p = [q]) : WP (Zb0 t p) w (fun r w' => (if (strI t).head? = some q then r.2 = true ∧ strI r.1 = (strI t).tail else r = (t, false)) ∧ w = w') := by
 have hn : p.size = 1 := by
  rw [← ZbJ, hp]
  rfl
 have hl := ZbJ t
 have hh : ((strI t).take p.size = strI p) ↔ (strI t).head? = some q := by
  rw [hn, hp]
  cases strI t with
  | nil => simp
  | cons a l => simp
 unfold Zb0 Zcj
 refine WP.step (R := fun r w' => (if (strI t).head? = some q then r.2 = true ∧ strI r.1 = (strI t).tail else r = (t, false)) ∧ w = w') ?_ (fun r w h => WP.ret h)
 refine WP.step (R := fun r w' => r = decide ((strI t).head? = some q) ∧ w = w') ?_ ?_
 ·unfold ZbP
  refine WP.step (R := fun r w' => r = decide ((strI t).head? = some q) ∧ w = w') (WP.ite (fun h => WP.chk ⟨by omega, by omega, h⟩ (WP.ret ⟨?_, rfl⟩)) (fun h => WP.ret ⟨?_, rfl⟩)) (fun r w h => WP.ret h)
  ·rw [Bool.eq_iff_iff, beq_iff_eq, decide_eq_true_iff, ZbX, Zdc, ← hh]
   simp
  ·have : strI t = [] := List.length_eq_zero_iff.1 (by omega)
   rw [this]
   rfl
 rintro _ _ ⟨rfl, rfl⟩
 by_cases hq : (strI t).head? = some q
 ·simp only [if_pos hq]
  refine WP.ite (fun h => absurd (decide_eq_true hq) h) (fun _ => WP.chk ⟨by omega, ?_, by omega⟩ (WP.ret ⟨⟨rfl, ?_⟩, rfl⟩))
  ·cases e : strI t with
   | nil => rw [e] at hq; cases hq
   | cons a l =>
    rw [e] at hl
    simp at hl
    omega
  ·simp only
   rw [Zdc, hn]
   simp only [Int.toNat_natCast, show ((1 : Nat) : Int).toNat = 1 from rfl]
   rw [List.take_of_length_le (by rw [List.length_drop]; omega), List.drop_one]
 ·simp only [if_neg hq]
  exact WP.ite (fun _ => WP.ret ⟨rfl, rfl⟩) (fun h => absurd (by simp [hq]) h)
variable {b : Nat} {wl : List ZaI} {e : Int} {m : Za9} {ws : List Wd} {f : PF}
theorem ZpM (s : Ss W (RrA b wl e m ws :: Hs) w) : WP (Zcz (some (pt b 0))) w (fun r w' => ResR W Hs b wl e m r w' (Znz e ws)) := by
 unfold Zcz
 refine WP.step (ZgC s) ?_
 intro r w h
 have dead : ∀ {w : World} {f : PF}, Ss W (RrD b f :: Hs) w → WP (slot 129 >>= fun b2 => Zb0 r.s Zsv >>= fun r3 => Zbc r3.1 0 7 >>= fun r4 => nilck (some (pt b 0)) >>= fun p5 => ld (cI .i64) (Addr.add p5 19) >>= fun x6 =>
   (if x6 = 0 then (if ¬ (r3.2 = true) then pure true else pure (!r4.2)) >>= fun y7 => pure y7 else pure false) >>= fun y8 => if y8 = true then ZaX (some (pt b 0)) 162 r.at_ >>= fun r10 => pure r4.1 else pure r4.1) w (fun _ w' => Ss W (RrD b f :: Hs) w') := by
  intro w f s
  refine WP.slot' s (fun _ w s => WP.step (Zke r.s _ tx_p) ?_)
  rintro q _ ⟨-, rfl⟩
  refine WP.step (Zi0 q.1 0 7) ?_
  rintro x _ ⟨-, -, rfl⟩
  refine WP.nilck (errD s (fun h => ?_))
  refine WP.step (R := fun y w' => y = false ∧ w = w') (WP.ite (fun h' => absurd h' h) (fun _ => WP.ret ⟨rfl, rfl⟩)) ?_
  rintro _ _ ⟨rfl, rfl⟩
  exact WP.ite (fun h => by cases h) (fun _ => WP.ret s)
 cases ws with
 | nil => exact dead h.2
 | cons x xs =>
  obtain ⟨hx, s1⟩ := h
  clear s
  have s := s1
  clear s1
  subst hx
  rw [show Znz e (wdOf r :: xs) = if (wdOf r).1 = comma then .error (160, (wdOf r).2) else match (if (wdOf r).1.head? = some 112 then numR (wdOf r).1.tail 0 7 else none) with
   | none => .error (162, (wdOf r).2)
   | some n => .ok (n, xs) from rfl]
  by_cases hc : (wdOf r).1 = comma
  ·rw [if_pos hc] at s ⊢
   exact dead s
  rw [if_neg hc] at s ⊢
  have hr : (wdOf r).1 = strI r.s := rfl
  rw [hr]
  refine WP.slot' s (fun _ w s => WP.step (Zke r.s _ tx_p) ?_)
  rintro q _ ⟨hq, rfl⟩
  refine WP.step (Zi0 q.1 0 7) ?_
  rintro x _ ⟨a1, a2, rfl⟩
  refine WP.nilck (errA s ?_)
  have bad : ∀ {w : World}, Ss W (RrA b wl e m xs :: Hs) w → WP (ZaX (some (pt b 0)) 162 r.at_ >>= fun _ => pure x.1) w (fun y w' => ResR W Hs b wl e m y w' (.error (162, r.at_))) := by
   intro w s
   refine WP.step (Zdg s (by decide) r.at_) ?_
   intro _ w s
   exact WP.ret s
  by_cases hh : (strI r.s).head? = some 112
  ·rw [if_pos hh] at hq ⊢
   obtain ⟨q1, q2⟩ := hq
   rw [q2] at a1 a2
   refine WP.step (R := fun y w' => y = !x.2 ∧ w = w') (WP.ite (fun _ => WP.step (R := fun y w' => y = !x.2 ∧ w = w') (WP.ite (fun h => absurd q1 h) (fun _ => WP.ret ⟨rfl, rfl⟩)) (fun y w h => WP.ret h)) (fun h => absurd rfl h)) ?_
   rintro _ _ ⟨rfl, rfl⟩
   rw [a1]
   cases hn : numR (strI r.s).tail 0 7 with
   | none => exact WP.ite (fun _ => bad s) (fun h => absurd rfl h)
   | some v => exact WP.ite (fun h => by cases h) (fun _ => WP.ret ⟨a2 v hn, s⟩)
  ·rw [if_neg hh] at hq ⊢
   refine WP.step (R := fun y w' => y = true ∧ w = w') (WP.ite (fun _ => WP.step (R := fun y w' => y = true ∧ w = w') (WP.ite (fun _ => WP.ret ⟨rfl, rfl⟩) (fun h => absurd (by rw [hq]; exact Bool.false_ne_true) h)) (fun y w h => WP.ret h)) (fun h => absurd rfl h)) ?_
   rintro _ _ ⟨rfl, rfl⟩
   exact WP.ite (fun _ => bad s) (fun h => absurd rfl h)
def Zlv (m : Za9) (p : Int × Int) : Za9 := { m with Set := p.1, Clear := p.2 }
def Zq5 (m : Za9) (X : PE ((Int × Int) × List Wd)) : PE (Za9 × List Wd) := match X with
 | .error f => .error f
 | .ok (p, r) => .ok (Zlv m p, r)
def B255 (p : Int × Int) : Prop := (0 ≤ p.1 ∧ p.1 ≤ 255) ∧ (0 ≤ p.2 ∧ p.2 ≤ 255)
theorem Zqv {s c : Int} {ws r : List Wd} {p : Int × Int} (hb : B255 (s, c)) (h : Zpf e s c ws = .ok (p, r)) : B255 p := by
 cases ws with
 | nil => cases h
 | cons w ws =>
  rw [Zg8] at h
  split at h
  ·cases h
  ·split at h
   ·cases h
   ·rename_i k hk
    split at h
    ·cases h
    ·rename_i hn
     have hk8 : k < 8 := by
      unfold ZgN at hk
      split at hk
      ·exact Zj0 hk
      ·exact Zj0 hk
     have hn1 : hasB s k = false := by
      cases hh : hasB s k with
      | false => rfl
      | true => exact absurd (by simp [hh]) hn
     have hn2 : hasB c k = false := by
      cases hh : hasB c k with
      | false => rfl
      | true => exact absurd (by simp [hh]) hn
     have a1 := Zl0 hb.1 hk8 hn1
     have a2 := Zl0 hb.2 hk8 hn2
     cases h
     split
     ·exact ⟨hb.1, a2.2⟩
     ·exact ⟨a1.2, hb.2⟩
theorem Zft (s : Ss W (RrD b f :: Hs) w) : WP (Zaq.K1 (some (pt b 0))) w (fun r w' => r = LS.next false ∧ Ss W (RrD b f :: Hs) w') := by
 unfold Zaq.K1
 refine WP.step (Ze6 s _) ?_
 rintro _ w ⟨rfl, s⟩
 exact WP.ret ⟨rfl, s⟩
def FlR (W : World) (Hs : List HP) (b : Nat) (wl : List ZaI) (e : Int) (m : Za9) (r : LS Bool Unit) (w : World) : PE ((Int × Int) × List Wd) → Prop
 | .error f => r = LS.next false ∧ Ss W (RrD b f :: Hs) w
 | .ok (p, ws) => match Zd7 comma ws with
  | none => r = LS.next false ∧ Ss W (RrA b wl e (Zlv m p) ws :: Hs) w
  | some ws => r = LS.next true ∧ Ss W (RrA b wl e (Zlv m p) ws :: Hs) w
theorem Zk7 {p : Int × Int} (s : Ss W (RrA b wl e (Zlv m p) ws :: Hs) w) : WP (Zaq.K1 (some (pt b 0))) w (fun r w' => FlR W Hs b wl e m r w' (.ok (p, ws))) := by
 unfold Zaq.K1
 refine WP.step (Ze5 s ZgZ) ?_
 intro y w h
 refine WP.ret ?_
 cases ht : Zd7 comma ws with
 | none =>
  rw [ht] at h
  obtain ⟨rfl, s⟩ := h
  simp only [FlR, ht]
  exact ⟨trivial, s⟩
 | some r =>
  rw [ht] at h
  obtain ⟨rfl, s⟩ := h
  simp only [FlR, ht]
  exact ⟨trivial, s⟩
theorem ZmP {p : Int × Int} (hb : B255 p) (fi : Nat) (ef : nth Hs fi = some (NmP 2 ZfC)) (s : Ss W (RrA b wl e (Zlv m p) ws :: Hs) w) : WP (Zaq.L1 (some (pt b 0)) true) w (fun r w' => FlR W Hs b wl e m r w' (Zpf e p.1 p.2 ws)) := by
 unfold Zaq.L1
 refine WP.step (R := fun y w' => y = true ∧ w = w') (WP.ite (fun _ => WP.nilck (errA s (WP.ret ⟨rfl, rfl⟩))) (fun h => absurd rfl h)) ?_
 rintro _ _ ⟨rfl, rfl⟩
 refine WP.ite (fun _ => WP.step (ZgC s) ?_) (fun h => absurd rfl h)
 intro r w h
 cases ws with
 | nil =>
  obtain ⟨hz, s⟩ := h
  refine WP.slot' s (fun _ w s => WP.step (Zke r.s _ Zne) ?_)
  rintro q _ ⟨-, rfl⟩
  refine Zg3 s (fi + 1) ef (by decide) (WP.nilck (errD s (fun h => WP.ite (fun _ => Zft s) (fun h' => absurd h h'))))
 | cons x xs =>
  obtain ⟨hx, s1⟩ := h
  clear s
  have s := s1
  clear s1
  subst hx
  rw [Zg8]
  have hr : (wdOf r).1 = strI r.s := rfl
  by_cases hc : (wdOf r).1 = comma
  ·rw [if_pos hc] at s ⊢
   refine WP.slot' s (fun _ w s => WP.step (Zke r.s _ Zne) ?_)
   rintro q _ ⟨-, rfl⟩
   refine Zg3 s (fi + 1) ef (by decide) (WP.nilck (errD s (fun h => WP.ite (fun _ => Zft s) (fun h' => absurd h h'))))
  rw [if_neg hc] at s ⊢
  rw [hr]
  refine WP.slot' s (fun _ w s => WP.step (Zke r.s _ Zne) ?_)
  rintro q _ ⟨hq, rfl⟩
  have hfr : ZgN (strI r.s) = (q.2, idxT ZeG (strI q.1)) := by
   unfold ZgN
   by_cases hh : (strI r.s).head? = some 33
   ·rw [if_pos hh] at hq ⊢
    rw [hq.1, hq.2]
   ·rw [if_neg hh] at hq ⊢
    rw [hq]
  refine Zg3 s (fi + 1) ef (by decide) ?_
  rw [ZrK, hfr]
  unfold idxI
  simp only
  cases hk : idxT ZeG (strI q.1) with
  | none =>
   refine WP.nilck (errA s (WP.ite (fun h => absurd rfl h) (fun _ => WP.ite (fun _ => WP.step (Zdg s (by decide) r.at_) ?_) (fun h => absurd (by decide) h))))
   intro _ w s
   exact Zft s
  | some k =>
   have hk8 : k < 8 := Zj0 hk
   have hu : (0 : Int) ≤ IntKind.wrap .u64 (k : Int) := by rw [Zfh (by omega) (by omega)]; omega
   dsimp only
   refine WP.nilck (errA s (WP.ite (fun h => absurd rfl h) (fun _ => WP.ite (fun h => absurd h (by omega)) (fun _ => WP.draw' s (fun w s => WP.nilck (ldA (o := 12) (v := p.1) s (fun r => r.Set) (fun r => ZbR r) (fun r h => h.2.2.2.2.2.2.1) (WP.nilck (ldA (o := 13) (v := p.2) s (fun r => r.Clear) (fun r => ZbG r) (fun r h => h.2.2.2.2.2.2.2.1) ?_))))))))
   refine WP.chk hu (WP.ite (fun h => ?_) (fun h => ?_))
   ·have h' := (Zsj hb.1 hb.2 hk8).1 h
    rw [if_pos h']
    refine WP.step (Zdg s (by decide) r.at_) ?_
    intro _ w s
    exact Zft s
   ·have h' : ¬ (hasB p.1 k || hasB p.2 k) = true := fun h' => h ((Zsj hb.1 hb.2 hk8).2 h')
    rw [if_neg h']
    have hn1 : hasB p.1 k = false := by
     cases hh : hasB p.1 k with
     | false => rfl
     | true => exact absurd (by simp [hh]) h'
    have hn2 : hasB p.2 k = false := by
     cases hh : hasB p.2 k with
     | false => rfl
     | true => exact absurd (by simp [hh]) h'
    refine WP.ite (fun h2 => ?_) (fun h2 => ?_)
    ·rw [if_pos h2]
     refine WP.nilck (ldA (o := 13) (v := p.2) s (fun r => r.Clear) (fun r => ZbG r) (fun r h => h.2.2.2.2.2.2.2.1) (WP.chk hu (WP.nilck ?_)))
     rw [(Zl0 hb.2 hk8 hn2).1]
     exact setA (o := 13) (m' := Zlv m (p.1, p.2 + 2 ^ k)) s (fun r => { r with Clear := p.2 + 2 ^ k }) (fun r => ZiO r _) (fun r h => ⟨h.1, h.2.1, h.2.2.1, h.2.2.2.1, h.2.2.2.2.1, h.2.2.2.2.2.1, h.2.2.2.2.2.2.1, rfl, h.2.2.2.2.2.2.2.2⟩) (fun r => ⟨rfl, rfl⟩) ⟨rfl, rfl⟩ (fun w s => Zk7 s)
    ·rw [if_neg h2]
     refine WP.nilck (ldA (o := 12) (v := p.1) s (fun r => r.Set) (fun r => ZbR r) (fun r h => h.2.2.2.2.2.2.1) (WP.chk hu (WP.nilck ?_)))
     rw [(Zl0 hb.1 hk8 hn1).1]
     exact setA (o := 12) (m' := Zlv m (p.1 + 2 ^ k, p.2)) s (fun r => { r with Set := p.1 + 2 ^ k }) (fun r => Zkn r _) (fun r h => ⟨h.1, h.2.1, h.2.2.1, h.2.2.2.1, h.2.2.2.2.1, h.2.2.2.2.2.1, rfl, h.2.2.2.2.2.2.2⟩) (fun r => ⟨rfl, rfl⟩) ⟨rfl, rfl⟩ (fun w s => Zk7 s)
theorem ZoY {p : Int × Int} (hb : B255 p) (fi : Nat) (ef : nth Hs fi = some (NmP 2 ZfC)) (s : Ss W (RrA b wl e (Zlv m p) ws :: Hs) w) : WP (Zaq (some (pt b 0))) w (fun _ w' => RulR W Hs b wl e w' (Zq5 m (Zfs e p.1 p.2 ws))) := by
 unfold Zaq
 generalize hX : Zfs e p.1 p.2 ws = X
 refine WP.loopG (γ := PE (Bool × (Int × Int) × List Wd)) (fun g (x : Bool) w => match g with
   | .ok (more, p, ws) => x = more ∧ B255 p ∧ (if more = true then Zfs e p.1 p.2 ws else .ok (p, ws)) = X ∧ Ss W (RrA b wl e (Zlv m p) ws :: Hs) w
   | .error f => x = false ∧ X = .error f ∧ Ss W (RrD b f :: Hs) w) (fun g _ => match g with
   | .ok (true, _, ws) => ws.length + 1
   | _ => 0) (.ok (true, p, ws)) ⟨rfl, hb, hX, s⟩ ?_
 clear s hb hX
 rintro g x w h
 show WP (Zaq.L1 (some (pt b 0)) x) w _
 have stop : ∀ {w : World} {Q : LS Bool Unit → World → Prop}, Q (LS.done ()) w → WP (Zaq.L1 (some (pt b 0)) false) w Q := by
  intro w Q h
  unfold Zaq.L1
  refine WP.step (R := fun y w' => y = false ∧ w = w') (WP.ite (fun h => by cases h) (fun _ => WP.ret ⟨rfl, rfl⟩)) ?_
  rintro _ _ ⟨rfl, rfl⟩
  exact WP.ite (fun h => by cases h) (fun _ => WP.ret h)
 cases g with
 | error f =>
  obtain ⟨rfl, hXf, s⟩ := h
  refine stop ?_
  show RulR W Hs b wl e w (Zq5 m X)
  rw [hXf]
  exact s
 | ok g =>
  obtain ⟨more, p, ws⟩ := g
  obtain ⟨rfl, hb, hX, s⟩ := h
  cases x with
  | false =>
   refine stop ?_
   show RulR W Hs b wl e w (Zq5 m X)
   rw [← hX]
   exact s
  | true =>
   refine (ZmP hb fi ef s).mono ?_
   intro r w h
   simp only [if_true] at hX
   rw [Zka] at hX
   cases hf : Zpf e p.1 p.2 ws with
   | error f =>
    rw [hf] at h hX
    obtain ⟨rfl, s⟩ := h
    exact ⟨.error f, ⟨rfl, hX.symm, s⟩, by simp⟩
   | ok q =>
    obtain ⟨p', r'⟩ := q
    have hlen := ZmQ hf
    have hb' := Zqv hb hf
    rw [hf] at h hX
    simp only [FlR] at h hX
    cases ht : Zd7 comma r' with
    | none =>
     rw [ht] at h hX
     obtain ⟨rfl, s⟩ := h
     exact ⟨.ok (false, p', r'), ⟨rfl, hb', hX, s⟩, by simp⟩
    | some r2 =>
     rw [ht] at h hX
     obtain ⟨rfl, s⟩ := h
     have := Zep ht
     exact ⟨.ok (true, p', r2), ⟨rfl, hb', hX, s⟩, by simp only; omega⟩
end
end Go.Proofs.YtpmhinidiplhiaaGreatDoor.Lx
