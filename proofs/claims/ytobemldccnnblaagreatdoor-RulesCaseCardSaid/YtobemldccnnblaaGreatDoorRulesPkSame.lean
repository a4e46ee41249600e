/- Plain words, put together. -/
import Derived.Test.YtobemldccnnblaaGreatDoorRulesSide3
import Derived.Test.YtobemldccnnblaaGreatDoorLxSh
import Derived.Test.YtobemldccnnblaaGreatDoorLxQ
set_option linter.unusedVariables false
set_option linter.unusedSimpArgs false
namespace Go.Proofs.YtobemldccnnblaaGreatDoor.Lx
open Go Go.Proofs Go.RowKit
theorem Zkr (a : Nat) : BitVec.ofInt 64 (a : Int) = BitVec.ofNat 64 a := by
 apply BitVec.eq_of_toNat_eq
 simp [BitVec.toNat_ofInt, BitVec.toNat_ofNat]
theorem Ztq {a b : Nat} (ha : a < 256) (hb : b < 256) : bor .i64 (a : Int) (b : Int) = ((a ||| b : Nat) : Int) := by
 have h : a ||| b < 2 ^ 8 := Nat.or_lt_two_pow ha hb
 unfold bor
 rw [show IntKind.i64.bits = 64 from rfl, Zkr, Zkr, BitVec.toNat_or, BitVec.toNat_ofNat, BitVec.toNat_ofNat, Nat.mod_eq_of_lt (by omega), Nat.mod_eq_of_lt (by omega), Zau (by omega) (by omega)]
theorem ZuP {a b : Nat} (ha : a < 256) (hb : b < 256) : band .i64 (a : Int) (b : Int) = ((a &&& b : Nat) : Int) := by
 have h : a &&& b ≤ a := Nat.and_le_left
 unfold band
 rw [show IntKind.i64.bits = 64 from rfl, Zkr, Zkr, BitVec.toNat_and, BitVec.toNat_ofNat, BitVec.toNat_ofNat, Nat.mod_eq_of_lt (by omega), Nat.mod_eq_of_lt (by omega), Zau (by omega) (by omega)]
theorem ZuO : ∀ n : _root_.Fin 256, band .i64 (n.val : Int) 1 = ((n.val % 2 : Nat) : Int) := by decide +kernel
theorem ZgK (a k : Nat) : hasB (a : Int) k = a.testBit k := by
 unfold hasB
 rw [Bool.eq_iff_iff, decide_eq_true_iff, Nat.testBit_eq_decide_div_mod_eq, decide_eq_true_iff]
 have : ((2 : Int) ^ k) = ((2 ^ k : Nat) : Int) := by push_cast; rfl
 rw [this, ← Int.natCast_ediv]
 omega
theorem ZwA {a : Nat} (ha : a < 256) {k : Nat} (hk : k < 8) : (band .i64 (Int.fdiv (a : Int) (2 ^ min (Int.toNat (IntKind.wrap .u64 (k : Int))) 64)) 1 = 1) ↔ hasB (a : Int) k = true := by
 have hw : IntKind.wrap .u64 (k : Int) = (k : Int) := ZlZ (by omega) (by omega)
 rw [hw, Int.toNat_natCast, show min k 64 = k by omega]
 have e : Int.fdiv (a : Int) (2 ^ k) = ((a / 2 ^ k : Nat) : Int) := by
  have : ((2 : Int) ^ k) = ((2 ^ k : Nat) : Int) := by push_cast; rfl
  rw [this, Int.fdiv_eq_ediv_of_nonneg _ (Int.natCast_nonneg _), Int.natCast_ediv]
 have hlt : a / 2 ^ k < 256 := Nat.lt_of_le_of_lt (Nat.div_le_self ..) ha
 have hb := ZuO ⟨a / 2 ^ k, hlt⟩
 simp only at hb
 rw [e, hb, ZgK, Nat.testBit_eq_decide_div_mod_eq, decide_eq_true_iff]
 omega
theorem Zu3 {s c : Int} (hs : 0 ≤ s ∧ s ≤ 255) (hc : 0 ≤ c ∧ c ≤ 255) {k : Nat} (hk : k < 8) : (band .i64 (Int.fdiv (bor .i64 s c) (2 ^ min (Int.toNat (IntKind.wrap .u64 (k : Int))) 64)) 1 = 1) ↔ (hasB s k || hasB c k) = true := by
 obtain ⟨a, rfl⟩ : ∃ a : Nat, s = a := ⟨s.toNat, by omega⟩
 obtain ⟨b, rfl⟩ : ∃ b : Nat, c = b := ⟨c.toNat, by omega⟩
 rw [Ztq (by omega) (by omega), ZwA (Nat.or_lt_two_pow (n := 8) (by omega) (by omega)) hk, ZgK, ZgK, ZgK, Nat.testBit_or]
theorem ZvR : ∀ a : _root_.Fin 256, ∀ k : _root_.Fin 8, hasB (a.val : Int) k.val = false → bor .i64 (a.val : Int) (IntKind.wrap .i64 (1 * 2 ^ min (Int.toNat (IntKind.wrap .u64 (k.val : Int))) 64)) = (a.val : Int) + 2 ^ k.val ∧ (a.val : Int) + 2 ^ k.val ≤ 255 := by decide +kernel
theorem ZoA {s : Int} (hs : 0 ≤ s ∧ s ≤ 255) {k : Nat} (hk : k < 8) (h : hasB s k = false) : bor .i64 s (IntKind.wrap .i64 (1 * 2 ^ min (Int.toNat (IntKind.wrap .u64 (k : Int))) 64)) = s + 2 ^ k ∧ 0 ≤ s + 2 ^ k ∧ s + 2 ^ k ≤ 255 := by
 obtain ⟨a, rfl⟩ : ∃ a : Nat, s = a := ⟨s.toNat, by omega⟩
 obtain ⟨h1, h2⟩ := ZvR ⟨a, by omega⟩ ⟨k, hk⟩ h
 simp only at h1 h2
 have : (0 : Int) < 2 ^ k := Int.pow_pos (by omega)
 exact ⟨h1, by omega, h2⟩
theorem ZuL {s c : Int} (hs : 0 ≤ s ∧ s ≤ 255) (hc : 0 ≤ c ∧ c ≤ 255) : bor .i64 s c ≠ 0 ↔ (s ≠ 0 ∨ c ≠ 0) := by
 obtain ⟨a, rfl⟩ : ∃ a : Nat, s = a := ⟨s.toNat, by omega⟩
 obtain ⟨b, rfl⟩ : ∃ b : Nat, c = b := ⟨c.toNat, by omega⟩
 rw [Ztq (by omega) (by omega)]
 have : a ||| b = 0 ↔ a = 0 ∧ b = 0 := Nat.or_eq_zero_iff
 omega
theorem ZrM {s c : Int} (hs : 0 ≤ s ∧ s ≤ 255) (hc : 0 ≤ c ∧ c ≤ 255) : band .i64 s c = 0 ↔ ZqB s c = false := by
 obtain ⟨a, rfl⟩ : ∃ a : Nat, s = a := ⟨s.toNat, by omega⟩
 obtain ⟨b, rfl⟩ : ∃ b : Nat, c = b := ⟨c.toNat, by omega⟩
 rw [ZuP (by omega) (by omega)]
 unfold ZqB
 rw [List.any_eq_false]
 constructor
 ·intro h k _
  have h0 : a &&& b = 0 := by omega
  rw [ZgK, ZgK, ← Nat.testBit_and, h0]
  simp
 ·intro h
  have : a &&& b = 0 := by
   refine Nat.eq_of_testBit_eq fun k => ?_
   rw [Nat.zero_testBit]
   by_cases hk : k < 8
   ·have := h k (List.mem_range.2 hk)
    rw [ZgK, ZgK, ← Nat.testBit_and] at this
    simpa using this
   ·have hle : a &&& b ≤ a := Nat.and_le_left
    refine Nat.testBit_lt_two_pow (Nat.lt_of_lt_of_le (show a &&& b < 2 ^ 8 by omega) (Nat.pow_le_pow_right (by omega) (by omega)))
  rw [this]
  rfl
def Zju : List ByteArray := ZrE.map bstr
theorem Zuv : Zju.map strI = ZrE := by decide +kernel
theorem ZpK : strI Zv8 = [33] := by decide +kernel
theorem tx_p : strI str9 = [112] := by decide +kernel
def ZrF (e s c : Int) : List Wd → PE ((Int × Int) × List Wd)
 | [] => .error (161, e)
 | w :: ws => if w.1 = ZdI then .error (160, w.2) else match (ZiT w.1).2 with
  | none => .error (160, w.2)
  | some k => if (hasB s k || hasB c k) = true then .error (165, w.2) else .ok ((if (ZiT w.1).1 = true then (s, c + 2 ^ k) else (s + 2 ^ k, c)), ws)
theorem Zjg {e s c : Int} {w : Wd} {ws : List Wd} : ZrF e s c (w :: ws) = if w.1 = ZdI then .error (160, w.2) else match (ZiT w.1).2 with
  | none => .error (160, w.2)
  | some k => if (hasB s k || hasB c k) = true then .error (165, w.2) else .ok ((if (ZiT w.1).1 = true then (s, c + 2 ^ k) else (s + 2 ^ k, c)), ws) := rfl
theorem Zqh {e s c : Int} {w : Wd} {ws : List Wd} : Zhi e s c (w :: ws) = if w.1 = ZdI then .error (160, w.2) else match (ZiT w.1).2 with
  | none => .error (160, w.2)
  | some k => if (hasB s k || hasB c k) = true then .error (165, w.2) else match ws with
   | [] => .ok ((if (ZiT w.1).1 = true then (s, c + 2 ^ k) else (s + 2 ^ k, c)), [])
   | d :: ws => if d.1 = ZdI then (if (ZiT w.1).1 = true then Zhi e s (c + 2 ^ k) ws else Zhi e (s + 2 ^ k) c ws)
    else .ok ((if (ZiT w.1).1 = true then (s, c + 2 ^ k) else (s + 2 ^ k, c)), d :: ws) := by
 rw [Zhi]
 try rfl
theorem ZmU {e s c : Int} {ws : List Wd} : Zhi e s c ws = match ZrF e s c ws with
  | .error f => .error f
  | .ok (p, r) => match Zfx ZdI r with
   | none => .ok (p, r)
   | some r => Zhi e p.1 p.2 r := by
 cases ws with
 | nil => rfl
 | cons w ws =>
  rw [Zqh, Zjg]
  by_cases h : w.1 = ZdI
  ·rw [if_pos h, if_pos h]
  ·rw [if_neg h, if_neg h]
   cases (ZiT w.1).2 with
   | none => rfl
   | some k =>
    simp only
    by_cases h2 : (hasB s k || hasB c k) = true
    ·rw [if_pos h2, if_pos h2]
    ·rw [if_neg h2, if_neg h2]
     cases ws with
     | nil => rfl
     | cons d ws =>
      simp only [Zfx]
      by_cases h3 : d.1 = ZdI
      ·rw [if_pos h3, if_pos h3]
       cases (ZiT w.1).1 <;> rfl
      ·rw [if_neg h3, if_neg h3]
theorem Zpn {e s c : Int} {ws r : List Wd} {p : Int × Int} (h : ZrF e s c ws = .ok (p, r)) : r.length < ws.length := by
 cases ws with
 | nil => cases h
 | cons w ws =>
  rw [Zjg] at h
  split at h
  ·cases h
  ·split at h
   ·cases h
   ·split at h
    ·cases h
    ·cases h
     simp
section
variable {W w : World} {Hs : List HP}
theorem ZmX (t p : ByteArray) {q : Int} (hp : strI p = [q]) : WP (Zcv t p) w (fun r w' => (if (strI t).head? = some q then r.2 = true ∧ strI r.1 = (strI t).tail else r = (t, false)) ∧ w = w') := by
 have hn : p.size = 1 := by
  rw [← Zb4, hp]
  rfl
 have hl := Zb4 t
 have hh : ((strI t).take p.size = strI p) ↔ (strI t).head? = some q := by
  rw [hn, hp]
  cases strI t with
  | nil => simp
  | cons a l => simp
 unfold Zcv ZcS
 refine WP.step (R := fun r w' => (if (strI t).head? = some q then r.2 = true ∧ strI r.1 = (strI t).tail else r = (t, false)) ∧ w = w') ?_ (fun r w h => WP.ret h)
 refine WP.step (R := fun r w' => r = decide ((strI t).head? = some q) ∧ w = w') ?_ ?_
 ·unfold Zca
  refine WP.step (R := fun r w' => r = decide ((strI t).head? = some q) ∧ w = w') (WP.ite (fun h => WP.chk ⟨by omega, by omega, h⟩ (WP.ret ⟨?_, rfl⟩)) (fun h => WP.ret ⟨?_, rfl⟩)) (fun r w h => WP.ret h)
  ·rw [Bool.eq_iff_iff, beq_iff_eq, decide_eq_true_iff, Zcw, Zd4, ← hh]
   simp
  ·have : strI t = [] := List.length_eq_zero_iff.1 (by omega)
   rw [this]
   rfl
 rintro _ _ ⟨rfl, rfl⟩
 by_cases hq : (strI t).head? = some q
 ·simp only [if_pos hq]
  refine WP.ite (fun h => absurd (decide_eq_true hq) h) (fun _ => WP.chk ⟨by omega, ?_, by omega⟩ (WP.ret ⟨⟨rfl, ?_⟩, rfl⟩))
  ·cases e : strI t with
   | nil => rw [e] at hq; cases hq
   | cons a l =>
    rw [e] at hl
    simp at hl
    omega
  ·simp only
   rw [Zd4, hn]
   simp only [Int.toNat_natCast, show ((1 : Nat) : Int).toNat = 1 from rfl]
   rw [List.take_of_length_le (by rw [List.length_drop]; omega), List.drop_one]
 ·simp only [if_neg hq]
  exact WP.ite (fun _ => WP.ret ⟨rfl, rfl⟩) (fun h => absurd (by simp [hq]) h)
variable {b : Nat} {wl : List ZaD} {e : Int} {m : Zbf} {ws : List Wd} {f : PF}
theorem Zsl (s : Ss W (RrA b wl e m ws :: Hs) w) : WP (Zdh (some (pt b 0))) w (fun r w' => ResR W Hs b wl e m r w' (Zp0 e ws)) := by
 unfold Zdh
 refine WP.step (ZiL s) ?_
 intro r w h
 have dead : ∀ {w : World} {f : PF}, Ss W (RrD b f :: Hs) w → WP (slot 122 >>= fun b2 => Zcv r.s str9 >>= fun r3 => Zbj r3.1 0 7 >>= fun r4 => nilck (some (pt b 0)) >>= fun p5 => ld (cI .i64) (Addr.add p5 19) >>= fun x6 =>
   (if x6 = 0 then (if ¬ (r3.2 = true) then pure true else pure (!r4.2)) >>= fun y7 => pure y7 else pure false) >>= fun y8 => if y8 = true then ZaS (some (pt b 0)) 162 r.at_ >>= fun r10 => pure r4.1 else pure r4.1) w (fun _ w' => Ss W (RrD b f :: Hs) w') := by
  intro w f s
  refine WP.slot' s (fun _ w s => WP.step (ZmX r.s _ tx_p) ?_)
  rintro q _ ⟨-, rfl⟩
  refine WP.step (Zlz q.1 0 7) ?_
  rintro x _ ⟨-, -, rfl⟩
  refine WP.nilck (errD s (fun h => ?_))
  refine WP.step (R := fun y w' => y = false ∧ w = w') (WP.ite (fun h' => absurd h' h) (fun _ => WP.ret ⟨rfl, rfl⟩)) ?_
  rintro _ _ ⟨rfl, rfl⟩
  exact WP.ite (fun h => by cases h) (fun _ => WP.ret s)
 cases ws with
 | nil => exact dead h.2
 | cons x xs =>
  obtain ⟨hx, s1⟩ := h
  clear s
  have s := s1
  clear s1
  subst hx
  rw [show Zp0 e (wdOf r :: xs) = if (wdOf r).1 = ZdI then .error (160, (wdOf r).2) else match (if (wdOf r).1.head? = some 112 then numR (wdOf r).1.tail 0 7 else none) with
   | none => .error (162, (wdOf r).2)
   | some n => .ok (n, xs) from rfl]
  by_cases hc : (wdOf r).1 = ZdI
  ·rw [if_pos hc] at s ⊢
   exact dead s
  rw [if_neg hc] at s ⊢
  have hr : (wdOf r).1 = strI r.s := rfl
  rw [hr]
  refine WP.slot' s (fun _ w s => WP.step (ZmX r.s _ tx_p) ?_)
  rintro q _ ⟨hq, rfl⟩
  refine WP.step (Zlz q.1 0 7) ?_
  rintro x _ ⟨a1, a2, rfl⟩
  refine WP.nilck (errA s ?_)
  have bad : ∀ {w : World}, Ss W (RrA b wl e m xs :: Hs) w → WP (ZaS (some (pt b 0)) 162 r.at_ >>= fun _ => pure x.1) w (fun y w' => ResR W Hs b wl e m y w' (.error (162, r.at_))) := by
   intro w s
   refine WP.step (Zd9 s (by decide) r.at_) ?_
   intro _ w s
   exact WP.ret s
  by_cases hh : (strI r.s).head? = some 112
  ·rw [if_pos hh] at hq ⊢
   obtain ⟨q1, q2⟩ := hq
   rw [q2] at a1 a2
   refine WP.step (R := fun y w' => y = !x.2 ∧ w = w') (WP.ite (fun _ => WP.step (R := fun y w' => y = !x.2 ∧ w = w') (WP.ite (fun h => absurd q1 h) (fun _ => WP.ret ⟨rfl, rfl⟩)) (fun y w h => WP.ret h)) (fun h => absurd rfl h)) ?_
   rintro _ _ ⟨rfl, rfl⟩
   rw [a1]
   cases hn : numR (strI r.s).tail 0 7 with
   | none => exact WP.ite (fun _ => bad s) (fun h => absurd rfl h)
   | some v => exact WP.ite (fun h => by cases h) (fun _ => WP.ret ⟨a2 v hn, s⟩)
  ·rw [if_neg hh] at hq ⊢
   refine WP.step (R := fun y w' => y = true ∧ w = w') (WP.ite (fun _ => WP.step (R := fun y w' => y = true ∧ w = w') (WP.ite (fun _ => WP.ret ⟨rfl, rfl⟩) (fun h => absurd (by rw [hq]; exact Bool.false_ne_true) h)) (fun y w h => WP.ret h)) (fun h => absurd rfl h)) ?_
   rintro _ _ ⟨rfl, rfl⟩
   exact WP.ite (fun _ => bad s) (fun h => absurd rfl h)
def Zod (m : Zbf) (p : Int × Int) : Zbf := { m with Set := p.1, Clear := p.2 }
def ZtG (m : Zbf) (X : PE ((Int × Int) × List Wd)) : PE (Zbf × List Wd) := match X with
 | .error f => .error f
 | .ok (p, r) => .ok (Zod m p, r)
def B255 (p : Int × Int) : Prop := (0 ≤ p.1 ∧ p.1 ≤ 255) ∧ (0 ≤ p.2 ∧ p.2 ≤ 255)
theorem Zs9 {s c : Int} {ws r : List Wd} {p : Int × Int} (hb : B255 (s, c)) (h : ZrF e s c ws = .ok (p, r)) : B255 p := by
 cases ws with
 | nil => cases h
 | cons w ws =>
  rw [Zjg] at h
  split at h
  ·cases h
  ·split at h
   ·cases h
   ·rename_i k hk
    split at h
    ·cases h
    ·rename_i hn
     have hk8 : k < 8 := by
      unfold ZiT at hk
      split at hk
      ·exact ZmJ hk
      ·exact ZmJ hk
     have hn1 : hasB s k = false := by
      cases hh : hasB s k with
      | false => rfl
      | true => exact absurd (by simp [hh]) hn
     have hn2 : hasB c k = false := by
      cases hh : hasB c k with
      | false => rfl
      | true => exact absurd (by simp [hh]) hn
     have a1 := ZoA hb.1 hk8 hn1
     have a2 := ZoA hb.2 hk8 hn2
     cases h
     split
     ·exact ⟨hb.1, a2.2⟩
     ·exact ⟨a1.2, hb.2⟩
theorem Zhj (s : Ss W (RrD b f :: Hs) w) : WP (Zan.K1 (some (pt b 0))) w (fun r w' => r = LS.next false ∧ Ss W (RrD b f :: Hs) w') := by
 unfold Zan.K1
 refine WP.step (ZgV s _) ?_
 rintro _ w ⟨rfl, s⟩
 exact WP.ret ⟨rfl, s⟩
def FlR (W : World) (Hs : List HP) (b : Nat) (wl : List ZaD) (e : Int) (m : Zbf) (r : LS Bool Unit) (w : World) : PE ((Int × Int) × List Wd) → Prop
 | .error f => r = LS.next false ∧ Ss W (RrD b f :: Hs) w
 | .ok (p, ws) => match Zfx ZdI ws with
  | none => r = LS.next false ∧ Ss W (RrA b wl e (Zod m p) ws :: Hs) w
  | some ws => r = LS.next true ∧ Ss W (RrA b wl e (Zod m p) ws :: Hs) w
theorem ZnY {p : Int × Int} (s : Ss W (RrA b wl e (Zod m p) ws :: Hs) w) : WP (Zan.K1 (some (pt b 0))) w (fun r w' => FlR W Hs b wl e m r w' (.ok (p, ws))) := by
 unfold Zan.K1
 refine WP.step (ZgU s Zja) ?_
 intro y w h
 refine WP.ret ?_
 cases ht : Zfx ZdI ws with
 | none =>
  rw [ht] at h
  obtain ⟨rfl, s⟩ := h
  simp only [FlR, ht]
  exact ⟨trivial, s⟩
 | some r =>
  rw [ht] at h
  obtain ⟨rfl, s⟩ := h
  simp only [FlR, ht]
  exact ⟨trivial, s⟩
theorem Zpm {p : Int × Int} (hb : B255 p) (fi : Nat) (ef : nth Hs fi = some (NmP 2 Zju)) (s : Ss W (RrA b wl e (Zod m p) ws :: Hs) w) : WP (Zan.L1 (some (pt b 0)) true) w (fun r w' => FlR W Hs b wl e m r w' (ZrF e p.1 p.2 ws)) := by
 unfold Zan.L1
 refine WP.step (R := fun y w' => y = true ∧ w = w') (WP.ite (fun _ => WP.nilck (errA s (WP.ret ⟨rfl, rfl⟩))) (fun h => absurd rfl h)) ?_
 rintro _ _ ⟨rfl, rfl⟩
 refine WP.ite (fun _ => WP.step (ZiL s) ?_) (fun h => absurd rfl h)
 intro r w h
 cases ws with
 | nil =>
  obtain ⟨hz, s⟩ := h
  refine WP.slot' s (fun _ w s => WP.step (ZmX r.s _ ZpK) ?_)
  rintro q _ ⟨-, rfl⟩
  refine Zjd s (fi + 1) ef (by decide) (WP.nilck (errD s (fun h => WP.ite (fun _ => Zhj s) (fun h' => absurd h h'))))
 | cons x xs =>
  obtain ⟨hx, s1⟩ := h
  clear s
  have s := s1
  clear s1
  subst hx
  rw [Zjg]
  have hr : (wdOf r).1 = strI r.s := rfl
  by_cases hc : (wdOf r).1 = ZdI
  ·rw [if_pos hc] at s ⊢
   refine WP.slot' s (fun _ w s => WP.step (ZmX r.s _ ZpK) ?_)
   rintro q _ ⟨-, rfl⟩
   refine Zjd s (fi + 1) ef (by decide) (WP.nilck (errD s (fun h => WP.ite (fun _ => Zhj s) (fun h' => absurd h h'))))
  rw [if_neg hc] at s ⊢
  rw [hr]
  refine WP.slot' s (fun _ w s => WP.step (ZmX r.s _ ZpK) ?_)
  rintro q _ ⟨hq, rfl⟩
  have hfr : ZiT (strI r.s) = (q.2, idxT ZrE (strI q.1)) := by
   unfold ZiT
   by_cases hh : (strI r.s).head? = some 33
   ·rw [if_pos hh] at hq ⊢
    rw [hq.1, hq.2]
   ·rw [if_neg hh] at hq ⊢
    rw [hq]
  refine Zjd s (fi + 1) ef (by decide) ?_
  rw [Zuv, hfr]
  unfold idxI
  simp only
  cases hk : idxT ZrE (strI q.1) with
  | none =>
   refine WP.nilck (errA s (WP.ite (fun h => absurd rfl h) (fun _ => WP.ite (fun _ => WP.step (Zd9 s (by decide) r.at_) ?_) (fun h => absurd (by decide) h))))
   intro _ w s
   exact Zhj s
  | some k =>
   have hk8 : k < 8 := ZmJ hk
   have hu : (0 : Int) ≤ IntKind.wrap .u64 (k : Int) := by rw [ZlZ (by omega) (by omega)]; omega
   dsimp only
   refine WP.nilck (errA s (WP.ite (fun h => absurd rfl h) (fun _ => WP.ite (fun h => absurd h (by omega)) (fun _ => WP.draw' s (fun w s => WP.nilck (ldA (o := 12) (v := p.1) s (fun r => r.Set) (fun r => Zce r) (fun r h => h.2.2.2.2.2.2.1) (WP.nilck (ldA (o := 13) (v := p.2) s (fun r => r.Clear) (fun r => ZbY r) (fun r h => h.2.2.2.2.2.2.2.1) ?_))))))))
   refine WP.chk hu (WP.ite (fun h => ?_) (fun h => ?_))
   ·have h' := (Zu3 hb.1 hb.2 hk8).1 h
    rw [if_pos h']
    refine WP.step (Zd9 s (by decide) r.at_) ?_
    intro _ w s
    exact Zhj s
   ·have h' : ¬ (hasB p.1 k || hasB p.2 k) = true := fun h' => h ((Zu3 hb.1 hb.2 hk8).2 h')
    rw [if_neg h']
    have hn1 : hasB p.1 k = false := by
     cases hh : hasB p.1 k with
     | false => rfl
     | true => exact absurd (by simp [hh]) h'
    have hn2 : hasB p.2 k = false := by
     cases hh : hasB p.2 k with
     | false => rfl
     | true => exact absurd (by simp [hh]) h'
    refine WP.ite (fun h2 => ?_) (fun h2 => ?_)
    ·rw [if_pos h2]
     refine WP.nilck (ldA (o := 13) (v := p.2) s (fun r => r.Clear) (fun r => ZbY r) (fun r h => h.2.2.2.2.2.2.2.1) (WP.chk hu (WP.nilck ?_)))
     rw [(ZoA hb.2 hk8 hn2).1]
     exact setA (o := 13) (m' := Zod m (p.1, p.2 + 2 ^ k)) s (fun r => { r with Clear := p.2 + 2 ^ k }) (fun r => Zlh r _) (fun r h => ⟨h.1, h.2.1, h.2.2.1, h.2.2.2.1, h.2.2.2.2.1, h.2.2.2.2.2.1, h.2.2.2.2.2.2.1, rfl, h.2.2.2.2.2.2.2.2⟩) (fun r => ⟨rfl, rfl⟩) ⟨rfl, rfl⟩ (fun w s => ZnY s)
    ·rw [if_neg h2]
     refine WP.nilck (ldA (o := 12) (v := p.1) s (fun r => r.Set) (fun r => Zce r) (fun r h => h.2.2.2.2.2.2.1) (WP.chk hu (WP.nilck ?_)))
     rw [(ZoA hb.1 hk8 hn1).1]
     exact setA (o := 12) (m' := Zod m (p.1 + 2 ^ k, p.2)) s (fun r => { r with Set := p.1 + 2 ^ k }) (fun r => Zna r _) (fun r h => ⟨h.1, h.2.1, h.2.2.1, h.2.2.2.1, h.2.2.2.2.1, h.2.2.2.2.2.1, rfl, h.2.2.2.2.2.2.2⟩) (fun r => ⟨rfl, rfl⟩) ⟨rfl, rfl⟩ (fun w s => ZnY s)
theorem Zrp {p : Int × Int} (hb : B255 p) (fi : Nat) (ef : nth Hs fi = some (NmP 2 Zju)) (s : Ss W (RrA b wl e (Zod m p) ws :: Hs) w) : WP (Zan (some (pt b 0))) w (fun _ w' => RulR W Hs b wl e w' (ZtG m (Zhi e p.1 p.2 ws))) := by
 unfold Zan
 generalize hX : Zhi e p.1 p.2 ws = X
 refine WP.loopG (γ := PE (Bool × (Int × Int) × List Wd)) (fun g (x : Bool) w => match g with
   | .ok (more, p, ws) => x = more ∧ B255 p ∧ (if more = true then Zhi e p.1 p.2 ws else .ok (p, ws)) = X ∧ Ss W (RrA b wl e (Zod m p) ws :: Hs) w
   | .error f => x = false ∧ X = .error f ∧ Ss W (RrD b f :: Hs) w) (fun g _ => match g with
   | .ok (true, _, ws) => ws.length + 1
   | _ => 0) (.ok (true, p, ws)) ⟨rfl, hb, hX, s⟩ ?_
 clear s hb hX
 rintro g x w h
 show WP (Zan.L1 (some (pt b 0)) x) w _
 have stop : ∀ {w : World} {Q : LS Bool Unit → World → Prop}, Q (LS.done ()) w → WP (Zan.L1 (some (pt b 0)) false) w Q := by
  intro w Q h
  unfold Zan.L1
  refine WP.step (R := fun y w' => y = false ∧ w = w') (WP.ite (fun h => by cases h) (fun _ => WP.ret ⟨rfl, rfl⟩)) ?_
  rintro _ _ ⟨rfl, rfl⟩
  exact WP.ite (fun h => by cases h) (fun _ => WP.ret h)
 cases g with
 | error f =>
  obtain ⟨rfl, hXf, s⟩ := h
  refine stop ?_
  show RulR W Hs b wl e w (ZtG m X)
  rw [hXf]
  exact s
 | ok g =>
  obtain ⟨more, p, ws⟩ := g
  obtain ⟨rfl, hb, hX, s⟩ := h
  cases x with
  | false =>
   refine stop ?_
   show RulR W Hs b wl e w (ZtG m X)
   rw [← hX]
   exact s
  | true =>
   refine (Zpm hb fi ef s).mono ?_
   intro r w h
   simp only [if_true] at hX
   rw [ZmU] at hX
   cases hf : ZrF e p.1 p.2 ws with
   | error f =>
    rw [hf] at h hX
    obtain ⟨rfl, s⟩ := h
    exact ⟨.error f, ⟨rfl, hX.symm, s⟩, by simp⟩
   | ok q =>
    obtain ⟨p', r'⟩ := q
    have hlen := Zpn hf
    have hb' := Zs9 hb hf
    rw [hf] at h hX
    simp only [FlR] at h hX
    cases ht : Zfx ZdI r' with
    | none =>
     rw [ht] at h hX
     obtain ⟨rfl, s⟩ := h
     exact ⟨.ok (false, p', r'), ⟨rfl, hb', hX, s⟩, by simp⟩
    | some r2 =>
     rw [ht] at h hX
     obtain ⟨rfl, s⟩ := h
     have := ZfS ht
     exact ⟨.ok (true, p', r2), ⟨rfl, hb', hX, s⟩, by simp only; omega⟩
end
theorem ZwO : strI Zve = tx "on" := by decide +kernel
theorem Zv3 : strI Zvd = tx "vid" := by decide +kernel
theorem Zu9 : strI ZpO = tx "from" := by decide +kernel
theorem ZwN : strI Zsa = tx "to" := by decide +kernel
theorem Zqz : strI ZpN = tx "flags" := by decide +kernel
theorem Zr1 : strI ZpM = tx "type" := by decide +kernel
theorem Zr3 : strI Zvc = tx "pieces" := by decide +kernel
section
variable {W w : World} {Hs : List HP} {b : Nat} {wl : List ZaD} {e : Int} {m : Zbf} {ws : List Wd} {f : PF}
theorem Zvh {β : Type} {sd : Zaf} {sm : ZeT} {g : Unit → M β} {Q : β → World → Prop} (s : Ss W (Zkb sd sm :: RrA b wl e m ws :: Hs) w) (k : ∀ w, Ss W (RrA b wl e { m with From := sm } ws :: Hs) w → WP (g ()) w Q) : WP (st ZaA (Addr.add (Addr.add (pt b 0) 3) 6) sd >>= g) w Q := by
 obtain ⟨⟨rr, i⟩, hq, s⟩ := Ziw (s.use [1] (s := [_]) (r := _ :: Hs) rfl)
 obtain ⟨h1, h2, h3, h4, h5, h6, h7⟩ := hq
 refine WP.st s 0 rfl (o := 3 + 6) rfl ((Zb6 rr).trans' (Zd1 rr.rule sd) (Zen rr _)) (fun w s => k w ?_)
 refine ZlE (q := (⟨rr.l, rr.i, rr.end_, { rr.rule with From := sd }, rr.err, rr.at_⟩, i)) ⟨h1, h2, h3, h4, h5, h6, h7⟩ ?_
 have s := (s.use [2] rfl).drop
 have s := s.use [0, 0, 1] rfl
 exact s
theorem ZwS {β : Type} {sd : Zaf} {sm : ZeT} {g : Unit → M β} {Q : β → World → Prop} (s : Ss W (Zkb sd sm :: RrA b wl e m ws :: Hs) w) (k : ∀ w, Ss W (RrA b wl e { m with To := sm } ws :: Hs) w → WP (g ()) w Q) : WP (st ZaA (Addr.add (Addr.add (pt b 0) 3) 9) sd >>= g) w Q := by
 obtain ⟨⟨rr, i⟩, hq, s⟩ := Ziw (s.use [1] (s := [_]) (r := _ :: Hs) rfl)
 obtain ⟨h1, h2, h3, h4, h5, h6, h7⟩ := hq
 refine WP.st s 0 rfl (o := 3 + 9) rfl ((Zb6 rr).trans' (ZeY rr.rule sd) (Zen rr _)) (fun w s => k w ?_)
 refine ZlE (q := (⟨rr.l, rr.i, rr.end_, { rr.rule with To := sd }, rr.err, rr.at_⟩, i)) ⟨h1, h2, h3, h4, h5, h6, h7⟩ ?_
 have s := (s.use [3] rfl).drop
 exact s
def ClR (W : World) (Hs : List HP) (b : Nat) (wl : List ZaD) (e : Int) (m : Zbf) (ws : List Wd) (r : Bool) (w : World) : Option (PE (Zbf × List Wd)) → Prop
 | none => r = false ∧ Ss W (RrA b wl e m ws :: Hs) w
 | some X => r = true ∧ RulR W Hs b wl e w X
theorem ZpX (hb : B255 (m.Set, m.Clear)) (fi : Nat) (ef : nth Hs fi = some (NmP 2 Zju)) (t : ByteArray) (s : Ss W (RrA b wl e m ws :: Hs) w) : WP (Zay (some (pt b 0)) t) w (fun r w' => ClR W Hs b wl e m ws r w' (Zj3 e (strI t) m ws)) := by
 unfold Zay Zj3
 have k1 : t.toList = (Zve).toList ↔ strI t = tx "on" := by rw [Zcw, ZwO]
 have k2 : t.toList = (Zvd).toList ↔ strI t = tx "vid" := by rw [Zcw, Zv3]
 have k3 : t.toList = (ZpO).toList ↔ strI t = tx "from" := by rw [Zcw, Zu9]
 have k4 : t.toList = (Zsa).toList ↔ strI t = tx "to" := by rw [Zcw, ZwN]
 have k5 : t.toList = (ZpN).toList ↔ strI t = tx "flags" := by rw [Zcw, Zqz]
 have k6 : t.toList = (ZpM).toList ↔ strI t = tx "type" := by rw [Zcw, Zr1]
 have k7 : t.toList = (Zvc).toList ↔ strI t = tx "pieces" := by rw [Zcw, Zr3]
 by_cases h1 : strI t = tx "on"
 ·rw [if_pos h1]
  refine WP.ite (fun _ => WP.step (Zsl s) ?_) (fun h => absurd (k1.2 h1) h)
  intro n w h
  cases hp : Zp0 e ws with
  | error f =>
   rw [hp] at h
   exact WP.nilck (setD (o := 4) h (fun r => { r with In := IntKind.wrap .i64 (n + 1) }) (fun r => ZjD r _) (fun w s => WP.ret ⟨rfl, s⟩))
  | ok q =>
   rw [hp] at h
   obtain ⟨rfl, s⟩ := h
   have hr : 0 ≤ q.1 ∧ q.1 ≤ 7 := by
    cases ws with
    | nil => cases hp
    | cons x xs =>
     rw [show Zp0 e (x :: xs) = if x.1 = ZdI then .error (160, x.2) else match (if x.1.head? = some 112 then numR x.1.tail 0 7 else none) with
      | none => .error (162, x.2)
      | some n => .ok (n, xs) from rfl] at hp
     split at hp
     ·cases hp
     ·split at hp
      ·cases hp
      ·rename_i n hn
       cases hp
       split at hn
       ·unfold numR at hn
        split at hn
        ·cases hn
        ·split at hn
         ·rename_i hh
          cases hn
          exact hh
         ·cases hn
       ·cases hn
   have hw : IntKind.wrap .i64 (q.1 + 1) = q.1 + 1 := Zau (by omega) (by omega)
   rw [hw]
   exact WP.nilck (setA (o := 4) (m' := { m with In := q.1 + 1 }) s (fun r => { r with In := q.1 + 1 }) (fun r => ZjD r _) (fun r h => ⟨h.1, h.2.1, h.2.2.1, h.2.2.2.1, rfl, h.2.2.2.2.2⟩) (fun r => ⟨rfl, rfl⟩) ⟨rfl, rfl⟩ (fun w s => WP.ret ⟨rfl, s⟩))
 rw [if_neg h1]
 refine WP.ite (fun h => absurd (k1.1 h) h1) (fun _ => ?_)
 by_cases h2 : strI t = tx "vid"
 ·rw [if_pos h2]
  refine WP.ite (fun _ => WP.step (Zl2 s 1 4094) ?_) (fun h => absurd (k2.2 h2) h)
  intro n w h
  cases hp : numP e 1 4094 ws with
  | error f =>
   rw [hp] at h
   exact WP.nilck (setD (o := 5) h (fun r => { r with Vid := n }) (fun r => Zi1 r _) (fun w s => WP.ret ⟨rfl, s⟩))
  | ok q =>
   rw [hp] at h
   obtain ⟨rfl, s⟩ := h
   exact WP.nilck (setA (o := 5) (m' := { m with Vid := q.1 }) s (fun r => { r with Vid := q.1 }) (fun r => Zi1 r _) (fun r h => ⟨h.1, h.2.1, h.2.2.1, h.2.2.2.1, h.2.2.2.2.1, rfl, h.2.2.2.2.2.2⟩) (fun r => ⟨rfl, rfl⟩) ⟨rfl, rfl⟩ (fun w s => WP.ret ⟨rfl, s⟩))
 rw [if_neg h2]
 refine WP.ite (fun h => absurd (k2.1 h) h2) (fun _ => ?_)
 by_cases h3 : strI t = tx "from"
 ·rw [if_pos h3]
  refine WP.ite (fun _ => WP.step (ZoR s) ?_) (fun h => absurd (k3.2 h3) h)
  intro n w h
  unfold Zay.K1
  cases hp : ZoJ e m.Kind m.Proto ws with
  | error f =>
   rw [hp] at h
   exact WP.nilck (setD (o := 6) h (fun r => { r with From := n }) (fun r => Zd1 r _) (fun w s => WP.ret ⟨rfl, s⟩))
  | ok q =>
   rw [hp] at h
   exact WP.nilck (Zvh h (fun w s => WP.ret ⟨rfl, s⟩))
 rw [if_neg h3]
 refine WP.ite (fun h => absurd (k3.1 h) h3) (fun _ => ?_)
 by_cases h4 : strI t = tx "to"
 ·rw [if_pos h4]
  refine WP.ite (fun _ => WP.step (ZoR s) ?_) (fun h => absurd (k4.2 h4) h)
  intro n w h
  unfold Zay.K1
  cases hp : ZoJ e m.Kind m.Proto ws with
  | error f =>
   rw [hp] at h
   exact WP.nilck (setD (o := 9) h (fun r => { r with To := n }) (fun r => ZeY r _) (fun w s => WP.ret ⟨rfl, s⟩))
  | ok q =>
   rw [hp] at h
   exact WP.nilck (ZwS h (fun w s => WP.ret ⟨rfl, s⟩))
 rw [if_neg h4]
 refine WP.ite (fun h => absurd (k4.1 h) h4) (fun _ => ?_)
 by_cases h5 : strI t = tx "flags"
 ·rw [if_pos h5]
  refine WP.ite (fun _ => WP.step (Zrp (m := m) (p := (m.Set, m.Clear)) hb fi ef s) ?_) (fun h => absurd (k5.2 h5) h)
  intro n w h
  unfold Zay.K1
  refine WP.ret ⟨rfl, ?_⟩
  unfold ZtG at h
  simp only at h
  cases hp : Zhi e m.Set m.Clear ws with
  | error f => rw [hp] at h; exact h
  | ok q => rw [hp] at h; exact h
 rw [if_neg h5]
 refine WP.ite (fun h => absurd (k5.1 h) h5) (fun _ => ?_)
 by_cases h6 : strI t = tx "type"
 ·rw [if_pos h6]
  refine WP.ite (fun _ => WP.step (Zl2 s 0 255) ?_) (fun h => absurd (k6.2 h6) h)
  intro n w h
  unfold Zay.K1
  cases hp : numP e 0 255 ws with
  | error f =>
   rw [hp] at h
   exact WP.nilck (setD (o := 14) h (fun r => { r with Type_ := IntKind.wrap .i64 (n + 1) }) (fun r => ZhN r _) (fun w s => WP.ret ⟨rfl, s⟩))
  | ok q =>
   rw [hp] at h
   obtain ⟨rfl, s⟩ := h
   have hr : 0 ≤ q.1 ∧ q.1 ≤ 255 := by
    cases ws with
    | nil => cases hp
    | cons x xs =>
     rw [show numP e 0 255 (x :: xs) = if x.1 = ZdI then .error (160, x.2) else match numR x.1 0 255 with
      | none => .error (162, x.2)
      | some n => .ok (n, xs) from rfl] at hp
     split at hp
     ·cases hp
     ·split at hp
      ·cases hp
      ·rename_i n hn
       cases hp
       unfold numR at hn
       split at hn
       ·cases hn
       ·split at hn
        ·rename_i hh
         cases hn
         exact hh
        ·cases hn
   have hw : IntKind.wrap .i64 (q.1 + 1) = q.1 + 1 := Zau (by omega) (by omega)
   rw [hw]
   exact WP.nilck (setA (o := 14) (m' := { m with Type_ := q.1 + 1 }) s (fun r => { r with Type_ := q.1 + 1 }) (fun r => ZhN r _) (fun r h => ⟨h.1, h.2.1, h.2.2.1, h.2.2.2.1, h.2.2.2.2.1, h.2.2.2.2.2.1, h.2.2.2.2.2.2.1, h.2.2.2.2.2.2.2.1, rfl, h.2.2.2.2.2.2.2.2.2⟩) (fun r => ⟨rfl, rfl⟩) ⟨rfl, rfl⟩ (fun w s => WP.ret ⟨rfl, s⟩))
 rw [if_neg h6]
 refine WP.ite (fun h => absurd (k6.1 h) h6) (fun _ => ?_)
 by_cases h7 : strI t = tx "pieces"
 ·rw [if_pos h7]
  unfold Zay.K1
  exact WP.ite (fun _ => WP.nilck (setA (o := 15) (m' := { m with Pieces := true }) s (fun r => { r with Pieces := true }) (fun r => ZkJ r _) (fun r h => ⟨h.1, h.2.1, h.2.2.1, h.2.2.2.1, h.2.2.2.2.1, h.2.2.2.2.2.1, h.2.2.2.2.2.2.1, h.2.2.2.2.2.2.2.1, h.2.2.2.2.2.2.2.2.1, rfl⟩) (fun r => ⟨rfl, rfl⟩) ⟨rfl, rfl⟩ (fun w s => WP.ret ⟨rfl, s⟩))) (fun h => absurd (k7.2 h7) h)
 rw [if_neg h7]
 exact WP.ite (fun h => absurd (k7.1 h) h7) (fun _ => WP.ret ⟨rfl, s⟩)
end
theorem Zl3 {e lo hi n : Int} {ws r : List Wd} (h : numP e lo hi ws = .ok (n, r)) : r.length < ws.length ∧ lo ≤ n ∧ n ≤ hi := by
 cases ws with
 | nil => cases h
 | cons x xs =>
  rw [show numP e lo hi (x :: xs) = if x.1 = ZdI then .error (160, x.2) else match numR x.1 lo hi with
   | none => .error (162, x.2)
   | some n => .ok (n, xs) from rfl] at h
  split at h
  ·cases h
  ·split at h
   ·cases h
   ·rename_i k hk
    cases h
    unfold numR at hk
    split at hk
    ·cases hk
    ·split at hk
     ·rename_i hh
      cases hk
      exact ⟨by simp, hh⟩
     ·cases hk
theorem Zsx {e n : Int} {ws r : List Wd} (h : Zp0 e ws = .ok (n, r)) : r.length < ws.length := by
 cases ws with
 | nil => cases h
 | cons x xs =>
  rw [show Zp0 e (x :: xs) = if x.1 = ZdI then .error (160, x.2) else match (if x.1.head? = some 112 then numR x.1.tail 0 7 else none) with
   | none => .error (162, x.2)
   | some n => .ok (n, xs) from rfl] at h
  split at h
  ·cases h
  ·split at h
   ·cases h
   ·cases h
    simp
theorem Zo5 {e kind : Int} : ∀ (k : Nat) {acc : List Zad} {ws r : List Wd} {l : List Zad}, ws.length ≤ k → Zks e kind acc ws = .ok (l, r) → r.length < ws.length
 | 0, acc, ws, r, l, hk, h => by
  have : ws = [] := List.length_eq_zero_iff.1 (by omega)
  subst this
  cases h
 | k + 1, acc, ws, r, l, hk, h => by
  rw [ZnR] at h
  split at h
  ·cases h
  ·rename_i p r1 h1
   have := (ZqM h1).1
   split at h
   ·cases h
    exact this
   ·rename_i r2 h2
    have := ZfS h2
    have := Zo5 k (by omega) h
    omega
theorem ZnL {e : Int} : ∀ (k : Nat) {acc : List ZaE} {ws r : List Wd} {l : List ZaE}, ws.length ≤ k → ZhH e acc ws = .ok (l, r) → r.length < ws.length
 | 0, acc, ws, r, l, hk, h => by
  have : ws = [] := List.length_eq_zero_iff.1 (by omega)
  subst this
  cases h
 | k + 1, acc, ws, r, l, hk, h => by
  rw [Zmx] at h
  split at h
  ·cases h
  ·rename_i p r1 h1
   have := (ZnI h1).1
   split at h
   ·cases h
    exact this
   ·rename_i r2 h2
    have := ZfS h2
    have := ZnL k (by omega) h
    omega
theorem Zmq {e proto : Int} {ws r : List Wd} {l : List ZaE} (h : Zgf e proto ws = .ok (l, r)) : r.length ≤ ws.length := by
 cases ws with
 | nil =>
  unfold Zgf at h
  cases h
  simp
 | cons x xs =>
  rw [ZiC] at h
  split at h
  ·split at h
   ·have := ZnL _ (Nat.le_refl _) h
    simp
    omega
   ·cases h
  ·cases h
   simp
theorem ZoI {e kind proto : Int} {ws r : List Wd} {s : ZeT} (h : ZoJ e kind proto ws = .ok (s, r)) : r.length ≤ ws.length := by
 rw [ZqA] at h
 unfold ZpI at h
 split at h
 ·rename_i r1 h1
  have := ZfS h1
  split at h
  ·cases h
  ·rename_i h2
   have := Zmq h2
   cases h
   omega
 ·split at h
  ·cases h
  ·rename_i l r1 h1
   have := Zo5 _ (Nat.le_refl _) h1
   have hle : ((Zfx (tx "not") ws).getD ws).length ≤ ws.length := by
    cases ht : Zfx (tx "not") ws with
    | none => simp
    | some r =>
     have := ZfS ht
     simp only [Option.getD_some]
     omega
   split at h
   ·cases h
   ·rename_i h2
    have := Zmq h2
    cases h
    omega
theorem ZnX {e : Int} : ∀ (k : Nat) {s c : Int} {ws r : List Wd} {p : Int × Int}, ws.length ≤ k → Zhi e s c ws = .ok (p, r) → r.length < ws.length ∧ (B255 (s, c) → B255 p)
 | 0, s, c, ws, r, p, hk, h => by
  have : ws = [] := List.length_eq_zero_iff.1 (by omega)
  subst this
  cases h
 | k + 1, s, c, ws, r, p, hk, h => by
  rw [ZmU] at h
  split at h
  ·cases h
  ·rename_i q r1 h1
   have hl := Zpn h1
   have hb : B255 (s, c) → B255 q := fun hb => Zs9 hb h1
   split at h
   ·cases h
    exact ⟨hl, hb⟩
   ·rename_i r2 h2
    have := ZfS h2
    obtain ⟨q1, q2⟩ := ZnX k (by omega) h
    exact ⟨by omega, fun h => q2 (hb h)⟩
theorem Zqk {e : Int} {t : List Int} {m m' : Zbf} {ws r : List Wd} (h : Zj3 e t m ws = some (.ok (m', r))) : r.length ≤ ws.length ∧ (B255 (m.Set, m.Clear) → B255 (m'.Set, m'.Clear)) := by
 unfold Zj3 at h
 split at h
 ·split at h
  ·cases h
  ·rename_i h1
   cases h
   exact ⟨Nat.le_of_lt (Zsx h1), fun h => h⟩
 ·split at h
  ·split at h
   ·cases h
   ·rename_i h1
    cases h
    exact ⟨Nat.le_of_lt (Zl3 h1).1, fun h => h⟩
  ·split at h
   ·split at h
    ·cases h
    ·rename_i h1
     cases h
     exact ⟨ZoI h1, fun h => h⟩
   ·split at h
    ·split at h
     ·cases h
     ·rename_i h1
      cases h
      exact ⟨ZoI h1, fun h => h⟩
    ·split at h
     ·split at h
      ·cases h
      ·rename_i h1
       obtain ⟨q1, q2⟩ := ZnX _ (Nat.le_refl _) h1
       cases h
       exact ⟨Nat.le_of_lt q1, q2⟩
     ·split at h
      ·split at h
       ·cases h
       ·rename_i h1
        cases h
        exact ⟨Nat.le_of_lt (Zl3 h1).1, fun h => h⟩
      ·split at h
       ·cases h
        exact ⟨Nat.le_refl _, fun h => h⟩
       ·cases h
theorem ZrS : RSc ZaH zRl := ⟨rfl, rfl, rfl, rfl, rfl, rfl, rfl, rfl, rfl, rfl⟩
def ZwH (r : Zae) (m : Zbf) : HP := fun h => RSc r m ∧ seps [Zkb r.From m.From, Zkb r.To m.To] h
def ParR (W : World) (Hs : List HP) (r : Zae × Int × Int) (w : World) : PE Zbf → Prop
 | .ok m => r.2 = (0, 0) ∧ Ss W (ZwH r.1 m :: Hs) w
 | .error f => r = (ZaH, f.1, f.2) ∧ f.1 ≠ 0 ∧ Ss W Hs w
abbrev Znj (b : Nat) (kvs : List (ByteArray × Int)) : HP := mapH cS (cI .i64) b kvs
def ZpC (kvs : List (ByteArray × Int)) (seen : List (List Int)) : Prop := (∀ p ∈ kvs, p.2 > 0) ∧ ∀ t : ByteArray, (∃ x, (t, x) ∈ kvs) ↔ strI t ∈ seen
theorem Zl5 : ∀ (l cur : List Int) (p : Int) (ws : List Wd), lexM cur p l = .ok ws → ws.length ≤ l.length + 1 ∧ (cur = [] → ws.length ≤ l.length) ∧ ∀ w ∈ ws, w.1.length ≤ cur.length + l.length
 | [], cur, p, ws, h => by
  have h : ws = if cur = [] then [] else [(cur, p - cur.length)] := by
   rw [lexM] at h
   exact (Except.ok.inj h).symm
  subst h
  split
  ·exact ⟨by simp, fun _ => by simp, by simp⟩
  ·rename_i hc
   exact ⟨by simp, fun h => absurd h hc, by simp⟩
 | c :: cs, cur, p, ws, h => by
  by_cases hw : Zmh c = true
  ·rw [ZqR hw] at h
   obtain ⟨h1, -, h3⟩ := Zl5 cs _ _ _ h
   refine ⟨by simp; omega, fun hc => ?_, fun w hm => ?_⟩
   ·simp
    omega
   ·have := h3 w hm
    simp at this ⊢
    omega
  ·rw [ZqS (by simpa using hw)] at h
   split at h
   ·cases h
   ·rename_i r hr
    cases h
    have key : r.length ≤ cs.length + 1 ∧ ∀ w ∈ r, w.1.length ≤ 1 + cs.length := by
     split at hr
     ·split at hr
      ·cases hr
      ·rename_i r' hr'
       cases hr
       obtain ⟨-, h2, h3⟩ := Zl5 cs [] _ _ hr'
       refine ⟨by simp only [List.length_cons]; have := h2 rfl; omega, fun w hm => ?_⟩
       rcases List.mem_cons.1 hm with rfl | hm
       ·simp
       ·have := h3 w hm
        simp at this
        omega
     ·split at hr
      ·obtain ⟨-, h2, h3⟩ := Zl5 cs [] _ _ hr
       refine ⟨by have := h2 rfl; omega, fun w hm => ?_⟩
       have := h3 w hm
       simp at this
       omega
      ·cases hr
    split
    ·rename_i hc
     refine ⟨by simp only [List.length_cons]; omega, fun _ => by simp only [List.length_cons]; omega, fun w hm => ?_⟩
     have := key.2 w hm
     simp only [List.length_cons]
     omega
    ·rename_i hc
     refine ⟨by simp only [List.length_cons]; omega, fun h => absurd h hc, fun w hm => ?_⟩
     rcases List.mem_cons.1 hm with rfl | hm
     ·simp
     ·have := key.2 w hm
      simp only [List.length_cons]
      omega
section
variable {W w : World} {Hs : List HP} {b : Nat} {wl : List ZaD} {e : Int} {m : Zbf} {ws : List Wd} {f : PF}
theorem ldI {β : Type} {g : Int → M β} {Q : β → World → Prop} (s : Ss W (RrA b wl e m ws :: Hs) w) (k : ∀ i : Nat, i + ws.length = wl.length → WP (g (i : Int)) w Q) : WP (ld (cI .i64) (Addr.add (pt b 0) 1) >>= g) w Q := by
 obtain ⟨⟨rr, i⟩, hq, s1⟩ := Ziw s
 obtain ⟨h1, h2, h3, h4, h5, h6, h7⟩ := hq
 refine WP.ld (x := rr.i) s1 0 rfl (o := 1) rfl (ZbJ _) ?_
 have h1 : rr.i = (i : Int) := h1
 have h4 : i ≤ wl.length := h4
 rw [h1]
 refine k i ?_
 have : ws.length = wl.length - i := by rw [h6]; simp
 omega
theorem ldID {β : Type} {g : Int → M β} {Q : β → World → Prop} (s : Ss W (RrD b f :: Hs) w) (k : ∀ i, WP (g i) w Q) : WP (ld (cI .i64) (Addr.add (pt b 0) 1) >>= g) w Q := by
 obtain ⟨rr, hq, s1⟩ := s.openx 0 rfl
 exact WP.ld (x := rr.i) s1 0 rfl (o := 1) rfl (ZbJ _) (k _)
theorem ZiN (s : Ss W (RrD b f :: Hs) w) : WP (Zam.K1 b) w (fun r w' => ParR W Hs r w' (.error f)) := by
 unfold Zam.K1
 refine errD s (fun h => WP.ite (fun _ => WP.draw' s (fun w s => ?_)) (fun h' => absurd h h'))
 obtain ⟨rr, hq, s1⟩ := s.openx 0 rfl
 refine WP.ld (x := rr.err) s1 0 rfl (o := 19) rfl (ZeP _) (WP.ld (x := rr.at_) s1 0 rfl (o := 20) rfl (Zg3 _) (WP.same (x := rr.at_) s1 0 rfl (o := 20) rfl (Zg3 _) (WP.same (x := rr.err) s1 0 rfl (o := 19) rfl (ZeP _) (WP.ret ⟨?_, h, s.drop⟩))))
 rw [hq.1, hq.2.1]
theorem Zrr (s : Ss W (RrA b wl e m ws :: Hs) w) : WP (Zam.K1 b) w (fun r w' => ParR W Hs r w' (.ok m)) := by
 unfold Zam.K1
 refine errA s (WP.ite (fun h => absurd rfl h) (fun _ => ?_))
 obtain ⟨⟨rr, i⟩, hq, s⟩ := Ziw s
 refine WP.ld (x := rr.rule) s 0 rfl (o := 3) rfl (Zb6 _) (WP.ret ⟨rfl, ?_⟩)
 have s : Ss W ([Zkb rr.rule.From m.From, Zkb rr.rule.To m.To] ++ Hs) w := by
  have s := s.drop.drop
  exact s
 exact s.group.first (fun h hh => ⟨hq.2.2.2.2.2.2, hh⟩)
theorem ZtY {kvs : List (ByteArray × Int)} {seen : List (List Int)} {t : ByteArray} {x : Int} (h : ZpC kvs seen) (hx : x > 0) : ZpC (kvs ++ [(t, x)]) (strI t :: seen) := by
 refine ⟨fun p hp => ?_, fun u => ?_⟩
 ·rcases List.mem_append.1 hp with hp | hp
  ·exact h.1 p hp
  ·rw [List.mem_singleton.1 hp]
   exact hx
 ·rw [List.mem_cons, ← h.2 u]
  constructor
  ·rintro ⟨y, hy⟩
   rcases List.mem_append.1 hy with hy | hy
   ·exact .inr ⟨y, hy⟩
   ·have := List.mem_singleton.1 hy
    left
    rw [(Prod.mk.inj this).1]
  ·rintro (hu | ⟨y, hy⟩)
   ·have : u = t := by rw [← Zm0 u, ← Zm0 t, hu]
    exact ⟨x, List.mem_append_right _ (by rw [this]; simp)⟩
   ·exact ⟨y, List.mem_append_left _ hy⟩
theorem Zo0 {r2 : Sl × Int} {b5 : Nat} (hl : r2.1.len = wl.length) (fi : Nat) (ef : nth Hs fi = some (NmP 2 Zju)) {fuel : Nat} {X : PE Zbf} (hX : Zol e fuel [] m ws = X) (hf : ws.length < fuel) (hb : B255 (m.Set, m.Clear)) (hp : ws.length < wl.length) (s : Ss W (RrA b wl e m ws :: Znj b5 [] :: Hs) w) :
  WP (ZcI (fun s_ : Unit => Zam.L1 r2 b b5) ()) w (fun r w' => ParR W Hs r w' X) := by
 refine WP.loopG (γ := PE (Nat × List (List Int) × Zbf × List Wd) × List (ByteArray × Int)) (fun g (_ : Unit) w => match g.1 with
   | .ok (fuel, seen, m, ws) => Zol e fuel seen m ws = X ∧ ws.length < fuel ∧ B255 (m.Set, m.Clear) ∧ ws.length < wl.length ∧ ZpC g.2 seen ∧ Ss W (RrA b wl e m ws :: Znj b5 g.2 :: Hs) w
   | .error f => X = .error f ∧ Ss W (RrD b f :: Znj b5 g.2 :: Hs) w) (fun g _ => match g.1 with
   | .ok (_, _, _, ws) => ws.length + 1
   | .error _ => 0) (.ok (fuel, [], m, ws), []) ⟨hX, hf, hb, hp, ⟨by simp, by simp⟩, s⟩ ?_
 clear s hX hf hb hp
 rintro ⟨g, kvs⟩ _ w h
 show WP (Zam.L1 r2 b b5) w _
 unfold Zam.L1
 cases g with
 | error f =>
  obtain ⟨hXf, s⟩ := h
  refine errD s (fun h => ?_)
  refine WP.step (R := fun y w' => y = false ∧ w = w') (WP.ite (fun h' => absurd h' h) (fun _ => WP.ret ⟨rfl, rfl⟩)) ?_
  rintro _ _ ⟨rfl, rfl⟩
  refine WP.ite (fun h => by cases h) (fun _ => WP.step (ZiN s) (fun r w h => WP.done ?_))
  rw [hXf]
  obtain ⟨q1, q2, s⟩ := h
  exact ⟨q1, q2, s.drop⟩
 | ok g =>
  obtain ⟨fuel, seen, m, ws⟩ := g
  obtain ⟨hX, hf, hb, hp, hs, s⟩ := h
  simp only at hX hf hb hp hs s
  obtain ⟨fu, rfl⟩ : ∃ k, fuel = k + 1 := ⟨fuel - 1, by omega⟩
  refine errA s ?_
  refine WP.step (R := fun y w' => y = decide (ws ≠ []) ∧ w = w') (WP.ite (fun _ => ldI s (fun i hi => WP.ret ⟨?_, rfl⟩)) (fun h => absurd rfl h)) ?_
  ·rw [hl]
   refine decide_eq_decide.2 ?_
   have : ws ≠ [] ↔ 0 < ws.length := List.length_pos_iff.symm
   rw [this]
   omega
  rintro _ _ ⟨rfl, rfl⟩
  cases ws with
  | nil =>
   refine WP.ite (fun h => by simp at h) (fun _ => WP.step (Zrr s) (fun r w h => WP.done ?_))
   rw [← hX]
   obtain ⟨q1, s⟩ := h
   refine ⟨q1, ?_⟩
   have s := (s.use [1] rfl).drop
   exact s
  | cons x xs =>
   refine WP.ite (fun _ => WP.step (ZiK s) ?_) (fun h => absurd (by simp) h)
   rintro r w ⟨hx, s1⟩
   clear s
   have s := s1
   clear s1
   subst hx
   rw [show Zol e (fu + 1) seen m (wdOf r :: xs) = if mayM seen m (strI r.s) = false then .error (165, r.at_) else match Zj3 e (strI r.s) m xs with
    | none => .error (160, r.at_)
    | some (.error q) => .error q
    | some (.ok (m', r')) => Zol e fu (strI r.s :: seen) m' r' from rfl] at hX
   simp only [List.length_cons] at hf hp
   refine WP.slot' s (fun _ w s => ?_)
   -- what has been seen
   have cont : ∀ {v : Int × Bool}, (v.1 > 0 ↔ strI r.s ∈ seen) → WP ((if v.1 > 0 then pure true else (if r.s.toList = (ZpN).toList then ld (cI .i64) (Addr.add (Addr.add (pt b 0) 3) 3) >>= fun x41 => pure (x41 != 6) else pure false) >>= fun y42 => pure y42) >>= fun y43 =>
     (if y43 = true then pure true else (if r.s.toList = (ZpM).toList then ld (cI .i64) (Addr.add (Addr.add (pt b 0) 3) 3) >>= fun x44 => ZeG x44 >>= fun r45 => pure (!r45) else pure false) >>= fun y46 => pure y46) >>= fun y47 =>
     if y47 = true then ZaS (some (pt b 0)) 165 r.at_ >>= fun r49 => (Zam.K1 b) >>= fun b => pure (LS.done b)
     else Zay (some (pt b 0)) r.s >>= fun r50 => if ¬ (r50 = true) then ZaS (some (pt b 0)) 160 r.at_ >>= fun r53 => Zam.K2 b b5 r else Zam.K2 b b5 r) w (WP.Rd (fun (_ : Unit) w => ∃ g' : PE (Nat × List (List Int) × Zbf × List Wd) × List (ByteArray × Int), (match g'.1 with
   | .ok (fuel, seen, m, ws) => Zol e fuel seen m ws = X ∧ ws.length < fuel ∧ B255 (m.Set, m.Clear) ∧ ws.length < wl.length ∧ ZpC g'.2 seen ∧ Ss W (RrA b wl e m ws :: Znj b5 g'.2 :: Hs) w
   | .error f => X = .error f ∧ Ss W (RrD b f :: Znj b5 g'.2 :: Hs) w) ∧ (match g'.1 with
   | .ok (_, _, _, ws) => ws.length + 1
   | .error _ => 0) < (wdOf r :: xs).length + 1) (fun r w' => ParR W Hs r w' X)) := by
    intro v hv
    have e1 : r.s.toList = (ZpN).toList ↔ strI r.s = tx "flags" := by rw [Zcw, Zqz]
    have e2 : r.s.toList = (ZpM).toList ↔ strI r.s = tx "type" := by rw [Zcw, Zr1]
    refine WP.step (R := fun y w' => y = decide (strI r.s ∈ seen ∨ (strI r.s = tx "flags" ∧ m.Proto ≠ 6)) ∧ w = w') (WP.ite (fun h => WP.ret ⟨(decide_eq_true (.inl (hv.1 h))).symm, rfl⟩) (fun h => ?_)) ?_
    ·have hn : strI r.s ∉ seen := fun h' => h (hv.2 h')
     refine WP.step (R := fun y w' => y = decide (strI r.s ∈ seen ∨ (strI r.s = tx "flags" ∧ m.Proto ≠ 6)) ∧ w = w') (WP.ite (fun h2 => Zss s (WP.ret ⟨?_, rfl⟩)) (fun h2 => WP.ret ⟨?_, rfl⟩)) (fun y w h => WP.ret h)
     ·rw [Bool.eq_iff_iff, bne_iff_ne, decide_eq_true_iff]
      exact ⟨fun h' => .inr ⟨e1.1 h2, h'⟩, fun h' => h'.elim (fun h' => absurd h' hn) (fun h' => h'.2)⟩
     ·exact (decide_eq_false (fun h' => h'.elim hn (fun h' => h2 (e1.2 h'.1)))).symm
    rintro _ _ ⟨rfl, rfl⟩
    have hmay : mayM seen m (strI r.s) = false ↔ (strI r.s ∈ seen ∨ (strI r.s = tx "flags" ∧ m.Proto ≠ 6)) ∨ (strI r.s = tx "type" ∧ Zid m.Proto = false) := by
     unfold mayM
     rw [decide_eq_false_iff_not]
     constructor
     ·intro h
      by_cases a1 : strI r.s ∈ seen
      ·exact .inl (.inl a1)
      by_cases a2 : strI r.s = tx "flags" ∧ m.Proto ≠ 6
      ·exact .inl (.inr a2)
      by_cases a3 : strI r.s = tx "type" ∧ Zid m.Proto = false
      ·exact .inr a3
      exact absurd ⟨a1, fun h' => Decidable.byContradiction fun hn => a2 ⟨h', hn⟩, fun h' => by
       cases ht : Zid m.Proto with
       | true => rfl
       | false => exact absurd ⟨h', ht⟩ a3⟩ h
     ·rintro ((h | ⟨h, h'⟩) | ⟨h, h'⟩) ⟨b1, b2, b3⟩
      ·exact b1 h
      ·exact h' (b2 h)
      ·rw [b3 h] at h'
       cases h'
    refine WP.step (R := fun y w' => y = !(mayM seen m (strI r.s)) ∧ w = w') (WP.ite (fun h => WP.ret ⟨?_, rfl⟩) (fun h => ?_)) ?_
    ·rw [hmay.2 (.inl (of_decide_eq_true h))]
     rfl
    ·have hn : ¬ (strI r.s ∈ seen ∨ (strI r.s = tx "flags" ∧ m.Proto ≠ 6)) := fun h' => h (decide_eq_true h')
     refine WP.step (R := fun y w' => y = !(mayM seen m (strI r.s)) ∧ w = w') (WP.ite (fun h2 => Zss s (WP.step (Zqy m.Proto) ?_)) (fun h2 => WP.ret ⟨?_, rfl⟩)) (fun y w h => WP.ret h)
     ·rintro _ _ ⟨rfl, rfl⟩
      refine WP.ret ⟨?_, rfl⟩
      cases ht : Zid m.Proto with
      | false => rw [hmay.2 (.inr ⟨e2.1 h2, ht⟩)]
      | true =>
       cases hm : mayM seen m (strI r.s) with
       | true => rfl
       | false => exact absurd (hmay.1 hm) (fun h' => h'.elim hn (fun h' => by rw [ht] at h'; cases h'.2))
     ·cases hm : mayM seen m (strI r.s) with
      | true => rfl
      | false => exact absurd (hmay.1 hm) (fun h' => h'.elim hn (fun h' => h2 (e2.2 h'.1)))
    rintro _ _ ⟨rfl, rfl⟩
    cases hm : mayM seen m (strI r.s) with
    | false =>
     rw [if_pos hm] at hX
     refine WP.ite (fun _ => WP.step (Zd9 s (by decide) r.at_) ?_) (fun h => absurd rfl h)
     intro _ w s
     refine WP.step (ZiN s) (fun r w h => WP.done ?_)
     rw [← hX]
     obtain ⟨q1, q2, s⟩ := h
     exact ⟨q1, q2, s.drop⟩
    | true =>
     rw [if_neg (by rw [hm]; decide)] at hX
     have hns : strI r.s ∉ seen := fun h' => by rw [hmay.2 (.inl (.inl h'))] at hm; cases hm
     have hkey : ∀ y, (r.s, y) ∉ kvs := fun y hy => hns ((hs.2 r.s).1 ⟨y, hy⟩)
     have deadK2 : ∀ {w : World} {f : PF}, X = .error f → Ss W (RrD b f :: Znj b5 kvs :: Hs) w → WP (Zam.K2 b b5 r) w (WP.Rd (fun (_ : Unit) w => ∃ g' : PE (Nat × List (List Int) × Zbf × List Wd) × List (ByteArray × Int), (match g'.1 with
       | .ok (fuel, seen, m, ws) => Zol e fuel seen m ws = X ∧ ws.length < fuel ∧ B255 (m.Set, m.Clear) ∧ ws.length < wl.length ∧ ZpC g'.2 seen ∧ Ss W (RrA b wl e m ws :: Znj b5 g'.2 :: Hs) w
       | .error f => X = .error f ∧ Ss W (RrD b f :: Znj b5 g'.2 :: Hs) w) ∧ (match g'.1 with
       | .ok (_, _, _, ws) => ws.length + 1
       | .error _ => 0) < (wdOf r :: xs).length + 1) (fun r w' => ParR W Hs r w' X)) := by
      intro w f hXf s
      unfold Zam.K2
      refine WP.draw' s (fun w s => ldID s (fun i => WP.mset (ck := cS) (cv := cI .i64) s 1 rfl hkey (fun w s => WP.next ⟨(.error f, kvs ++ [(r.s, i)]), ⟨hXf, s⟩, by simp⟩)))
     refine WP.ite (fun h => by cases h) (fun _ => WP.step (ZpX hb (fi + 1) ef r.s s) ?_)
     intro y w h
     cases hc : Zj3 e (strI r.s) m xs with
     | none =>
      rw [hc] at h hX
      obtain ⟨rfl, s⟩ := h
      refine WP.ite (fun _ => WP.step (Zd9 s (by decide) r.at_) ?_) (fun h => absurd (by decide) h)
      intro _ w s
      exact deadK2 hX.symm s
     | some Y =>
      rw [hc] at h hX
      obtain ⟨rfl, h⟩ := h
      refine WP.ite (fun h => absurd rfl h) (fun _ => ?_)
      cases Y with
      | error f => exact deadK2 hX.symm h
      | ok q =>
       obtain ⟨m', r'⟩ := q
       obtain ⟨c1, c2⟩ := Zqk hc
       have c1 : r'.length ≤ xs.length := c1
       unfold Zam.K2
       refine WP.draw' h (fun w s => ldI s (fun i (hi : i + r'.length = wl.length) => WP.mset (ck := cS) (cv := cI .i64) s 1 rfl hkey (fun w s => WP.next ⟨(.ok (fu, strI r.s :: seen, m', r'), kvs ++ [(r.s, (i : Int))]), ⟨hX, show r'.length < fu by omega, c2 hb, show r'.length < wl.length by omega, ZtY hs (by omega), s⟩, show r'.length + 1 < xs.length + 1 + 1 by omega⟩)))
   refine WP.mget (ck := cS) (cv := cI .i64) s 1 rfl (fun v hv => cont ?_) (fun h0 => cont ?_)
   ·exact ⟨fun _ => (hs.2 r.s).1 ⟨v, hv⟩, fun _ => hs.1 _ hv⟩
   ·refine ⟨fun h => absurd h (by decide), fun h => ?_⟩
    obtain ⟨v, hv⟩ := (hs.2 r.s).2 h
    exact absurd hv (h0 v)
theorem Zs3 {e : Int} {ws r : List Wd} {m : Zbf} (hh : Zqf e ws = .ok (m, r)) : B255 (m.Set, m.Clear) ∧ r.length < ws.length := by
 cases ws with
 | nil => cases hh
 | cons x xs =>
  rw [show Zqf e (x :: xs) = match idxT actN x.1 with
   | none => .error (160, x.2)
   | some a => match ZkB e a xs with
    | .error f => .error f
    | .ok (c, r) => match ZoH e r with
     | .error f => .error f
     | .ok (k, r) => .ok ({ zRl with Act := (a : Int) + 1, Class := c, Kind := k.1, Proto := k.2 }, r) from rfl] at hh
  split at hh
  ·cases hh
  ·split at hh
   ·cases hh
   ·rename_i a ha c r1 h1
    split at hh
    ·cases hh
    ·rename_i k r3 h3
     cases hh
     refine ⟨⟨by simp [zRl], by simp [zRl]⟩, ?_⟩
     have c1 : r1.length ≤ xs.length := by
      unfold ZkB at h1
      split at h1
      ·split at h1
       ·cases h1
        exact Nat.le_refl _
       ·rename_i r4 h4
        have := ZfS h4
        have := (Zl3 h1).1
        omega
      ·cases h1
       exact Nat.le_refl _
     have c2 : r.length ≤ r1.length := by
      cases r1 with
      | nil => cases h3
      | cons y ys =>
       rw [ZnC] at h3
       have pl : ∀ {kd : Int} {v : Wd} {zs : List Wd} {n : Int} {u : List Wd}, ZiM e kd v zs = .ok (n, u) → u.length ≤ zs.length := by
        intro kd v zs n u hp
        unfold ZiM at hp
        split at hp
        ·cases hp
        ·split at hp
         ·cases hp
          exact Nat.le_refl _
         ·exact Nat.le_of_lt (Zl3 hp).1
       split at h3
       ·cases h3
        simp
       ·split at h3
        ·split at h3
         ·split at h3
          ·cases h3
          ·rename_i h5
           have := pl h5
           cases h3
           simp
           omega
         ·cases h3
        ·unfold ZtI at h3
         split at h3
         ·cases h3
          simp
         ·split at h3
          ·split at h3
           ·cases h3
           ·rename_i h5
            have := pl h5
            cases h3
            simp
            omega
          ·cases h3
           simp
     simp only [List.length_cons]
     omega
theorem ZpE (s : Ss W Hs w) (ia : Nat) (ea : nth Hs ia = some (NmP 0 actB)) (ik : Nat) (ek : nth Hs ik = some (NmP 1 Zor)) (fi : Nat) (ef : nth Hs fi = some (NmP 2 Zju)) (t : ByteArray) :
  WP (Zam t) w (fun r w' => ParR W Hs r w' (Zt4 (strI t))) := by
 unfold Zam Zt4
 have hl := Zb4 t
 refine WP.slot' s (fun _ w s => WP.ite (fun h => WP.ret ?_) (fun h => ?_))
 ·rw [if_pos (show (strI t).length > 1024 by omega)]
  exact ⟨rfl, by decide, s⟩
 rw [if_neg (show ¬ (strI t).length > 1024 by omega)]
 refine WP.step (ZtF s t (by omega)) ?_
 intro r2 w h
 cases hx : lexM [] 0 (strI t) with
 | error p =>
  rw [hx] at h
  obtain ⟨h1, s⟩ := h
  have hp := Zoq _ _ _ _ (by omega) hx
  refine WP.ite (fun _ => WP.ret ?_) (fun h => absurd (by omega) h)
  rw [h1]
  exact ⟨rfl, show (160 : Int) ≠ 0 by decide, s⟩
 | ok ws =>
  rw [hx] at h
  show WP _ w (fun r w' => ParR W Hs r w' (match Zqf ((strI t).length : Int) ws with
   | .error f => .error f
   | .ok (m, r) => Zol ((strI t).length : Int) (ws.length + 1) [] m r))
  obtain ⟨h1, wl, sp, hw, s⟩ := h
  obtain ⟨l1, l2, l3⟩ := Zl5 _ _ _ _ hx
  refine WP.ite (fun h => absurd h (by omega)) (fun _ => ?_)
  have hrl := (s.vec_len (i := 0) rfl).1
  have hwl : wl.length = ws.length := by rw [← hw, List.length_map]
  have hok : WlOk wl := by
   refine ⟨by omega, fun r hr => ?_⟩
   have := l3 (wdOf r) (by rw [← hw]; exact List.mem_map.2 ⟨r, hr, rfl⟩)
   have h2 : (strI r.s).length ≤ 0 + (strI t).length := this
   rw [Zb4] at h2
   omega
  have s := s.vec_freeze
  refine WP.newv (c := Zbp) s (fun b w s => ?_)
  have s := (((s.mk0 (A := vec cRg Sl.nil [] []) Zdc).mk0 (A := vec cPfx Sl.nil [] []) Zdc))
  have s : Ss W (Zkb Za3 zSd :: (pts true (pt b 0) (cRr.enc ⟨r2.1, 0, (t.size : Int), ZaH, 0, 0⟩) :: rdS cWd false r2.1 wl :: Hs)) w := ZqN (j := Za3) (nt := false) (ns := []) (ps := []) (sp := []) (sp2 := []) rfl s
  have s := (((s.mk0 (A := vec cRg Sl.nil [] []) Zdc).mk0 (A := vec cPfx Sl.nil [] []) Zdc))
  have s : Ss W (Zkb Za3 zSd :: (Zkb Za3 zSd :: pts true (pt b 0) (cRr.enc ⟨r2.1, 0, (t.size : Int), ZaH, 0, 0⟩) :: rdS cWd false r2.1 wl :: Hs)) w := ZqN (j := Za3) (nt := false) (ns := []) (ps := []) (sp := []) (sp2 := []) rfl s
  have s : Ss W (RrHs b wl zRl ⟨r2.1, 0, (t.size : Int), ZaH, 0, 0⟩ ++ Hs) w := by
   have s := s.use [2, 2, 0, 0] rfl
   exact s
  have s : Ss W (RrA b wl ((strI t).length : Int) zRl ws :: Hs) w := ZlE (q := (⟨r2.1, 0, (t.size : Int), ZaH, 0, 0⟩, 0)) ⟨rfl, by simp only; omega, rfl, Nat.zero_le _, hok, by rw [List.drop_zero]; exact hw.symm, ZrS⟩ s
  refine WP.step (ZvB s ia ea ik ek) ?_
  intro _ w h
  cases hh : Zqf ((strI t).length : Int) ws with
  | error f =>
   rw [hh] at h
   refine WP.mkMap (ck := cS) (cv := cI .i64) (show Ss W (RrD b f :: Hs) w from h) (fun b5 w s => ?_)
   have s : Ss W (RrD b f :: Znj b5 [] :: Hs) w := by
    have s := s.use [1] rfl
    exact s
   -- the loop ends at once
   refine WP.loopG (γ := Unit) (fun _ (_ : Unit) w => Ss W (RrD b f :: Znj b5 [] :: Hs) w) (fun _ _ => 0) () s ?_
   clear s
   rintro _ _ w s
   show WP (Zam.L1 r2 b b5) w _
   unfold Zam.L1
   refine errD s (fun h => ?_)
   refine WP.step (R := fun y w' => y = false ∧ w = w') (WP.ite (fun h' => absurd h' h) (fun _ => WP.ret ⟨rfl, rfl⟩)) ?_
   rintro _ _ ⟨rfl, rfl⟩
   refine WP.ite (fun h => by cases h) (fun _ => WP.step (ZiN s) (fun r w h => WP.done ?_))
   obtain ⟨q1, q2, s⟩ := h
   exact ⟨q1, q2, s.drop⟩
  | ok q =>
   obtain ⟨m, r⟩ := q
   rw [hh] at h
   have hb := Zs3 hh
   refine WP.mkMap (ck := cS) (cv := cI .i64) (show Ss W (RrA b wl ((strI t).length : Int) m r :: Hs) w from h) (fun b5 w s => ?_)
   have s : Ss W (RrA b wl ((strI t).length : Int) m r :: Znj b5 [] :: Hs) w := by
    have s := s.use [1] rfl
    exact s
   exact Zo0 (by omega) fi ef (fuel := ws.length + 1) rfl (by omega) hb.1 (by omega) s
end
def Byts (l : List Zad) : Prop := ∀ p ∈ l, Byt p.IP.A.l
structure RdSd (L : List HP) (sd : Zaf) (m : ZeT) : Prop where
 no : sd.Not = m.Not
 byts : Byts m.nets
 rn : ∃ i A, nth L i = some A ∧ Rdb A cPfx sd.Nets m.nets
 rp : ∃ i A, nth L i = some A ∧ Rdb A cRg sd.Ports m.ports
theorem RdSd.push {L : List HP} {sd : Zaf} {m : ZeT} {A : HP} (r : RdSd L sd m) : RdSd (A :: L) sd m := by
 obtain ⟨h1, h2, ⟨i, B, e1, r1⟩, ⟨j, C, e2, r2⟩⟩ := r
 exact ⟨h1, h2, ⟨i + 1, B, e1, r1⟩, ⟨j + 1, C, e2, r2⟩⟩
structure RdR (L : List HP) (r : Zae) (m : Zbf) : Prop where
 sc : RSc r m
 from_ : RdSd L r.From m.From
 to_ : RdSd L r.To m.To
theorem RdR.push {L : List HP} {r : Zae} {m : Zbf} {A : HP} (h : RdR L r m) : RdR (A :: L) r m := ⟨h.sc, h.from_.push, h.to_.push⟩
section
variable {W w : World} {Hs : List HP}
theorem ZvI {sd : Zaf} {m : ZeT} (s : Ss W Hs w) (hl : sd.Ports.len = m.ports.length) (proto : Int) :
  WP (Zal.K1 sd proto) w (fun y w' => y = (if m.ports ≠ [] ∧ ZgW proto = false then 165 else 0) ∧ Ss W Hs w') := by
 unfold Zal.K1
 have hne : ((sd.Ports.len : Int) > 0) ↔ m.ports ≠ [] := by
  rw [hl]
  exact ⟨fun h h' => by rw [h'] at h; simp at h, fun h => by have := List.length_pos_iff.2 h; omega⟩
 refine WP.step (R := fun y w' => y = decide (m.ports ≠ [] ∧ ZgW proto = false) ∧ w = w') (WP.ite (fun h => WP.step (ZoY proto) ?_) (fun h => WP.ret ⟨?_, rfl⟩)) ?_
 ·rintro _ _ ⟨rfl, rfl⟩
  refine WP.ret ⟨?_, rfl⟩
  have h1 := hne.1 h
  cases hp : ZgW proto <;> simp [h1]
 ·exact (decide_eq_false (fun h' => h (hne.2 h'.1))).symm
 rintro _ _ ⟨rfl, rfl⟩
 refine WP.ite (fun h => WP.ret ⟨?_, s⟩) (fun h => WP.ret ⟨?_, s⟩)
 ·rw [if_pos (of_decide_eq_true h)]
 ·rw [if_neg (fun h' => h (decide_eq_true h'))]
theorem ZvH {sd : Zaf} {m : ZeT} (s : Ss W Hs w) {j : Nat} {B : HP} (e2 : nth Hs j = some B) (rb : Rdb B cRg sd.Ports m.ports) (proto : Int) :
  WP (Zal.K2 sd proto) w (fun y w' => y = (if m.ports.length > 16 then 164 else if ¬ (∀ r ∈ m.ports, ZjX r = true) then 164 else if m.ports ≠ [] ∧ ZgW proto = false then 165 else 0) ∧ Ss W Hs w') := by
 unfold Zal.K2
 have hl := (s.rd_len e2 rb).1
 refine WP.ite (fun h => WP.ret ⟨by rw [if_pos (by omega)], s⟩) (fun h => ?_)
 rw [if_neg (by omega)]
 refine WP.loopG (γ := Nat) (fun k (x : Int) w => x = (k : Int) ∧ k ≤ m.ports.length ∧ (∀ r ∈ m.ports.take k, ZjX r = true) ∧ Ss W Hs w) (fun k _ => m.ports.length - k) 0 ⟨rfl, Nat.zero_le _, by simp, s⟩ ?_
 clear s
 rintro k _ w ⟨rfl, hk, ha, s⟩
 show WP (Zal.L1 sd proto (k : Int)) w _
 unfold Zal.L1
 refine WP.ite (fun h => ?_) (fun h => ?_)
 ·have hk2 : k < m.ports.length := by omega
  have hx := List.getElem?_eq_getElem hk2
  have htake : m.ports.take (k + 1) = m.ports.take k ++ [m.ports[k]] := by
   rw [List.take_add_one, hx]
   rfl
  generalize m.ports[k] = x at hx htake
  refine WP.rdx s j e2 rb (by omega) (x := x) (by rw [Int.toNat_natCast]; exact hx) rfl (WP.slot' s (fun _ w s => ?_))
  refine WP.step (R := fun y w' => y = decide (x.Lo < 0 ∨ x.Hi > 65535) ∧ w = w') (WP.ite (fun h => WP.ret ⟨(decide_eq_true (.inl h)).symm, rfl⟩) (fun h => WP.ret ⟨decide_eq_decide.2 ⟨.inr, fun h' => h'.elim (fun h' => absurd h' h) id⟩, rfl⟩)) ?_
  rintro _ _ ⟨rfl, rfl⟩
  refine WP.step (R := fun y w' => y = !(ZjX x) ∧ w = w') (WP.ite (fun h => WP.ret ⟨?_, rfl⟩) (fun h => WP.ret ⟨?_, rfl⟩)) ?_
  ·unfold ZjX
   have h := of_decide_eq_true h
   rw [decide_eq_false (by omega)]
   rfl
  ·unfold ZjX
   have h : ¬ (x.Lo < 0 ∨ x.Hi > 65535) := fun h' => h (decide_eq_true h')
   rw [← decide_not]
   exact decide_eq_decide.2 (by omega)
  rintro _ _ ⟨rfl, rfl⟩
  cases hr : ZjX x with
  | false =>
   refine WP.ite (fun _ => WP.done ⟨?_, s⟩) (fun h => absurd rfl h)
   rw [if_pos (fun h' => by have := h' x (List.mem_of_getElem? hx); rw [hr] at this; cases this)]
  | true =>
   refine WP.ite (fun h => by cases h) (fun _ => WP.next ⟨k + 1, ⟨?_, hk2, ?_, s⟩, by omega⟩)
   ·rw [Zau (by omega) (by omega)]
    simp
   ·rw [htake]
    intro r hm
    rcases List.mem_append.1 hm with hm | hm
    ·exact ha r hm
    ·rw [List.mem_singleton.1 hm]
     exact hr
 ·have hk2 : k = m.ports.length := by omega
  rw [hk2, List.take_length] at ha
  refine WP.step (ZvI s hl proto) (fun y w h => WP.done ?_)
  rw [if_neg (fun h' => h' ha)]
  exact h
theorem ZlH {sd : Zaf} {m : ZeT} (s : Ss W Hs w) (r : RdSd Hs sd m) (kind proto : Int) :
  WP (Zal sd kind proto) w (fun y w' => y = ZgH m kind proto ∧ Ss W Hs w') := by
 obtain ⟨hno, hb, ⟨i, A, e, ra⟩, ⟨j, B, e2, rb⟩⟩ := r
 unfold Zal
 have hl := (s.rd_len e ra).1
 have hne : ((sd.Nets.len : Int) == 0) = decide (m.nets = []) := by
  rw [Bool.eq_iff_iff, beq_iff_eq, decide_eq_true_iff, hl, ← List.length_eq_zero_iff]
  omega
 refine WP.slot' s (fun _ w s => ?_)
 refine WP.step (R := fun y w' => y = decide (m.nets.length > 16 ∨ (m.Not = true ∧ m.nets = [])) ∧ w = w') (WP.ite (fun h => WP.ret ⟨(decide_eq_true (.inl (by omega))).symm, rfl⟩) (fun h => ?_)) ?_
 ·refine WP.step (R := fun y w' => y = decide (m.nets.length > 16 ∨ (m.Not = true ∧ m.nets = [])) ∧ w = w') (WP.ite (fun h2 => WP.ret ⟨?_, rfl⟩) (fun h2 => WP.ret ⟨?_, rfl⟩)) (fun y w h => WP.ret h)
  ·rw [hne]
   rw [hno] at h2
   exact decide_eq_decide.2 ⟨fun h' => .inr ⟨h2, h'⟩, fun h' => h'.elim (fun h' => absurd h' (by omega)) (fun h' => h'.2)⟩
  ·rw [hno] at h2
   exact (decide_eq_false (fun h' => h'.elim (fun h' => absurd h' (by omega)) (fun h' => h2 h'.1))).symm
 rintro _ _ ⟨rfl, rfl⟩
 unfold ZgH
 refine WP.ite (fun h => WP.ret ⟨by rw [if_pos (of_decide_eq_true h)], s⟩) (fun h => ?_)
 have h16 : ¬ (m.nets.length > 16 ∨ (m.Not = true ∧ m.nets = [])) := fun h' => h (decide_eq_true h')
 rw [if_neg h16]
 refine WP.loopG (γ := Nat) (fun k (x : Int) w => x = (k : Int) ∧ k ≤ m.nets.length ∧ (∀ p ∈ m.nets.take k, Zk9 p kind = true) ∧ Ss W Hs w) (fun k _ => m.nets.length - k) 0 ⟨rfl, Nat.zero_le _, by simp, s⟩ ?_
 clear s
 rintro k _ w ⟨rfl, hk, ha, s⟩
 show WP (Zal.L2 sd kind proto (k : Int)) w _
 unfold Zal.L2
 refine WP.ite (fun h => ?_) (fun h => ?_)
 ·have hk2 : k < m.nets.length := by omega
  have hx := List.getElem?_eq_getElem hk2
  have htake : m.nets.take (k + 1) = m.nets.take k ++ [m.nets[k]] := by
   rw [List.take_add_one, hx]
   rfl
  generalize m.nets[k] = x at hx htake
  refine WP.rdx s i e ra (by omega) (x := x) (by rw [Int.toNat_natCast]; exact hx) rfl (WP.slot' s (fun _ w s => WP.step (Zta s x (hb x (List.mem_of_getElem? hx)) kind) ?_))
  rintro _ w ⟨rfl, s⟩
  cases hr : Zk9 x kind with
  | false =>
   refine WP.ite (fun _ => WP.done ⟨?_, s⟩) (fun h => absurd (by decide) h)
   rw [if_pos (fun h' => by have := h' x (List.mem_of_getElem? hx); rw [hr] at this; cases this)]
  | true =>
   refine WP.ite (fun h => absurd rfl h) (fun _ => WP.next ⟨k + 1, ⟨?_, hk2, ?_, s⟩, by omega⟩)
   ·rw [Zau (by omega) (by omega)]
    simp
   ·rw [htake]
    intro r hm
    rcases List.mem_append.1 hm with hm | hm
    ·exact ha r hm
    ·rw [List.mem_singleton.1 hm]
     exact hr
 ·have hk2 : k = m.nets.length := by omega
  rw [hk2, List.take_length] at ha
  refine WP.step (ZvH s e2 rb proto) (fun y w h => WP.done ?_)
  rw [if_neg (fun h' => h' ha)]
  exact h
theorem Zmi (n lo hi : Int) : WP (Zb0 n lo hi) w (fun y w' => y = inR n lo hi ∧ w = w') := by
 unfold Zb0 inR
 refine WP.step (R := fun y w' => y = decide (lo ≤ n ∧ n ≤ hi) ∧ w = w') (WP.ite (fun h => WP.ret ⟨decide_eq_decide.2 ⟨fun h' => ⟨h, h'⟩, fun h' => h'.2⟩, rfl⟩) (fun h => WP.ret ⟨(decide_eq_false (fun h' => h h'.1)).symm, rfl⟩)) (fun y w h => WP.ret h)
theorem wand {β : Type} {a : Bool} {n lo hi : Int} {f : Bool → M β} {Q : β → World → Prop} (k : WP (f (a && inR n lo hi)) w Q) : WP ((if a = true then Zb0 n lo hi >>= fun r => pure r else pure false) >>= f) w Q := by
 refine WP.step (R := fun y w' => y = (a && inR n lo hi) ∧ w = w') (WP.ite (fun h => WP.step (Zmi n lo hi) ?_) (fun h => WP.ret ⟨?_, rfl⟩)) ?_
 ·rintro _ _ ⟨rfl, rfl⟩
  exact WP.ret ⟨by rw [h]; rfl, rfl⟩
 ·cases a
  ·rfl
  ·exact absurd rfl h
 rintro _ _ ⟨rfl, rfl⟩
 exact k
theorem Zn2 {r : Zae} {m : Zbf} (s : Ss W Hs w) (h : RdR Hs r m) (j : Bool) : WP (Za1.K1 r j) w (fun y w' => y = (if j = true then 165 else if ZgH m.From m.Kind m.Proto ≠ 0 then ZgH m.From m.Kind m.Proto else ZgH m.To m.Kind m.Proto) ∧ Ss W Hs w') := by
 unfold Za1.K1
 obtain ⟨⟨-, -, hk, hp, -⟩, hf, ht⟩ := h
 rw [hk, hp]
 refine WP.ite (fun h => WP.ret ⟨by rw [if_pos h], s⟩) (fun h => ?_)
 rw [if_neg h]
 refine WP.step (ZlH s hf m.Kind m.Proto) ?_
 rintro _ w ⟨rfl, s⟩
 refine WP.ite (fun h => WP.ret ⟨by rw [if_pos h], s⟩) (fun h => ?_)
 rw [if_neg h]
 refine WP.step (ZlH s ht m.Kind m.Proto) ?_
 rintro _ w ⟨rfl, s⟩
 exact WP.ret ⟨rfl, s⟩
theorem ZrI {r : Zae} {m : Zbf} (s : Ss W Hs w) (h : RdR Hs r m) (hs : 0 ≤ m.Set ∧ m.Set ≤ 255) (hc : 0 ≤ m.Clear ∧ m.Clear ≤ 255) (j : Bool) : WP (Za1.K2 r j) w (fun y w' => y = (if (j || decide (((m.Set ≠ 0 ∨ m.Clear ≠ 0) ∧ m.Proto ≠ 6) ∨ (m.Type_ ≠ 0 ∧ Zid m.Proto = false))) = true then 165 else if ZgH m.From m.Kind m.Proto ≠ 0 then ZgH m.From m.Kind m.Proto else ZgH m.To m.Kind m.Proto) ∧ Ss W Hs w') := by
 have h0 := h
 obtain ⟨⟨-, -, -, hp, -, -, e1, e2, e3, -⟩, -, -⟩ := h
 unfold Za1.K2
 rw [hp, e1, e2, e3]
 refine WP.ite (fun h => WP.ret ⟨by rw [h]; rfl, s⟩) (fun h => ?_)
 have hj : j = false := by cases j with
  | false => rfl
  | true => exact absurd rfl h
 subst hj
 rw [Bool.false_or]
 have hz := ZuL hs hc
 refine WP.step (R := fun y w' => y = decide ((m.Set ≠ 0 ∨ m.Clear ≠ 0) ∧ m.Proto ≠ 6) ∧ w = w') (WP.ite (fun h => WP.ret ⟨?_, rfl⟩) (fun h => WP.ret ⟨?_, rfl⟩)) ?_
 ·rw [Bool.eq_iff_iff, bne_iff_ne, decide_eq_true_iff]
  exact ⟨fun h' => ⟨hz.1 h, h'⟩, fun h' => h'.2⟩
 ·exact (decide_eq_false (fun h' => h (hz.2 h'.1))).symm
 rintro _ _ ⟨rfl, rfl⟩
 refine WP.ite (fun h => ?_) (fun h => ?_)
 ·have h' := of_decide_eq_true h
  refine (Zn2 s h0 _).mono ?_
  rintro y w ⟨rfl, s⟩
  rw [if_pos h, if_pos (decide_eq_true (.inl h'))]
  exact ⟨rfl, s⟩
 ·have h' : ¬ ((m.Set ≠ 0 ∨ m.Clear ≠ 0) ∧ m.Proto ≠ 6) := fun h' => h (decide_eq_true h')
  refine WP.step (R := fun y w' => y = decide (((m.Set ≠ 0 ∨ m.Clear ≠ 0) ∧ m.Proto ≠ 6) ∨ (m.Type_ ≠ 0 ∧ Zid m.Proto = false)) ∧ w = w') (WP.ite (fun h2 => WP.step (Zqy m.Proto) ?_) (fun h2 => WP.ret ⟨?_, rfl⟩)) ?_
  ·rintro _ _ ⟨rfl, rfl⟩
   refine WP.ret ⟨?_, rfl⟩
   cases ht : Zid m.Proto with
   | false => exact (decide_eq_true (.inr ⟨h2, rfl⟩)).symm
   | true => exact (decide_eq_false (fun h3 => h3.elim h' (fun h3 => by cases h3.2))).symm
  ·exact (decide_eq_false (fun h3 => h3.elim h' (fun h3 => h2 h3.1))).symm
  rintro _ _ ⟨rfl, rfl⟩
  exact Zn2 s h0 _
theorem ZoD {r : Zae} {m : Zbf} (s : Ss W Hs w) (h : RdR Hs r m) : WP (Za1 r) w (fun y w' => y = ckM m ∧ Ss W Hs w') := by
 have h0 := h
 obtain ⟨⟨c1, c2, c3, c4, c5, c6, c7, c8, c9, c10⟩, -, -⟩ := h
 unfold Za1
 rw [c1, c2, c3, c4, c5, c6, c7, c8, c9]
 refine WP.slot' s (fun _ w s => WP.step (Zmi m.Act 1 3) ?_)
 rintro _ _ ⟨rfl, rfl⟩
 refine wand (wand (wand (wand (wand (wand (wand (wand ?_)))))))
 have hf : ∀ {a : Bool}, (a = true → (0 ≤ m.Set ∧ m.Set ≤ 255) ∧ (0 ≤ m.Clear ∧ m.Clear ≤ 255)) → ((if a = true then pure (band .i64 m.Set m.Clear == 0) else pure false : M Bool)) = pure (a && !ZqB m.Set m.Clear) := by
  intro a ha
  cases a with
  | false => rfl
  | true =>
   have := ZrM (ha rfl).1 (ha rfl).2
   rw [if_pos rfl, Bool.true_and]
   congr 1
   rw [Bool.eq_iff_iff, beq_iff_eq, this]
   simp
 rw [hf (fun h => by
  simp only [Bool.and_eq_true, inR, decide_eq_true_iff] at h
  exact ⟨h.1.1.2, h.1.2⟩)]
 refine WP.step (R := fun y w' => y = ZrG m ∧ w = w') (WP.ret ⟨rfl, rfl⟩) ?_
 rintro _ _ ⟨rfl, rfl⟩
 unfold ckM
 cases hfm : ZrG m with
 | false => exact WP.ite (fun _ => WP.ret ⟨rfl, s⟩) (fun h => absurd (by decide) h)
 | true =>
  rw [if_neg (show ¬ (true = false) by decide)]
  refine WP.ite (fun h => absurd rfl h) (fun _ => ?_)
  have hb : (0 ≤ m.Set ∧ m.Set ≤ 255) ∧ (0 ≤ m.Clear ∧ m.Clear ≤ 255) := by
   unfold ZrG at hfm
   simp only [Bool.and_eq_true, inR, decide_eq_true_iff] at hfm
   exact ⟨hfm.1.1.1.2, hfm.1.1.2⟩
  have fin : ∀ {w : World} {j : Bool}, Ss W Hs w → (j = decide ((m.Class ≠ 0 ∧ m.Act ≠ 1) ∨ (m.Proto ≠ 0 ∧ m.Kind = 1))) → WP (Za1.K2 r j) w (fun y w' => y = (if Zq2 m = true then 165 else if ZgH m.From m.Kind m.Proto ≠ 0 then ZgH m.From m.Kind m.Proto else ZgH m.To m.Kind m.Proto) ∧ Ss W Hs w') := by
   intro w j s hj
   have hcl : Zq2 m = (j || decide (((m.Set ≠ 0 ∨ m.Clear ≠ 0) ∧ m.Proto ≠ 6) ∨ (m.Type_ ≠ 0 ∧ Zid m.Proto = false))) := by
    rw [hj]
    unfold Zq2
    rw [Bool.eq_iff_iff]
    simp only [Bool.or_eq_true, decide_eq_true_iff]
    exact ⟨fun h => h.elim (fun h => .inl (.inl h)) (fun h => h.elim (fun h => .inl (.inr h)) .inr), fun h => h.elim (fun h => h.elim .inl (fun h => .inr (.inl h))) (fun h => .inr (.inr h))⟩
   rw [hcl]
   exact ZrI s h0 hb.1 hb.2 j
  refine WP.step (R := fun y w' => y = decide (m.Class ≠ 0 ∧ m.Act ≠ 1) ∧ w = w') (WP.ite (fun h => WP.ret ⟨?_, rfl⟩) (fun h => WP.ret ⟨?_, rfl⟩)) ?_
  ·rw [Bool.eq_iff_iff, bne_iff_ne, decide_eq_true_iff]
   exact ⟨fun h' => ⟨h, h'⟩, fun h' => h'.2⟩
  ·exact (decide_eq_false (fun h' => h h'.1)).symm
  rintro _ _ ⟨rfl, rfl⟩
  refine WP.ite (fun h => fin s ?_) (fun h => ?_)
  ·rw [h, decide_eq_true (.inl (of_decide_eq_true h))]
  ·have h' : ¬ (m.Class ≠ 0 ∧ m.Act ≠ 1) := fun h' => h (decide_eq_true h')
   refine WP.step (R := fun y w' => y = decide ((m.Class ≠ 0 ∧ m.Act ≠ 1) ∨ (m.Proto ≠ 0 ∧ m.Kind = 1)) ∧ w = w') (WP.ite (fun h => WP.ret ⟨?_, rfl⟩) (fun h => WP.ret ⟨?_, rfl⟩)) ?_
   ·rw [Bool.eq_iff_iff, beq_iff_eq, decide_eq_true_iff]
    exact ⟨fun h2 => .inr ⟨h, h2⟩, fun h2 => h2.elim (fun h2 => absurd h2 h') (fun h2 => h2.2)⟩
   ·exact (decide_eq_false (fun h2 => h2.elim h' (fun h2 => h h2.1))).symm
   rintro _ _ ⟨rfl, rfl⟩
   exact fin s rfl
end
section
variable {W w : World} {Hs : List HP}
theorem Zkg {α : Type} {l : List α} {k : Nat} {x : α} (hx : l[k]? = some x) : l.take (k + 1) = l.take k ++ [x] := by
 rw [List.take_add_one, hx]
 rfl
theorem Zvg {a b : Zaf} {ma mb : ZeT} (s : Ss W Hs w) (i : Nat) {A B : HP} (e : nth Hs i = some A) (ra : Rdb A cRg a.Ports ma.ports) (j : Nat) (e2 : nth Hs j = some B) (rb : Rdb B cRg b.Ports mb.ports) (hl : ma.ports.length = mb.ports.length) (hm : ma.ports.length ≤ 9000000000000) :
  WP (Zah.K1 a b) w (fun y w' => y = decide (ma.ports = mb.ports) ∧ Ss W Hs w') := by
 unfold Zah.K1
 have h1 := (s.rd_len e ra).1
 refine WP.loopG (γ := Nat) (fun k (x : Int) w => x = (k : Int) ∧ k ≤ ma.ports.length ∧ ma.ports.take k = mb.ports.take k ∧ Ss W Hs w) (fun k _ => ma.ports.length - k) 0 ⟨rfl, Nat.zero_le _, rfl, s⟩ ?_
 clear s
 rintro k _ w ⟨rfl, hk, ha, s⟩
 show WP (Zah.L1 a b (k : Int)) w _
 unfold Zah.L1
 refine WP.ite (fun h => WP.draw' s (fun w s => ?_)) (fun h => ?_)
 ·have hk2 : k < ma.ports.length := by omega
  have hx := List.getElem?_eq_getElem hk2
  have hy := List.getElem?_eq_getElem (show k < mb.ports.length by omega)
  generalize ma.ports[k] = x at hx
  generalize mb.ports[k]'(show k < mb.ports.length by omega) = y at hy
  refine WP.rdx s i e ra (by omega) (x := x) (by rw [Int.toNat_natCast]; exact hx) rfl (WP.rdx s j e2 rb (by omega) (x := y) (by rw [Int.toNat_natCast]; exact hy) rfl (WP.ite (fun hn => WP.done ⟨?_, s⟩) (fun hn => ?_)))
  ·refine (decide_eq_false (fun h' => hn ?_)).symm
   rw [h', hy] at hx
   exact (Option.some.inj hx).symm
  ·refine WP.next ⟨k + 1, ⟨?_, hk2, ?_, s⟩, by omega⟩
   ·rw [Zau (by omega) (by omega)]
    simp
   ·rw [Zkg hx, Zkg hy, ha, Decidable.not_not.1 hn]
 ·have hk2 : k = ma.ports.length := by omega
  refine WP.done ⟨(decide_eq_true ?_).symm, s⟩
  rw [hk2, List.take_length, hl, List.take_length] at ha
  exact ha
theorem Znk {a b : Zaf} {ma mb : ZeT} (s : Ss W Hs w) (r1 : RdSd Hs a ma) (r2 : RdSd Hs b mb) (hn6 : ma.nets.length ≤ 9000000000000) (hp6 : ma.ports.length ≤ 9000000000000) : WP (Zah a b) w (fun y w' => y = decide (ma = mb) ∧ Ss W Hs w') := by
 obtain ⟨no1, -, ⟨i1, A1, e1, n1⟩, ⟨j1, B1, f1, p1⟩⟩ := r1
 obtain ⟨no2, -, ⟨i2, A2, e2, n2⟩, ⟨j2, B2, f2, p2⟩⟩ := r2
 unfold Zah
 have l1 := (s.rd_len e1 n1).1
 have l2 := (s.rd_len e2 n2).1
 have l3 := (s.rd_len f1 p1).1
 have l4 := (s.rd_len f2 p2).1
 have hm : ma = mb ↔ ma.Not = mb.Not ∧ ma.nets = mb.nets ∧ ma.ports = mb.ports := by
  cases ma
  cases mb
  simp
 rw [no1, no2]
 refine WP.slot' s (fun _ w s => WP.slot' s (fun _ w s => ?_))
 refine WP.step (R := fun y w' => y = !decide (ma.Not = mb.Not ∧ ma.nets.length = mb.nets.length) ∧ w = w') (WP.ite (fun h => WP.ret ⟨?_, rfl⟩) (fun h => WP.ret ⟨?_, rfl⟩)) ?_
 ·rw [decide_eq_false (fun h' => h h'.1)]
  rfl
 ·have h := Decidable.not_not.1 h
  by_cases h2 : ma.nets.length = mb.nets.length
  ·rw [decide_eq_true ⟨h, h2⟩, l1, l2, h2]
   simp
  ·rw [decide_eq_false (fun h' => h2 h'.2), Bool.not_false, bne_iff_ne]
   omega
 rintro _ _ ⟨rfl, rfl⟩
 refine WP.step (R := fun y w' => y = !decide (ma.Not = mb.Not ∧ ma.nets.length = mb.nets.length ∧ ma.ports.length = mb.ports.length) ∧ w = w') (WP.ite (fun h => WP.ret ⟨?_, rfl⟩) (fun h => WP.ret ⟨?_, rfl⟩)) ?_
 ·have h : ¬ (ma.Not = mb.Not ∧ ma.nets.length = mb.nets.length) := fun h' => by
   rw [decide_eq_true h'] at h
   cases h
  rw [decide_eq_false (fun h' => h ⟨h'.1, h'.2.1⟩)]
  rfl
 ·have h : ma.Not = mb.Not ∧ ma.nets.length = mb.nets.length := Decidable.byContradiction fun h' => h (by rw [decide_eq_false h']; rfl)
  by_cases h2 : ma.ports.length = mb.ports.length
  ·rw [decide_eq_true ⟨h.1, h.2, h2⟩, l3, l4, h2]
   simp
  ·rw [decide_eq_false (fun h' => h2 h'.2.2), Bool.not_false, bne_iff_ne]
   omega
 rintro _ _ ⟨rfl, rfl⟩
 refine WP.ite (fun h => WP.ret ⟨?_, s⟩) (fun h => ?_)
 ·refine (decide_eq_false (fun h' => ?_)).symm
  rw [h', decide_eq_true ⟨rfl, rfl, rfl⟩] at h
  cases h
 have h : ma.Not = mb.Not ∧ ma.nets.length = mb.nets.length ∧ ma.ports.length = mb.ports.length := Decidable.byContradiction fun h' => h (by rw [decide_eq_false h']; rfl)
 obtain ⟨hn, hl, hp⟩ := h
 refine WP.loopG (γ := Nat) (fun k (x : Int) w => x = (k : Int) ∧ k ≤ ma.nets.length ∧ ma.nets.take k = mb.nets.take k ∧ Ss W Hs w) (fun k _ => ma.nets.length - k) 0 ⟨rfl, Nat.zero_le _, rfl, s⟩ ?_
 clear s
 rintro k _ w ⟨rfl, hk, ha, s⟩
 show WP (Zah.L2 a b (k : Int)) w _
 unfold Zah.L2
 refine WP.ite (fun h => WP.draw' s (fun w s => ?_)) (fun h => ?_)
 ·have hk2 : k < ma.nets.length := by omega
  have hx := List.getElem?_eq_getElem hk2
  have hy := List.getElem?_eq_getElem (show k < mb.nets.length by omega)
  generalize ma.nets[k] = x at hx
  generalize mb.nets[k]'(show k < mb.nets.length by omega) = y at hy
  refine WP.rdx s i1 e1 n1 (by omega) (x := x) (by rw [Int.toNat_natCast]; exact hx) rfl (WP.rdx s i2 e2 n2 (by omega) (x := y) (by rw [Int.toNat_natCast]; exact hy) rfl (WP.ite (fun hn => WP.done ⟨?_, s⟩) (fun hn => ?_)))
  ·refine (decide_eq_false (fun h' => hn ?_)).symm
   rw [h', hy] at hx
   exact (Option.some.inj hx).symm
  ·refine WP.next ⟨k + 1, ⟨?_, hk2, ?_, s⟩, by omega⟩
   ·rw [Zau (by omega) (by omega)]
    simp
   ·rw [Zkg hx, Zkg hy, ha, Decidable.not_not.1 hn]
 ·have hk2 : k = ma.nets.length := by omega
  rw [hk2, List.take_length, hl, List.take_length] at ha
  refine WP.step (Zvg s j1 f1 p1 j2 f2 p2 hp hp6) ?_
  rintro _ w ⟨rfl, s⟩
  refine WP.done ⟨decide_eq_decide.2 ?_, s⟩
  rw [hm]
  exact ⟨fun h => ⟨hn, ha, h⟩, fun h => h.2.2⟩
theorem ror {β : Type} {p : Prop} [Decidable p] {x y : Int} {f : Bool → M β} {Q : β → World → Prop} {a : Bool} (ha : (a = true) ↔ p) (k : WP (f (decide (p ∨ x ≠ y))) w Q) : WP ((if a = true then pure true else pure (x != y)) >>= f) w Q := by
 have : ((if a = true then pure true else pure (x != y)) : M Bool) = pure (decide (p ∨ x ≠ y)) := by
  by_cases h : a = true
  ·rw [if_pos h, decide_eq_true (.inl (ha.1 h))]
  ·rw [if_neg h]
   congr 1
   rw [Bool.eq_iff_iff, bne_iff_ne, decide_eq_true_iff]
   exact ⟨.inr, fun h' => h'.elim (fun h' => absurd (ha.2 h') h) id⟩
 rw [this]
 refine WP.step (R := fun y' w' => y' = decide (p ∨ x ≠ y) ∧ w = w') (WP.ret ⟨rfl, rfl⟩) ?_
 rintro _ _ ⟨rfl, rfl⟩
 exact k
theorem ror0 {β : Type} {x y u v : Int} {f : Bool → M β} {Q : β → World → Prop} (k : WP (f (decide (u ≠ v ∨ x ≠ y))) w Q) : WP ((if u ≠ v then pure true else pure (x != y)) >>= f) w Q := by
 have : ((if u ≠ v then pure true else pure (x != y)) : M Bool) = pure (decide (u ≠ v ∨ x ≠ y)) := by
  by_cases h : u ≠ v
  ·rw [if_pos h, decide_eq_true (.inl h)]
  ·rw [if_neg h]
   congr 1
   rw [Bool.eq_iff_iff, bne_iff_ne, decide_eq_true_iff]
   exact ⟨.inr, fun h' => h'.elim (fun h' => absurd h' h) id⟩
 rw [this]
 refine WP.step (R := fun y' w' => y' = decide (u ≠ v ∨ x ≠ y) ∧ w = w') (WP.ret ⟨rfl, rfl⟩) ?_
 rintro _ _ ⟨rfl, rfl⟩
 exact k
theorem ZvV {a b : Zae} {ma mb : Zbf} (s : Ss W Hs w) (r1 : RdR Hs a ma) (r2 : RdR Hs b mb) (hl : (ma.From.nets.length ≤ 9000000000000 ∧ ma.From.ports.length ≤ 9000000000000) ∧ ma.To.nets.length ≤ 9000000000000 ∧ ma.To.ports.length ≤ 9000000000000) : WP (Zeg a b) w (fun y w' => y = decide (ma = mb) ∧ Ss W Hs w') := by
 obtain ⟨⟨c1, c2, c3, c4, c5, c6, c7, c8, c9, c10⟩, f1, t1⟩ := r1
 obtain ⟨⟨d1, d2, d3, d4, d5, d6, d7, d8, d9, d10⟩, f2, t2⟩ := r2
 have hm : ma = mb ↔ (ma.Act = mb.Act ∧ ma.Class = mb.Class ∧ ma.Kind = mb.Kind ∧ ma.Proto = mb.Proto ∧ ma.In = mb.In ∧ ma.Vid = mb.Vid) ∧ (ma.Set = mb.Set ∧ ma.Clear = mb.Clear ∧ ma.Type_ = mb.Type_ ∧ ma.Pieces = mb.Pieces) ∧ ma.From = mb.From ∧ ma.To = mb.To := by
  cases ma
  cases mb
  simp only [Zbf.mk.injEq]
  exact ⟨fun ⟨h1, h2, h3, h4, h5, h6, h7, h8, h9, h10, h11, h12⟩ => ⟨⟨h1, h2, h3, h4, h5, h6⟩, ⟨h9, h10, h11, h12⟩, h7, h8⟩, fun ⟨⟨h1, h2, h3, h4, h5, h6⟩, ⟨h9, h10, h11, h12⟩, h7, h8⟩ => ⟨h1, h2, h3, h4, h5, h6, h7, h8, h9, h10, h11, h12⟩⟩
 unfold Zeg
 rw [c1, c2, c3, c4, c5, c6, c7, c8, c9, c10, d1, d2, d3, d4, d5, d6, d7, d8, d9, d10]
 refine WP.slot' s (fun _ w s => WP.slot' s (fun _ w s => ror0 (ror decide_eq_true_iff (ror decide_eq_true_iff (ror decide_eq_true_iff (ror decide_eq_true_iff ?_))))))
 refine WP.ite (fun h => WP.ret ⟨?_, s⟩) (fun h => ror0 (ror decide_eq_true_iff ?_))
 ·have h := of_decide_eq_true h
  refine (decide_eq_false (fun h' => ?_)).symm
  obtain ⟨⟨a1, a2, a3, a4, a5, a6⟩, -, -⟩ := hm.1 h'
  rcases h with ((((h | h) | h) | h) | h) | h
  ·exact h a1
  ·exact h a2
  ·exact h a3
  ·exact h a4
  ·exact h a5
  ·exact h a6
 have h1 : ma.Act = mb.Act ∧ ma.Class = mb.Class ∧ ma.Kind = mb.Kind ∧ ma.Proto = mb.Proto ∧ ma.In = mb.In ∧ ma.Vid = mb.Vid := by
  have h : ¬ (((((ma.Act ≠ mb.Act ∨ ma.Class ≠ mb.Class) ∨ ma.Kind ≠ mb.Kind) ∨ ma.Proto ≠ mb.Proto) ∨ ma.In ≠ mb.In) ∨ ma.Vid ≠ mb.Vid) := fun h' => h (decide_eq_true h')
  omega
 refine WP.step (R := fun y w' => y = decide (((ma.Set ≠ mb.Set ∨ ma.Clear ≠ mb.Clear) ∨ ma.Type_ ≠ mb.Type_) ∨ ma.Pieces ≠ mb.Pieces) ∧ w = w') (WP.ite (fun h => WP.ret ⟨(decide_eq_true (.inl (of_decide_eq_true h))).symm, rfl⟩) (fun h => WP.ret ⟨?_, rfl⟩)) ?_
 ·have h : ¬ ((ma.Set ≠ mb.Set ∨ ma.Clear ≠ mb.Clear) ∨ ma.Type_ ≠ mb.Type_) := fun h' => h (decide_eq_true h')
  by_cases hp : ma.Pieces = mb.Pieces
  ·rw [decide_eq_false (fun h' => h'.elim h (fun h' => h' hp)), hp]
   simp
  ·rw [decide_eq_true (.inr hp)]
   simp [hp]
 rintro _ _ ⟨rfl, rfl⟩
 refine WP.ite (fun h => WP.ret ⟨?_, s⟩) (fun h => WP.step (Znk s f1 f2 hl.1.1 hl.1.2) ?_)
 ·have h := of_decide_eq_true h
  refine (decide_eq_false (fun h' => ?_)).symm
  obtain ⟨-, ⟨a1, a2, a3, a4⟩, -⟩ := hm.1 h'
  rcases h with ((h | h) | h) | h
  ·exact h a1
  ·exact h a2
  ·exact h a3
  ·exact h a4
 have h2 : ma.Set = mb.Set ∧ ma.Clear = mb.Clear ∧ ma.Type_ = mb.Type_ ∧ ma.Pieces = mb.Pieces := by
  have h : ¬ (((ma.Set ≠ mb.Set ∨ ma.Clear ≠ mb.Clear) ∨ ma.Type_ ≠ mb.Type_) ∨ ma.Pieces ≠ mb.Pieces) := fun h' => h (decide_eq_true h')
  refine ⟨by omega, by omega, by omega, ?_⟩
  exact Decidable.byContradiction fun h' => h (.inr h')
 rintro _ w ⟨rfl, s⟩
 refine WP.step (R := fun y w' => y = decide (ma = mb) ∧ Ss W Hs w') (WP.ite (fun h => WP.step (Znk s t1 t2 hl.2.1 hl.2.2) ?_) (fun h => WP.ret ⟨?_, s⟩)) (fun y w h => WP.ret h)
 ·rintro _ w ⟨rfl, s⟩
  refine WP.ret ⟨decide_eq_decide.2 ?_, s⟩
  rw [hm]
  exact ⟨fun h' => ⟨h1, h2, of_decide_eq_true h, h'⟩, fun h' => h'.2.2.2⟩
 ·exact (decide_eq_false (fun h' => h (decide_eq_true (hm.1 h').2.2.1))).symm
end
theorem Zpx {l : List Int} (h : l.all (fun x => decide (0 ≤ x ∧ x ≤ 255)) = true) : Byt l := fun x hx => of_decide_eq_true (List.all_eq_true.1 h x hx)
theorem Zwj {l : List (List Int)} (h : ∀ x ∈ l, Byt x) : (l.map bstr).map strI = l := by
 rw [List.map_map]
 conv => rhs; rw [← List.map_id l]
 exact List.map_congr_left (fun x hx => Zmo (h x hx))
theorem ZnV {l : List (List Int)} (hl : l.length ≤ 100) (h : ∀ x ∈ l, x.length ≤ 100) : (ZmI [44] l).length ≤ 10100 := by
 have := Zpd (sep := [44]) h
 simp only [List.length_cons, List.length_nil] at this
 have : l.length * 101 ≤ 100 * 101 := Nat.mul_le_mul_right _ hl
 omega
theorem ZuS {i : Nat} (h : i < 3) : actB[i]? = some (bstr (actN.getD i [])) := by
 unfold actB
 rw [List.getElem?_map]
 match i, h with
 | 0, _ => rfl
 | 1, _ => rfl
 | 2, _ => rfl
theorem ZwV : str2 = bstr (tx "tcp") := by decide +kernel
theorem Zwx : ZpO = bstr (tx "from") := by decide +kernel
theorem c_to : Zsa = bstr (tx "to") := by decide +kernel
theorem ZvK : ByteArray.empty = bstr [] := by decide +kernel
section
variable {W w : World} {Hs : List HP}
theorem Zwi {β : Type} {g : Nat} {l : List ByteArray} {k : Int} {x : ByteArray} {F : ByteArray → M β} {Q : β → World → Prop} (s : Ss W Hs w) (i : Nat) (e : nth Hs i = some (NmP g l)) (h0 : 0 ≤ k) (hx : l[k.toNat]? = some x) (K : WP (F x) w Q) :
  WP (ld cL ⟨g, 0, none⟩ >>= fun y => idx y.a y.len k 1 >>= fun p => ld cS p >>= F) w Q := by
 obtain ⟨sl, -, s1⟩ := (s.dup e Ro.nmP).openx 0 rfl
 have s1 : Ss W (pts false ⟨g, 0, none⟩ (cL.enc sl) :: rdS cS false sl l :: Hs) w := Ss.split (l := [_, _]) s1
 exact WP.ld (x := sl) s1 0 rfl (o := 0) (by simp [Addr.add]) (At.whole _) (WP.rdx s1 1 rfl ZbD h0 hx rfl K)
theorem ZqT {sl : Sl} {ts : List (List Int)} {sp : List ByteArray} (s : Ss W Hs w) (i : Nat) (e : nth Hs i = some (vec cS sl (ts.map bstr) sp)) (hl : ts.length ≤ 100) (ht : ∀ x ∈ ts, x.length ≤ 100 ∧ Byt x) :
  WP (Zas sl str1) w (fun y w' => y = bstr (ZmI [44] ts) ∧ Ss W Hs w') := by
 have hv := s.vec_len (i := i) e
 refine (ZtB s i e Zc3 (by omega) (by rw [List.length_map]; exact hl) (fun x hx => ?_) (by decide +kernel)).mono ?_
 ·obtain ⟨y, hy, rfl⟩ := List.mem_map.1 hx
  rw [Zg0]
  exact (ht y hy).1
 ·rintro y w ⟨rfl, s⟩
  rw [Zwj (fun x hx => (ht x hx).2), show strI str1 = [44] by decide +kernel]
  exact ⟨rfl, s⟩
theorem chkb {β : Type} {a b : List Int} {f : Unit → M β} {Q : β → World → Prop} (ha : a.length ≤ 1000000) (hb : b.length ≤ 1000000) (k : WP (f ()) w Q) : WP (chk ((((bstr a).size + (bstr b).size : Nat) : Int) ≤ 9223372036854775807) >>= f) w Q :=
 WP.chk (by rw [Zg0, Zg0]; omega) k
theorem Zww : ZtR = bstr (tx " port ") := by decide +kernel
theorem c_sp : ZhX = bstr [32] := by decide +kernel
theorem Zwy : str8 = bstr (tx "any") := by decide +kernel
def Zsw (ts : List (List Int)) : List Int := if ts = [] then [] else tx " port " ++ ZmI [44] ts
theorem ZnF {sl : Sl} {ts : List (List Int)} {sp : List ByteArray} {J : List Int} (s : Ss W Hs w) (i : Nat) (e : nth Hs i = some (vec cS sl (ts.map bstr) sp)) (hl : ts.length ≤ 16) (ht : ∀ x ∈ ts, x.length ≤ 100 ∧ Byt x) (hJ : J.length ≤ 100000) :
  WP (Zax.K1 sl (bstr J)) w (fun y w' => y = bstr (J ++ Zsw ts) ∧ Ss W Hs w') := by
 unfold Zax.K1 Zsw
 have hv := (s.vec_len (i := i) e).1
 rw [List.length_map] at hv
 refine WP.ite (fun h => ?_) (fun h => WP.ret ⟨?_, s⟩)
 ·rw [if_neg (fun h' => by rw [h'] at hv; simp only [List.length_nil] at hv; omega)]
  refine WP.step (ZqT s i e (by omega) ht) ?_
  rintro _ w ⟨rfl, s⟩
  have hj := ZnV (l := ts) (by omega) (fun x hx => (ht x hx).1)
  rw [Zww]
  refine chkb (by decide) (by omega) ?_
  rw [catb]
  refine chkb (by omega) (by rw [List.length_append]; have : (tx " port ").length = 6 := rfl; omega) (WP.ret ⟨?_, s⟩)
  rw [catb]
 ·rw [if_pos (List.length_eq_zero_iff.1 (by omega)), List.append_nil]
def netL : List Int := tx "10.0.0.0/8"
def Zsz : List Int := tx "80"
def netX : Zad := ⟨⟨4, ⟨[10, 0, 0, 0, 0, 0, 0, 0, 0, 0, 0, 0, 0, 0, 0, 0], rfl⟩⟩, 8⟩
structure One (m : ZeT) : Prop where
 nets : ∀ p ∈ m.nets, p = netX
 ports : ∀ r ∈ m.ports, r = ⟨80, 80⟩
 n1 : m.nets.length + m.ports.length = 1
 no : m.Not = false
def oneS (nm : List Int) (ns ts : List (List Int)) : List Int := [32] ++ nm ++ [32] ++ (if ns = [] then tx "any" else ZmI [44] ns) ++ Zsw ts
theorem Zvm : ∀ k : Nat, ∀ x ∈ List.replicate k netL, x.length ≤ 100 ∧ Byt x := fun k x hx => by
 rw [(List.mem_replicate.1 hx).2]
 exact ⟨by decide, Zpx (by decide)⟩
theorem Zua : ∀ k : Nat, ∀ x ∈ List.replicate k Zsz, x.length ≤ 100 ∧ Byt x := fun k x hx => by
 rw [(List.mem_replicate.1 hx).2]
 exact ⟨by decide, Zpx (by decide)⟩
theorem Zue {a1 : Zaf} {nm : List Int} {s2 s18 : Sl} {ns ts : List (List Int)} {sp sp2 : List ByteArray} (s : Ss W Hs w) (hno : a1.Not = false) (i : Nat) (e : nth Hs i = some (vec cS s2 (ns.map bstr) sp)) (j : Nat) (e2 : nth Hs j = some (vec cS s18 (ts.map bstr) sp2))
  (hn : ns.length ≤ 16) (hl : ts.length ≤ 16) (hns : ∀ x ∈ ns, x.length ≤ 100 ∧ Byt x) (ht : ∀ x ∈ ts, x.length ≤ 100 ∧ Byt x) (hnm : nm.length ≤ 10) :
  WP (Zax.K2 (bstr nm) a1 s2 s18) w (fun y w' => y = bstr (oneS nm ns ts) ∧ Ss W Hs w') := by
 unfold Zax.K2 oneS
 have hv := (s.vec_len (i := i) e).1
 rw [List.length_map] at hv
 rw [c_sp]
 refine chkb (by decide) (by omega) ?_
 rw [catb]
 refine chkb (by rw [List.length_append]; simp only [List.length_cons, List.length_nil]; omega) (by decide) ?_
 rw [catb]
 have hh : ([32] ++ nm ++ [32]).length ≤ 12 := by simp only [List.length_append, List.length_cons, List.length_nil]; omega
 have hj := ZnV (l := ns) (by omega) (fun x hx => (hns x hx).1)
 refine WP.ite (fun h => ?_) (fun h => ?_)
 ·rw [if_pos (List.length_eq_zero_iff.1 (by omega)), Zwy]
  refine chkb (by omega) (by decide) ?_
  rw [catb]
  exact ZnF s j e2 hl ht (by rw [List.length_append]; have : (tx "any").length = 3 := rfl; omega)
 ·rw [if_neg (show ¬ ns = [] from fun h' => by rw [h'] at hv; simp only [List.length_nil] at hv; omega), hno]
  refine WP.ite (fun h2 => by cases h2) (fun h2 => WP.step (ZqT s i e (by omega) hns) ?_)
  rintro _ w ⟨rfl, s⟩
  refine chkb (by omega) (by omega) ?_
  rw [catb]
  exact ZnF s j e2 hl ht (by rw [List.length_append]; omega)
theorem Zud {a1 : Zaf} {m : ZeT} {nm : List Int} {s2 : Sl} {sp : List ByteArray} {n : Nat} (hn16 : n ≤ 16) (s : Ss W (vec cS s2 ((List.replicate n netL).map bstr) sp :: Hs) w) (r : RdSd Hs a1 m) (ok : One m) (hnm : nm.length ≤ 10) :
  WP (Zax.K3 (bstr nm) a1 s2) w (fun y w' => y = bstr (oneS nm (List.replicate n netL) (List.replicate m.ports.length Zsz)) ∧ Ss W Hs w') := by
 obtain ⟨hno, hb, ⟨i, A, e, ra⟩, ⟨j, B, e2, rb⟩⟩ := r
 have hp := (s.rd_len (i := j + 1) e2 rb).1
 have h1 := ok.n1
 unfold Zax.K3
 refine WP.loopG (γ := Nat × List ByteArray) (fun g (p : Sl × Int) w => p.2 = (g.1 : Int) ∧ g.1 ≤ m.ports.length ∧ Ss W (vec cS p.1 ((List.replicate g.1 Zsz).map bstr) g.2 :: vec cS s2 ((List.replicate n netL).map bstr) sp :: Hs) w) (fun g _ => m.ports.length - g.1) (0, []) ⟨rfl, by simp, s.mk0 (A := vec cS Sl.nil [] []) Zdc⟩ ?_
 clear s
 rintro ⟨k, sp2⟩ ⟨sl, _⟩ w ⟨rfl, hk, s⟩
 simp only at hk s
 show WP (Zax.L1 (bstr nm) a1 s2 sl (k : Int)) w _
 unfold Zax.L1
 refine WP.ite (fun h => ?_) (fun h => ?_)
 ·have hk2 : k < m.ports.length := by omega
  have hx : m.ports[(k : Int).toNat]? = some ⟨80, 80⟩ := by
   rw [Int.toNat_natCast, List.getElem?_eq_getElem hk2, ok.ports _ (List.getElem_mem hk2)]
  refine WP.rdx s (j + 2) e2 rb (by omega) hx rfl (WP.slot' s (fun _ w s => WP.step (Zqr s (n := 80) (by decide)) ?_))
  rintro _ w ⟨rfl, s⟩
  refine WP.ite (fun h => absurd rfl h) (fun h => WP.slot' s (fun _ w s => ?_))
  rw [show dec3 80 = Zsz by decide]
  refine WP.appl s 0 rfl (by simp only [List.length_map, List.length_replicate, List.length_cons, List.length_nil]; omega) (by decide) (fun sl' w sp' s => WP.next ⟨(k + 1, sp'), ⟨?_, by simp only; omega, ?_⟩, by simp only; omega⟩)
  ·rw [Zau (by omega) (by omega)]
   simp
  ·simp only
   rw [List.replicate_succ', List.map_append]
   exact s
 ·have hk2 : k = m.ports.length := by omega
  subst hk2
  refine WP.step (Zue s (hno.trans ok.no) 1 rfl 0 rfl (by rw [List.length_replicate]; exact hn16) (by rw [List.length_replicate]; omega) (Zvm _) (Zua _) hnm) (fun y w h => WP.done ?_)
  exact ⟨h.1, h.2.drop.drop⟩
theorem ZnO {a1 : Zaf} {m : ZeT} {nm : List Int} (s : Ss W Hs w) (r : RdSd Hs a1 m) (ok : One m) (hnm : nm.length ≤ 10) :
  WP (Zax (bstr nm) a1) w (fun y w' => y = bstr (oneS nm (List.replicate m.nets.length netL) (List.replicate m.ports.length Zsz)) ∧ Ss W Hs w') := by
 have r0 := r
 obtain ⟨hno, hb, ⟨i, A, e, ra⟩, ⟨j, B, e2, rb⟩⟩ := r
 have hn := (s.rd_len e ra).1
 have hp := (s.rd_len e2 rb).1
 have h1 := ok.n1
 unfold Zax
 refine WP.slot' s (fun _ w s => ?_)
 rw [Zau (by omega) (by omega)]
 refine WP.ite (fun h => absurd h (by omega)) (fun h => ?_)
 refine WP.loopG (γ := Nat × List ByteArray) (fun g (p : Sl × Int) w => p.2 = (g.1 : Int) ∧ g.1 ≤ m.nets.length ∧ Ss W (vec cS p.1 ((List.replicate g.1 netL).map bstr) g.2 :: Hs) w) (fun g _ => m.nets.length - g.1) (0, []) ⟨rfl, by simp, s.mk0 (A := vec cS Sl.nil [] []) Zdc⟩ ?_
 clear s
 rintro ⟨k, sp⟩ ⟨sl, _⟩ w ⟨rfl, hk, s⟩
 simp only at hk s
 show WP (Zax.L2 (bstr nm) a1 sl (k : Int)) w _
 unfold Zax.L2
 refine WP.ite (fun h => ?_) (fun h => ?_)
 ·have hk2 : k < m.nets.length := by omega
  have hx : m.nets[(k : Int).toNat]? = some netX := by
   rw [Int.toNat_natCast, List.getElem?_eq_getElem hk2, ok.nets _ (List.getElem_mem hk2)]
  refine WP.rdx s (i + 1) e ra (by omega) hx rfl (WP.slot' s (fun _ w s => WP.step (Znz s netX rfl (by decide) (Zpx (by decide)) (by decide)) ?_))
  rintro _ w ⟨rfl, s⟩
  refine WP.step (R := fun y w' => y = false ∧ w = w') (WP.ite (fun h => absurd h (by decide)) (fun _ => WP.ret ⟨rfl, rfl⟩)) ?_
  rintro _ _ ⟨rfl, rfl⟩
  refine WP.step (R := fun y w' => y = false ∧ w = w') (WP.ite (fun h => by cases h) (fun _ => WP.ret ⟨by decide, rfl⟩)) ?_
  rintro _ _ ⟨rfl, rfl⟩
  refine WP.ite (fun h => by cases h) (fun _ => WP.slot' s (fun _ w s => ?_))
  dsimp only
  rw [show dotM (netX.IP.A.l.take 4) ++ 47 :: dec3 netX.Len.toNat = netL by decide]
  refine WP.appl s 0 rfl (by simp only [List.length_map, List.length_replicate, List.length_cons, List.length_nil]; omega) (by decide) (fun sl' w sp' s => WP.next ⟨(k + 1, sp'), ⟨?_, by simp only; omega, ?_⟩, by simp only; omega⟩)
  ·rw [Zau (by omega) (by omega)]
   simp
  ·simp only
   rw [List.replicate_succ', List.map_append]
   exact s
 ·have hk2 : k = m.nets.length := by omega
  subst hk2
  exact WP.step (Zud (by omega) s r0 ok hnm) (fun y w h => WP.done h)
theorem Zrs {r : Zae} (s : Ss W Hs w) (sc : RSc r Zmt) : WP (Zgg r) w (fun y w' => y = bstr (tx " tcp") ∧ Ss W Hs w') := by
 unfold Zgg
 have h3 : r.Kind = 0 := sc.2.2.1
 have h4 : r.Proto = 6 := sc.2.2.2.1
 refine WP.slot' s (fun _ w s => WP.ite (fun h => absurd h (by omega)) (fun _ => ?_))
 rw [h4]
 unfold Zeo
 refine WP.step (R := fun y w' => y = bstr (tx "tcp") ∧ w = w') (WP.ite (fun _ => WP.ret ⟨ZwV, rfl⟩) (fun h => absurd rfl h)) ?_
 rintro _ _ ⟨rfl, rfl⟩
 refine WP.ite (fun _ => ?_) (fun h => absurd (fun h' => ?_) h)
 ·rw [c_sp]
  refine chkb (by decide) (by decide) ?_
  rw [catb, ZvK]
  refine chkb (by decide) (by decide) ?_
  rw [catb]
  exact WP.ret ⟨rfl, s⟩
 ·have := congrArg List.length h'
  rw [show (bstr (tx "tcp")).toList.length = 3 by decide +kernel] at this
  rw [show ByteArray.empty.toList.length = 0 by decide +kernel] at this
  cases this
theorem Zp2 {r : Zae} (s : Ss W Hs w) (rr : RdR Hs r Zmt) (ia : Nat) (ea : nth Hs ia = some (NmP 0 actB)) (fi : Nat) (ef : nth Hs fi = some (NmP 2 Zju)) :
  WP (Zbg r) w (fun y w' => y = bstr Zop ∧ Ss W Hs w') := by
 obtain ⟨c1, c2, c3, c4, c5, c6, c7, c8, c9, c10⟩ := rr.sc
 have o1 : One Zmt.From := ⟨fun p hp => List.mem_singleton.1 hp, fun p hp => (by cases hp), rfl, rfl⟩
 have o2 : One Zmt.To := ⟨fun p hp => (by cases hp), fun p hp => List.mem_singleton.1 hp, rfl, rfl⟩
 unfold Zbg
 have e1 : IntKind.wrap .i64 (r.Act - 1) = 0 := by
  rw [c1]
  decide
 rw [e1]
 refine WP.slot' s (fun _ w s => Zwi s ia ea (by decide) (ZuS (i := 0) (by decide)) (WP.ite (fun h => absurd h (by rw [c2]; decide)) (fun _ => WP.step (Zrs s rr.sc) ?_)))
 rintro _ w ⟨rfl, s⟩
 refine chkb (by decide) (by decide) (WP.ite (fun h => absurd h (by rw [c5]; decide)) (fun _ => WP.ite (fun h => absurd h (by rw [c6]; decide)) (fun _ => WP.draw' s (fun w s => ?_))))
 rw [catb, Zwx, c_to]
 refine WP.step (ZnO s rr.from_ o1 (by decide)) ?_
 rintro _ w ⟨rfl, s⟩
 refine WP.step (ZnO s rr.to_ o2 (by decide)) ?_
 rintro _ w ⟨rfl, s⟩
 refine chkb (by decide) (by decide) ?_
 rw [catb]
 refine chkb (by decide) (by decide) ?_
 obtain ⟨sl, -, s1⟩ := (s.dup ef Ro.nmP).openx 0 rfl
 have s1 : Ss W (pts false ⟨2, 0, none⟩ (cL.enc sl) :: rdS cS false sl Zju :: Hs) w := Ss.split (l := [_, _]) s1
 refine WP.ld (x := sl) s1 0 rfl (o := 0) (by simp [Addr.add]) (At.whole _) ?_
 have hl := (s1.rd_len (i := 1) rfl ZbD).1
 have h8 : Zju.length = 8 := rfl
 refine WP.loopG (γ := Nat) (fun k (p : Sl × Int) w => p = (Sl.nil, (k : Int)) ∧ k ≤ 8 ∧ Ss W (pts false ⟨2, 0, none⟩ (cL.enc sl) :: rdS cS false sl Zju :: Hs) w) (fun k _ => 8 - k) 0 ⟨rfl, by decide, s1⟩ ?_
 clear s s1
 rintro k _ w ⟨rfl, hk, s⟩
 show WP (Zbg.L1 r _ _ _ _ sl Sl.nil (k : Int)) w _
 unfold Zbg.L1
 have hu : (0 : Int) ≤ IntKind.wrap .u64 (k : Int) := by rw [ZlZ (by omega) (by omega)]; omega
 refine WP.ite (fun h => ?_) (fun h => ?_)
 ·have hk8 : k < Zju.length := by omega
  have hz : ∀ n : Nat, ¬ (band .i64 (Int.fdiv 0 (2 ^ n)) 1) = 1 := fun n => by
   rw [Int.zero_fdiv]
   decide
  refine WP.rdx s 1 rfl ZbD (by omega) (by rw [Int.toNat_natCast]; exact List.getElem?_eq_getElem hk8) rfl (WP.chk hu (WP.ite (fun h => absurd h ?_) (fun _ => WP.chk hu (WP.ite (fun h => absurd h ?_) (fun _ => WP.next ⟨k + 1, ⟨?_, by omega, s⟩, by omega⟩)))))
  ·rw [show r.Set = 0 from c7]
   exact hz _
  ·rw [show r.Clear = 0 from c8]
   exact hz _
  ·rw [Zau (by omega) (by omega)]
   rfl
 ·refine WP.step (R := fun y w' => y = bstr Zop ∧ Ss W Hs w') ?_ (fun y w h => WP.done h)
  unfold Zbg.K1
  refine WP.ite (fun h => absurd h (by decide)) (fun _ => WP.ite (fun h => absurd h (by rw [c9]; decide)) (fun _ => WP.ite (fun h => absurd h (by rw [c10]; decide)) (fun _ => WP.ret ⟨?_, s.drop.drop⟩)))
  rw [catb]
  decide +kernel
theorem Zrt {r : Zae} (s : Ss W Hs w) (rr : RdR Hs r Zmt) (ia : Nat) (ea : nth Hs ia = some (NmP 0 actB)) (fi : Nat) (ef : nth Hs fi = some (NmP 2 Zju)) :
  WP (Zdr r) w (fun y w' => y = (bstr Zop, 0) ∧ Ss W Hs w') := by
 unfold Zdr
 refine WP.slot' s (fun _ w s => WP.step (ZoD s rr) ?_)
 rintro _ w ⟨rfl, s⟩
 refine WP.ite (fun h => absurd ck_x h) (fun h => WP.step (Zp2 s rr ia ea fi ef) ?_)
 rintro _ w ⟨rfl, s⟩
 exact WP.ret ⟨rfl, s⟩
end
structure RTab (L : List HP) : Prop where
 n : ∃ i, nth L i = some TabN
 a : ∃ i, nth L i = some (NmP 0 actB)
 k : ∃ i, nth L i = some (NmP 1 Zor)
 f : ∃ i, nth L i = some (NmP 2 Zju)
theorem RTab.push {L : List HP} {A : HP} (h : RTab L) : RTab (A :: L) := by
 obtain ⟨⟨a, ha⟩, ⟨b, hb⟩, ⟨c, hc⟩, ⟨d, hd⟩⟩ := h
 exact ⟨⟨a + 1, ha⟩, ⟨b + 1, hb⟩, ⟨c + 1, hc⟩, ⟨d + 1, hd⟩⟩
def BytR (m : Zbf) : Prop := Byts m.From.nets ∧ Byts m.To.nets
section
variable {W w : World} {Hs : List HP}
theorem ZsC (s : Ss W Hs w) (T : RTab Hs) (t : ByteArray) : WP (Zam t) w (fun r w' => ParR W Hs r w' (Zt4 (strI t))) := by
 obtain ⟨⟨a, ha⟩, ⟨b, hb⟩, ⟨c, hc⟩, ⟨d, hd⟩⟩ := T
 exact ZpE s b hb c hc d hd t
theorem Zst {r : Zae} (s : Ss W Hs w) (T : RTab Hs) (rr : RdR Hs r Zmt) : WP (Zdr r) w (fun y w' => y = (bstr Zop, 0) ∧ Ss W Hs w') := by
 obtain ⟨-, ⟨b, hb⟩, -, ⟨d, hd⟩⟩ := T
 exact Zrt s rr b hb d hd
theorem Zon (n : Int) : WP (Zdk n) w (fun y w' => y = n ∧ w = w') := WP.ret ⟨rfl, rfl⟩
theorem Zuc {r : Zae} {m : Zbf} (s : Ss W (ZwH r m :: Hs) w) (hb : BytR m) : ∃ A B C D : HP, Ss W (A :: B :: C :: D :: Hs) w ∧ RdR (A :: B :: C :: D :: Hs) r m := by
 obtain ⟨h, hh⟩ := s.has (i := 0) rfl
 have sc := hh.1
 have s := Ss.split (s.first (B := seps [Zkb r.From m.From, Zkb r.To m.To]) (fun h hh => hh.2))
 obtain ⟨q1, n1, s⟩ := s.openx 0 rfl
 have s := Ss.split (l := [vec cPfx r.From.Nets m.From.nets q1.1, vec cRg r.From.Ports m.From.ports q1.2]) s
 obtain ⟨q2, n2, s⟩ := s.openx 2 rfl
 have s := s.use [2] rfl
 have s := Ss.split (l := [vec cPfx r.To.Nets m.To.nets q2.1, vec cRg r.To.Ports m.To.ports q2.2]) s
 exact ⟨_, _, _, _, s, sc, ⟨n1, hb.1, ⟨2, _, rfl, Zc3⟩, ⟨3, _, rfl, Zc3⟩⟩, ⟨n2, hb.2, ⟨0, _, rfl, Zc3⟩, ⟨1, _, rfl, Zc3⟩⟩⟩
theorem Ztm : BytR Zmt := ⟨fun p hp => by
 rw [List.mem_singleton.1 hp]
 exact Zpx (by decide), fun p hp => by cases hp⟩
theorem arr1 {α : Type} {c : Cod α} {x : α} {b : Nat} (s : Ss W (pts true (pt b 0) ((c.arr 1).enc ⟨[x], rfl⟩) :: Hs) w) : Ss W (vec c ⟨some (pt b 0), 1, 1⟩ [x] [] :: Hs) w := by
 refine s.first (fun h hh => ?_)
 rw [Cod.arr_enc] at hh
 exact ZrZ (l := [x]) (sp := []) hh
theorem Zvs (s : Ss W Hs w) : WP Zdl w (fun r w' => r.1 = bstr Zop ∧ ∃ A B C D : HP, Ss W (A :: B :: C :: D :: Hs) w' ∧ RdR (A :: B :: C :: D :: Hs) r.2 Zmt) := by
 unfold Zdl
 have e : str0 = bstr Zop := by decide +kernel
 rw [e]
 have s := s.mk0 (A := vec cPfx Sl.nil [] []) Zdc
 have s := s.mk0 (A := vec cRg Sl.nil [] []) Zdc
 have sc : ∀ {f t : Zaf}, RSc (⟨1, ZaH.Class, ZaH.Kind, 6, ZaH.In, ZaH.Vid, f, t, ZaH.Set, ZaH.Clear, ZaH.Type_, ZaH.Pieces⟩ : Zae) Zmt := ⟨rfl, rfl, rfl, rfl, rfl, rfl, rfl, rfl, rfl, rfl⟩
 refine WP.slot' s (fun _ w s => WP.slot' s (fun _ w s => WP.draws s (fun σ w s => WP.ite (fun _ => ?_) (fun _ => ?_))))
 ·refine WP.newv s (fun b1 w s => ?_)
  have s := arr1 (c := cPfx) (x := netX) s
  refine WP.newv s (fun b2 w s => ?_)
  have s := arr1 (c := cRg) (x := ⟨80, 80⟩) s
  exact WP.ret ⟨rfl, _, _, _, _, s, sc, ⟨rfl, Ztm.1, ⟨1, _, rfl, Zc3⟩, ⟨2, _, rfl, Zc3⟩⟩, ⟨rfl, Ztm.2, ⟨3, _, rfl, Zc3⟩, ⟨0, _, rfl, Zc3⟩⟩⟩
 ·refine WP.newv s (fun b1 w s => ?_)
  have s := arr1 (c := cRg) (x := ⟨80, 80⟩) s
  refine WP.newv s (fun b2 w s => ?_)
  have s := arr1 (c := cPfx) (x := netX) s
  exact WP.ret ⟨rfl, _, _, _, _, s, sc, ⟨rfl, Ztm.1, ⟨0, _, rfl, Zc3⟩, ⟨2, _, rfl, Zc3⟩⟩, ⟨rfl, Ztm.2, ⟨3, _, rfl, Zc3⟩, ⟨1, _, rfl, Zc3⟩⟩⟩
theorem Ztn : Byt Zop := Zpx (by decide +kernel)
theorem ZrV {β : Type} {p : Prop} [Decidable p] {f : Bool → M β} {Q : β → World → Prop} (hp : p) {X : M Bool} {R : World → Prop} (hX : WP X w (fun y w' => y = true ∧ R w')) (k : ∀ w', R w' → WP (f true) w' Q) : WP ((if p then X else pure false) >>= f) w Q := by
 refine WP.step (R := fun y w' => y = true ∧ R w') (WP.ite (fun _ => hX) (fun h => absurd hp h)) ?_
 rintro _ w ⟨rfl, r⟩
 exact k w r
theorem Zrl (s : Ss W Hs w) (T : RTab Hs) : WP Zcu w (fun y w' => y = true ∧ Ss W Hs w') := by
 unfold Zcu
 refine WP.step (Zvs s) ?_
 rintro ⟨t, r⟩ w ⟨ht, A, B, C, D, s, rr⟩
 dsimp only at ht rr ⊢
 generalize hbs : bstr Zop = bs at ht
 subst ht
 have T4 := T.push (A := D) |>.push (A := C) |>.push (A := B) |>.push (A := A)
 refine WP.slot' s (fun _ w s => WP.step (ZsC s T4 t) ?_)
 rintro ⟨q1, q2⟩ w h
 rw [← hbs, Zmo Ztn, Zwd] at h
 obtain ⟨h1, s1⟩ := h
 dsimp only at h1 s1 ⊢
 subst h1
 clear s
 obtain ⟨A', B', C', D', s, rq⟩ := Zuc s1 Ztm
 clear s1
 have T8 := T4.push (A := D') |>.push (A := C') |>.push (A := B') |>.push (A := A')
 have rr8 := rr.push (A := D') |>.push (A := C') |>.push (A := B') |>.push (A := A')
 refine WP.slot' s (fun _ w s => WP.step (Zst s T8 rr8) ?_)
 rintro _ w ⟨rfl, s⟩
 rw [hbs]
 dsimp only
 refine WP.step (Zon _) ?_
 rintro _ _ ⟨rfl, rfl⟩
 refine ZrV (R := fun w' => w = w') rfl (WP.ret ⟨rfl, rfl⟩) ?_
 rintro _ rfl
 refine ZrV (R := fun w' => Ss W (A' :: B' :: C' :: D' :: A :: B :: C :: D :: Hs) w') rfl (WP.step (ZvV s rq rr8 (by decide)) (fun y w h => WP.ret ⟨h.1.trans (decide_eq_true rfl), h.2⟩)) ?_
 intro w s
 refine ZrV (R := fun w' => w = w') rfl (WP.step (Zon _) ?_) ?_
 ·rintro _ _ ⟨rfl, rfl⟩
  exact WP.ret ⟨rfl, rfl⟩
 rintro _ rfl
 refine ZrV (R := fun w' => w = w') rfl (WP.ret ⟨beq_self_eq_true _, rfl⟩) ?_
 rintro _ rfl
 refine ZrV (R := fun w' => Ss W (A' :: B' :: C' :: D' :: A :: B :: C :: D :: Hs) w') rfl (WP.step (ZoD s rr8) ?_) ?_
 ·rintro _ w ⟨rfl, s⟩
  rw [ck_x]
  refine WP.step (Zon _) ?_
  rintro _ _ ⟨rfl, rfl⟩
  exact WP.ret ⟨rfl, s⟩
 intro w s
 exact WP.ret ⟨rfl, s.drop.drop.drop.drop.drop.drop.drop.drop⟩
end
theorem ZmZ {l : List Int} (h : ∀ x ∈ l, (Lit.int .u8 x).wf = true) : Byt l := fun x hx => by
 have := h x hx
 simp [Lit.wf, IntKind.min, IntKind.max, IntKind.bits, IntKind.signed] at this
 exact this
theorem Zvp {k : IntKind} {a b : List Int} (h : a.map (fun x => (DataW.lit (.int k x) : DataW Unit)) = b.map fun x => DataW.lit (.int k x)) : a = b := by
 refine (List.map_inj_right (f := fun x => (DataW.lit (.int k x) : DataW Unit)) ?_).1 h
 intro x y e
 cases e
 rfl
theorem Ztu {k : IntKind} {n : Nat} {a b : Vec Int n} (h : (DataW.agg (a.l.map (fun x => DataW.lit (.int k x))) : DataW Unit) = DataW.agg (b.l.map fun x => DataW.lit (.int k x))) : a = b := by
 obtain ⟨a, ha⟩ := a
 obtain ⟨b, hb⟩ := b
 have : a = b := Zvp (DataW.agg.inj h)
 subst this
 rfl
def strD (l : List ByteArray) : DataW Unit := .slice (l.map fun s => .lit (.string s.data.toList)) []
theorem Zuj : (Rows.laid_weir_rules_acts : DataW Unit) = strD actB := by
 unfold Rows.laid_weir_rules_acts strD
 rw [show (actB.map fun s => (DataW.lit (.string s.data.toList) : DataW Unit)) = ([[112, 101, 114, 109, 105, 116], [100, 101, 110, 121], [114, 101, 106, 101, 99, 116]] : List (List UInt8)).map (fun l => .lit (.string l)) from by
  rw [show ([[112, 101, 114, 109, 105, 116], [100, 101, 110, 121], [114, 101, 106, 101, 99, 116]] : List (List UInt8)) = actB.map (fun s => s.data.toList) by decide +kernel, List.map_map]
  rfl]
 rfl
theorem ZsR : (Rows.laid_weir_rules_kinds : DataW Unit) = strD Zor := by
 unfold Rows.laid_weir_rules_kinds strD
 rw [show (Zor.map fun s => (DataW.lit (.string s.data.toList) : DataW Unit)) = ([[97, 114, 112], [105, 112, 52], [105, 112, 54]] : List (List UInt8)).map (fun l => .lit (.string l)) from by
  rw [show ([[97, 114, 112], [105, 112, 52], [105, 112, 54]] : List (List UInt8)) = Zor.map (fun s => s.data.toList) by decide +kernel, List.map_map]
  rfl]
 rfl
theorem ZsS : (Rows.laid_weir_rules_flags : DataW Unit) = strD Zju := by
 unfold Rows.laid_weir_rules_flags strD
 rw [show (Zju.map fun s => (DataW.lit (.string s.data.toList) : DataW Unit)) = ([[102, 105, 110], [115, 121, 110], [114, 115, 116], [112, 115, 104], [97, 99, 107], [117, 114, 103], [101, 99, 101], [99, 119, 114]] : List (List UInt8)).map (fun l => .lit (.string l)) from by
  rw [show ([[102, 105, 110], [115, 121, 110], [114, 115, 116], [112, 115, 104], [97, 99, 107], [117, 114, 103], [101, 99, 101], [99, 119, 114]] : List (List UInt8)) = Zju.map (fun s => s.data.toList) by decide +kernel, List.map_map]
  rfl]
 rfl
theorem Ss.nm {W : World} {Hs : List HP} {u : Sl} {g : Nat} {l : List ByteArray} (s : Ss W (pts false ⟨g, 0, none⟩ (cL.enc u) :: rdS cS false u l :: Hs) W) : Ss W (NmP g l :: Hs) W :=
 (Ss.group (l := [pts false ⟨g, 0, none⟩ (cL.enc u), rdS cS false u l]) s).first (fun h hh => ⟨u, trivial, hh⟩)
theorem ZwP {W : World} (h : Laid W) : ∃ Hs, Ss W Hs W ∧ RTab Hs := by
 obtain ⟨u0, u1, u2, u3, u4, u5, _, ⟨d1, c1⟩, ⟨d2, c2⟩, ⟨d3, c3⟩, ⟨d4, c4⟩, ⟨d5, c5⟩⟩ := Zvt h
 obtain rfl : u1 = dbV := Ztu (d1.symm.trans (by rfl))
 obtain rfl : u2 = Zsv := Ztu (d2.symm.trans (by rfl))
 have s0 : Ss W [] W := Ss.start W
 have s := (s0.tab (by decide) c1).tab (by decide) c2
 have s2 := Ss.group (l := [pts false ⟨3, 0, none⟩ (((cI .u64).arr 20).enc Zsv), pts false ⟨6, 0, none⟩ (((cI .u8).arr 64).enc dbV)]) s
 have s3 : Ss W (TabN :: _) W := s2.first (fun h hh => by
  obtain ⟨h1, h2, _, l1, l2, a, h3, h4, _, l3, _, b, _⟩ := hh
  exact ⟨⟨a.1, fun i x e => l1 _ _ _ (a.2 i x e)⟩, ⟨b.1, fun i x e => l2 _ _ _ (l3 _ _ _ (b.2 i x e))⟩⟩)
 have s4 := (s3.strs d3 ZsR c3).nm
 have s5 := (s4.strs d4 Zuj c4).nm
 have s6 := (s5.strs d5 ZsS c5).nm
 exact ⟨_, s6, ⟨3, rfl⟩, ⟨1, rfl⟩, ⟨2, rfl⟩, ⟨0, rfl⟩⟩
inductive TM where
 | inn (n : Int)
 | vid (n : Int)
 | kind (n : Int)
 | proto (n : Int)
 | net (to no : Bool) (l : List Zad)
 | port (to : Bool) (l : List ZaE)
 | flag (s c : Int)
 | typ (n : Int)
 | piece
def Zgs (m : Zbf) : List TM :=
 (if m.In ≠ 0 then [TM.inn m.In] else []) ++ (if m.Vid ≠ 0 then [TM.vid m.Vid] else []) ++ (if m.Kind ≠ 0 then [TM.kind m.Kind] else []) ++ (if m.Proto ≠ 0 then [TM.proto m.Proto] else [])
 ++ (if m.From.nets ≠ [] then [TM.net false m.From.Not m.From.nets] else []) ++ (if m.From.ports ≠ [] then [TM.port false m.From.ports] else [])
 ++ (if m.To.nets ≠ [] then [TM.net true m.To.Not m.To.nets] else []) ++ (if m.To.ports ≠ [] then [TM.port true m.To.ports] else [])
 ++ (if bor .i64 m.Set m.Clear ≠ 0 then [TM.flag m.Set m.Clear] else []) ++ (if m.Type_ ≠ 0 then [TM.typ m.Type_] else []) ++ (if m.Pieces = true then [TM.piece] else [])
def Zga (p : Zac) (to : Bool) : Zba × Bool :=
 if p.Kind = 1 then (if to = true then p.Arp.TIP else p.Arp.SIP, true)
 else if p.Kind = 2 then (if to = true then p.Ip4.Dst else p.Ip4.Src, true)
 else if p.Kind = 3 then (if to = true then p.Ip6.Dst else p.Ip6.Src, true)
 else (Zci, false)
def Zgh (p : Zac) (to : Bool) : Int × Bool :=
 if p.L4 = 2 then (if to = true then p.Udp.Dport else p.Udp.Sport, true)
 else if p.L4 = 3 then (if to = true then p.Tcp.Dport else p.Tcp.Sport, true)
 else (0, false)
def TM.holds (port : Int) (p : Zac) (vid : Option Int) : TM → Bool
 | .inn n => IntKind.wrap .i64 (n - 1) == port
 | .vid n => vid.any (fun x => x == n)
 | .kind n => p.Kind == n
 | .proto n => decide ((p.Kind = 2 ∧ p.Ip4.Proto = n) ∨ (p.Kind = 3 ∧ p.Ip6.Next = n))
 | .net to no l => (Zga p to).2 && !(l.any (fun n => ctM n (Zga p to).1) == no)
 | .port to l => (Zgh p to).2 && l.any (fun r => inR (Zgh p to).1 r.Lo r.Hi)
 | .flag s c => decide (p.L4 = 3 ∧ band .i64 p.Tcp.Flags s = s ∧ band .i64 p.Tcp.Flags c = 0)
 | .typ n => decide (p.L4 = 1 ∧ p.Icmp.Type_ = IntKind.wrap .i64 (n - 1))
 | .piece => decide ((p.Kind = 2 ∧ (p.Ip4.MF = true ∨ p.Ip4.Off > 0)) ∨ (p.Kind = 3 ∧ p.Ip6.Frag.Has = true))
def ZhI (port : Int) (p : Zac) (vid : Option Int) (m : Zbf) : Bool := (Zgs m).all (TM.holds port p vid)
def ZiP (port : Int) (p : Zac) (vid : Option Int) (k : Nat) : List Zbf → Za2
 | [] => ⟨2, 0, -1⟩
 | m :: ms => if ZhI port p vid m = true then ⟨m.Act, m.Class, (k : Int)⟩ else ZiP port p vid (k + 1) ms
def ZnU (port : Int) (p : Zac) (vid : Option Int) (ms : List Zbf) : Za2 := ZiP port p vid 0 ms
def newF (k : Nat) : List Zbf → Option (Int × Int)
 | [] => none
 | m :: ms => if ckM m ≠ 0 then some (ckM m, (k : Int)) else newF (k + 1) ms
def newM (ms : List Zbf) : Option (Int × Int) := if ms.length > 256 then some (167, 256) else newF 0 ms
structure ZpB (m : Zbf) : Prop where
 fn : m.From.nets.length ≤ 16
 fp : m.From.ports.length ≤ 16
 tn : m.To.nets.length ≤ 16
 tp : m.To.ports.length ≤ 16
theorem ZlG {s : ZeT} {k p : Int} (h : ZgH s k p = 0) : s.nets.length ≤ 16 ∧ s.ports.length ≤ 16 := by
 unfold ZgH at h
 split at h
 ·cases h
 ·rename_i h1
  split at h
  ·cases h
  ·split at h
   ·cases h
   ·rename_i h3
    exact ⟨Nat.le_of_not_lt fun h' => h1 (.inl h'), Nat.le_of_not_lt h3⟩
theorem Zow {m : Zbf} (h : ckM m = 0) : ZpB m := by
 unfold ckM at h
 split at h
 ·cases h
 ·split at h
  ·cases h
  ·split at h
   ·rename_i h3
    exact absurd h h3
   ·rename_i h3
    have h1 := ZlG (Decidable.not_not.1 h3)
    have h2 := ZlG h
    exact ⟨h1.1, h1.2, h2.1, h2.2⟩
def frz (h : PH) : PH := fun b o => (h b o).map fun x => (false, x.2)
theorem Zfd {h k : PH} (e : h.le k) : (frz h).le (frz k) := fun b o x hx => by
 obtain ⟨y, hy, rfl⟩ := Option.map_eq_some_iff.1 hx
 exact Option.map_eq_some_iff.2 ⟨y, e _ _ _ hy, rfl⟩
theorem Zgx {q : Bool} {a : Addr} {L : List Value} {h : PH} (hp : pts q a L h) : pts false a L (frz h) :=
 ⟨hp.1, fun i x hx => Option.map_eq_some_iff.2 ⟨_, hp.2 i x hx, rfl⟩⟩
theorem Zhr {α : Type} {c : Cod α} {q : Bool} {s : Sl} {xs : List α} {h : PH} (hp : rdS c q s xs h) : rdS c false s xs (frz h) :=
 ⟨hp.1, hp.2.1, hp.2.2.1, fun a ha hn => Zgx (hp.2.2.2 a ha hn)⟩
theorem Zek {α : Type} {c : Cod α} {s : Sl} {xs sp : List α} {h : PH} (hp : vec c s xs sp h) : rdS c false s xs (frz h) := Zu7 hp
theorem ZtJ {α : Type} {c : Cod α} {s : Sl} {xs sp : List α} {h : PH} (hp : vec c s xs sp h) : vec c ⟨s.a, xs.length, xs.length⟩ xs [] h := by
 obtain ⟨h1, h2, h3⟩ := hp
 refine ⟨rfl, by simp, ?_⟩
 dsimp only
 cases ha : s.a with
 | none =>
  rw [ha] at h3
  exact ⟨h3.1, rfl⟩
 | some a =>
  rw [ha] at h3
  refine ⟨h3.1, fun i x hx => h3.2 i x ?_⟩
  rw [List.append_nil] at hx
  rw [List.flatMap_append, List.getElem?_append_left (List.getElem?_eq_some_iff.1 hx).1]
  exact hx
def Upw (A : HP) : Prop := ∀ h k : PH, h.le k → A h → A k
theorem Ro.and {A B : HP} (a : Ro A) (b : Ro B) : Ro (fun h => A h ∧ B h) := fun h hh => ⟨a h hh.1, b h hh.2⟩
theorem Ro.all {α : Type} {P : α → HP} (a : ∀ x, Ro (P x)) : Ro (fun h => ∀ x, P x h) := fun h hh x => a x h (hh x)
theorem Ro.exs {α : Type} {P : α → HP} (a : ∀ x, Ro (P x)) : Ro (fun h => ∃ x, P x h) := fun h ⟨x, hh⟩ => ⟨x, a x h hh⟩
theorem Ro.imp {p : Prop} {A : HP} (a : Ro A) : Ro (fun h => p → A h) := fun h hh hp => a h (hh hp)
theorem Ro.tt {p : Prop} : Ro (fun _ => p) := fun h hh => hh
theorem Upw.and {A B : HP} (a : Upw A) (b : Upw B) : Upw (fun h => A h ∧ B h) := fun h k e hh => ⟨a h k e hh.1, b h k e hh.2⟩
theorem Upw.all {α : Type} {P : α → HP} (a : ∀ x, Upw (P x)) : Upw (fun h => ∀ x, P x h) := fun h k e hh x => a x h k e (hh x)
theorem Upw.exs {α : Type} {P : α → HP} (a : ∀ x, Upw (P x)) : Upw (fun h => ∃ x, P x h) := fun h k e ⟨x, hh⟩ => ⟨x, a x h k e hh⟩
theorem Upw.imp {p : Prop} {A : HP} (a : Upw A) : Upw (fun h => p → A h) := fun h k e hh hp => a h k e (hh hp)
theorem Upw.tt {p : Prop} : Upw (fun _ => p) := fun h k e hh => hh
theorem Upw.pts {q : Bool} {a : Addr} {L : List Value} : Upw (pts q a L) := fun h k e hh => Zls e hh
theorem Upw.rdS {α : Type} {c : Cod α} {q : Bool} {s : Sl} {xs : List α} : Upw (rdS c q s xs) := fun h k e hh => Ze5 e hh
theorem Zsf {A : HP} {h : PH} (hs : seps [A] h) : ∃ h1 : PH, h1.le h ∧ A h1 := by
 obtain ⟨h1, h2, -, l1, -, a, -⟩ := hs
 exact ⟨h1, l1, a⟩
theorem Zki {A : HP} {L : List HP} {h : PH} (hs : seps (A :: L) h) : ∃ h1 h2 : PH, h1.le h ∧ h2.le h ∧ A h1 ∧ seps L h2 := by
 obtain ⟨h1, h2, -, l1, l2, a, b⟩ := hs
 exact ⟨h1, h2, l1, l2, a, b⟩
section
variable {W w : World} {Hs : List HP}
theorem Ss.copy {A B : HP} (s : Ss W Hs w) (i : Nat) (e : nth Hs i = some A) (r : Ro A) (f : ∀ h, A h → B h) : Ss W (B :: Hs) w := (s.dup e r).first f
theorem Ss.frz2 {A B C : HP} (s : Ss W (A :: B :: Hs) w) (f : ∀ h1 h2 h : PH, h1.le h → h2.le h → A h1 → B h2 → C (frz h)) : Ss W (C :: Hs) w :=
 (s.merge (C := fun h => C (frz h)) f).freeze (fun h hh => hh)
theorem Ss.frz1 {A C : HP} (s : Ss W (A :: Hs) w) (f : ∀ h : PH, A h → C (frz h)) : Ss W (C :: Hs) w := s.freeze f
theorem Ss.exs {α : Type} {P : α → HP} {l : List HP} (s : Ss W ((fun h => ∃ x, P x h) :: l) w) : ∃ x, Ss W (P x :: l) w := Ss.ex s
theorem Zph {α : Type} {c : Cod α} {A : HP} {n : Nat} {a0 : Sl} {a1 : α → M Bool} {l : List α} {g : List Bool} (s : Ss W Hs w) (i : Nat) (e : nth Hs i = some A) (r : Rdb A c a0 l) (hn : n = c.n) (hg : g.length = l.length) (hl : l.length ≤ 9000000000000000000)
  (h : ∀ (j : Nat) (x : α) (b : Bool), l[j]? = some x → g[j]? = some b → ∀ w, Ss W Hs w → WP (a1 x) w (fun y w' => y = b ∧ Ss W Hs w')) :
  WP (ZcI (fun s_ : Int => if s_ < (a0.len : Int) then idx a0.a a0.len s_ n >>= fun p => ld c p >>= fun x => a1 x >>= fun y => if y = true then pure (LS.done s_) else pure (LS.next (IntKind.wrap .i64 (s_ + 1))) else pure (LS.done (-1))) 0) w (fun y w' => decide (y ≥ 0) = g.any id ∧ Ss W Hs w') := by
 have hlen := (s.rd_len e r).1
 refine WP.loopG (γ := Nat) (fun k (x : Int) w => x = (k : Int) ∧ k ≤ l.length ∧ (g.take k).any id = false ∧ Ss W Hs w) (fun k _ => l.length - k) 0 ⟨rfl, Nat.zero_le _, rfl, s⟩ ?_
 clear s
 rintro k _ w ⟨rfl, hk, ha, s⟩
 refine WP.ite (fun hc => ?_) (fun hc => ?_)
 ·have hk2 : k < l.length := by omega
  have hx := List.getElem?_eq_getElem hk2
  have hy := List.getElem?_eq_getElem (show k < g.length by omega)
  generalize l[k] = x at hx
  generalize g[k]'(show k < g.length by omega) = b at hy
  have ht : g.take (k + 1) = g.take k ++ [b] := by
   rw [List.take_add_one, hy]
   rfl
  refine WP.rdx s i e r (by omega) (x := x) (by rw [Int.toNat_natCast]; exact hx) hn (WP.step (h k x b hx hy w s) ?_)
  rintro _ w ⟨rfl, s⟩
  rename_i y
  cases y with
  | true =>
   refine WP.ite (fun _ => WP.done ⟨?_, s⟩) (fun h' => absurd rfl h')
   rw [List.any_eq_true.2 ⟨true, List.mem_of_getElem? hy, rfl⟩]
   exact decide_eq_true (by omega)
  | false =>
   refine WP.ite (fun h' => by cases h') (fun _ => WP.next ⟨k + 1, ⟨?_, hk2, ?_, s⟩, by omega⟩)
   ·rw [Zau (by omega) (by omega)]
    simp
   ·rw [ht, List.any_append, ha]
    rfl
 ·have hk2 : k = g.length := by omega
  rw [hk2, List.take_length] at ha
  exact WP.done ⟨by rw [ha]; rfl, s⟩
theorem Zpi {α : Type} {c : Cod α} {A : HP} {n : Nat} {a0 : Sl} {a1 : α → M Bool} {l : List α} {f : α → Bool} (s : Ss W Hs w) (i : Nat) (e : nth Hs i = some A) (r : Rdb A c a0 l) (hn : n = c.n) (hl : l.length ≤ 9000000000000000000)
  (h : ∀ x ∈ l, ∀ w, Ss W Hs w → WP (a1 x) w (fun y w' => y = f x ∧ Ss W Hs w')) :
  WP (ZcI (fun s_ : Int => if s_ < (a0.len : Int) then idx a0.a a0.len s_ n >>= fun p => ld c p >>= fun x => a1 x >>= fun y => if y = true then pure (LS.done s_) else pure (LS.next (IntKind.wrap .i64 (s_ + 1))) else pure (LS.done (-1))) 0) w (fun y w' => decide (y ≥ 0) = l.any f ∧ Ss W Hs w') := by
 have q := Zph (a1 := a1) (g := l.map f) s i e r hn (by rw [List.length_map]) hl (fun j x b hx hb w s => by
  rw [List.getElem?_map, hx] at hb
  cases hb
  exact h x (List.mem_of_getElem? hx) w s)
 rw [List.any_map] at q
 exact q
end
def NetO (v : Any) (to no : Bool) (l : List Zad) (p q r : Addr) (sl : Sl) : HP := fun h =>
 v.v = .func (.func 85) #[] #[.pointer (some p), .pointer (some q), .pointer (some r)] ∧ pts false p (cB.enc to) h ∧ pts false q (cL.enc sl) h ∧ pts false r (cB.enc no) h ∧ rdS cPfx false sl l h
def NetH (v : Any) (to no : Bool) (l : List Zad) : HP := fun h => ∃ p, ∃ q, ∃ r, ∃ sl, NetO v to no l p q r sl h
def Znl (v : Any) (to : Bool) (l : List ZaE) (p q : Addr) (sl : Sl) : HP := fun h =>
 v.v = .func (.func 90) #[] #[.pointer (some p), .pointer (some q)] ∧ pts false p (cB.enc to) h ∧ pts false q (cL.enc sl) h ∧ rdS cRg false sl l h
def ZlY (v : Any) (to : Bool) (l : List ZaE) : HP := fun h => ∃ p, ∃ q, ∃ sl, Znl v to l p q sl h
theorem NetO.ro {v : Any} {to no : Bool} {l : List Zad} {p q r : Addr} {sl : Sl} : Ro (NetO v to no l p q r sl) := Ro.tt.and (Ro.pts.and (Ro.pts.and (Ro.pts.and Ro.rdS)))
theorem NetH.ro {v : Any} {to no : Bool} {l : List Zad} : Ro (NetH v to no l) := Ro.exs fun p => Ro.exs fun q => Ro.exs fun r => Ro.exs fun sl => NetO.ro
theorem Znl.ro {v : Any} {to : Bool} {l : List ZaE} {p q : Addr} {sl : Sl} : Ro (Znl v to l p q sl) := Ro.tt.and (Ro.pts.and (Ro.pts.and Ro.rdS))
theorem ZlY.ro {v : Any} {to : Bool} {l : List ZaE} : Ro (ZlY v to l) := Ro.exs fun p => Ro.exs fun q => Ro.exs fun sl => Znl.ro
theorem NetH.up {v : Any} {to no : Bool} {l : List Zad} : Upw (NetH v to no l) := Upw.exs fun p => Upw.exs fun q => Upw.exs fun r => Upw.exs fun sl => Upw.tt.and (Upw.pts.and (Upw.pts.and (Upw.pts.and Upw.rdS)))
theorem ZlY.up {v : Any} {to : Bool} {l : List ZaE} : Upw (ZlY v to l) := Upw.exs fun p => Upw.exs fun q => Upw.exs fun sl => Upw.tt.and (Upw.pts.and (Upw.pts.and Upw.rdS))
def TstH (v : Any) : TM → HP
 | .inn n => fun _ => v.v = .iface 145 ((cI .i64).val n)
 | .vid n => fun _ => v.v = .iface 146 ((cI .i64).val n)
 | .kind n => fun _ => v.v = .iface 147 ((cI .i64).val n)
 | .proto n => fun _ => v.v = .iface 148 ((cI .i64).val n)
 | .net to no l => fun h => ∃ f : Any, v.v = .iface 149 f.v ∧ NetH f to no l h
 | .port to l => fun h => ∃ f : Any, v.v = .iface 149 f.v ∧ ZlY f to l h
 | .flag s c => fun _ => v.v = .iface 152 (ZbF.val ⟨s, c⟩)
 | .typ n => fun _ => v.v = .iface 153 ((cI .i64).val n)
 | .piece => fun _ => v.v = .iface 155 (Zcf.val ZdN)
theorem TstH.ro {v : Any} : ∀ t : TM, Ro (TstH v t)
 | .inn n | .vid n | .kind n | .proto n | .flag s c | .typ n | .piece => Ro.tt
 | .net to no l => Ro.exs fun f => Ro.tt.and NetH.ro
 | .port to l => Ro.exs fun f => Ro.tt.and ZlY.ro
theorem TstH.up {v : Any} : ∀ t : TM, Upw (TstH v t)
 | .inn n | .vid n | .kind n | .proto n | .flag s c | .typ n | .piece => Upw.tt
 | .net to no l => Upw.exs fun f => Upw.tt.and NetH.up
 | .port to l => Upw.exs fun f => Upw.tt.and ZlY.up
def TssH (vs : List Any) (ts : List TM) : HP := fun h => vs.length = ts.length ∧ ∀ (i : Nat) (v : Any) (t : TM), vs[i]? = some v → ts[i]? = some t → TstH v t h
theorem TssH.ro {vs : List Any} {ts : List TM} : Ro (TssH vs ts) := Ro.tt.and (Ro.all fun i => Ro.all fun v => Ro.all fun t => Ro.imp (Ro.imp (TstH.ro t)))
theorem TssH.up {vs : List Any} {ts : List TM} : Upw (TssH vs ts) := Upw.tt.and (Upw.all fun i => Upw.all fun v => Upw.all fun t => Upw.imp (Upw.imp (TstH.up t)))
theorem TssH.nil {h : PH} : TssH [] [] h := ⟨rfl, fun i v t h => by cases h⟩
theorem TssH.snoc {vs : List Any} {ts : List TM} {v : Any} {t : TM} {h : PH} (a : TssH vs ts h) (b : TstH v t h) : TssH (vs ++ [v]) (ts ++ [t]) h := by
 refine ⟨by simp [a.1], fun i v' t' h1 h2 => ?_⟩
 by_cases hi : i < vs.length
 ·rw [List.getElem?_append_left hi] at h1
  rw [List.getElem?_append_left (by rw [← a.1]; exact hi)] at h2
  exact a.2 i v' t' h1 h2
 ·rw [List.getElem?_append_right (by omega)] at h1
  rw [List.getElem?_append_right (by rw [← a.1]; omega)] at h2
  rw [← a.1] at h2
  cases hj : i - vs.length with
  | zero =>
   rw [hj] at h1 h2
   cases h1
   cases h2
   exact b
  | succ j =>
   rw [hj] at h1
   cases h1
theorem NetH.fr {v : Any} {to no : Bool} {l : List Zad} {h : PH} (a : NetH v to no l h) : NetH v to no l (frz h) := by
 obtain ⟨p, q, r, sl, h1, h2, h3, h4, h5⟩ := a
 exact ⟨p, q, r, sl, h1, Zgx h2, Zgx h3, Zgx h4, Zhr h5⟩
theorem ZlY.fr {v : Any} {to : Bool} {l : List ZaE} {h : PH} (a : ZlY v to l h) : ZlY v to l (frz h) := by
 obtain ⟨p, q, sl, h1, h2, h3, h5⟩ := a
 exact ⟨p, q, sl, h1, Zgx h2, Zgx h3, Zhr h5⟩
theorem TstH.fr {v : Any} {h : PH} : ∀ {t : TM}, TstH v t h → TstH v t (frz h)
 | .inn n, a | .vid n, a | .kind n, a | .proto n, a | .flag s c, a | .typ n, a | .piece, a => a
 | .net to no l, ⟨f, h1, h2⟩ => ⟨f, h1, h2.fr⟩
 | .port to l, ⟨f, h1, h2⟩ => ⟨f, h1, h2.fr⟩
theorem TssH.fr {vs : List Any} {ts : List TM} {h : PH} (a : TssH vs ts h) : TssH vs ts (frz h) := ⟨a.1, fun i v t h1 h2 => (a.2 i v t h1 h2).fr⟩
def TsH (r : Sl) (ts : List TM) : HP := fun h => ∃ vs, rdS cV false r vs h ∧ TssH vs ts h
theorem TsH.ro {r : Sl} {ts : List TM} : Ro (TsH r ts) := Ro.exs fun vs => Ro.rdS.and TssH.ro
theorem TsH.up {r : Sl} {ts : List TM} : Upw (TsH r ts) := Upw.exs fun vs => Upw.rdS.and TssH.up
section
variable {W w : World} {Hs : List HP}
theorem ZgY {A : HP} {sl : Sl} {l : List Zad} (s : Ss W Hs w) (i : Nat) (e : nth Hs i = some A) (r : Rdb A cPfx sl l) (hl : l.length ≤ 4000000000000) :
  WP (ZaI sl) w (fun y w' => ∃ sp, Ss W (vec cPfx y l sp :: Hs) w') := by
 unfold ZaI
 have hn := (s.rd_len e r).2
 refine WP.ite (fun h => WP.ret ⟨[], ?_⟩) (fun h => WP.newv s (fun b w s => ?_))
 ·have : l = [] := Decidable.byContradiction fun h' => by
   obtain ⟨a, ha⟩ := hn h'
   rw [h] at ha
   cases ha
  subst this
  exact s.mk0 Zdc
 ·have s := s.first (B := vec cPfx ⟨some (pt b 0), 0, 0⟩ [] []) (fun h hp => ZrZ (l := []) (sp := []) hp)
  refine WP.appS s (i + 1) e r (by decide) (WP.appl s 0 rfl (by simp; omega) (by decide) (fun y w sp s => WP.ret ⟨sp, ?_⟩))
  exact s
theorem Zpt {A : HP} {sl : Sl} {l : List ZaE} (s : Ss W Hs w) (i : Nat) (e : nth Hs i = some A) (r : Rdb A cRg sl l) (hl : l.length ≤ 4000000000000) :
  WP (Zbm sl) w (fun y w' => ∃ sp, Ss W (vec cRg y l sp :: Hs) w') := by
 unfold Zbm
 have hn := (s.rd_len e r).2
 refine WP.ite (fun h => WP.ret ⟨[], ?_⟩) (fun h => WP.newv s (fun b w s => ?_))
 ·have : l = [] := Decidable.byContradiction fun h' => by
   obtain ⟨a, ha⟩ := hn h'
   rw [h] at ha
   cases ha
  subst this
  exact s.mk0 Zdc
 ·have s := s.first (B := vec cRg ⟨some (pt b 0), 0, 0⟩ [] []) (fun h hp => ZrZ (l := []) (sp := []) hp)
  refine WP.appS s (i + 1) e r (by decide) (WP.appl s 0 rfl (by simp; omega) (by decide) (fun y w sp s => WP.ret ⟨sp, ?_⟩))
  exact s
theorem Ztk {α : Type} {c : Cod α} {n : Nat} {sl : Sl} {l sp : List α} (s : Ss W (vec c sl l sp :: Hs) w) :
  WP (cut n sl none (some (sl.len : Int)) (some (sl.len : Int)) >>= fun r => pure r) w (fun y w' => Ss W (vec c y l [] :: Hs) w') := by
 obtain ⟨h1, h2, -⟩ := s.vec_len (i := 0) rfl
 refine WP.cutpre3 (by omega) (by omega) (by omega) (WP.ret ?_)
 have e : (⟨sl.a, Int.toNat (sl.len : Int), Int.toNat (sl.len : Int)⟩ : Sl) = ⟨sl.a, l.length, l.length⟩ := by
  rw [Int.toNat_natCast, h1]
 rw [e]
 exact s.first (fun h hh => ZtJ hh)
theorem ZlF {sd : Zaf} {m : ZeT} (s : Ss W Hs w) (r : RdSd Hs sd m) (h1 : m.nets.length ≤ 16) (h2 : m.ports.length ≤ 16) :
  WP (Zdq sd) w (fun y w' => ∃ sn sp, y = ⟨m.Not, sn, sp⟩ ∧ Ss W (vec cPfx sn m.nets [] :: vec cRg sp m.ports [] :: Hs) w') := by
 obtain ⟨hno, -, ⟨i, A, e, ra⟩, ⟨j, B, e2, rb⟩⟩ := r
 unfold Zdq
 refine WP.slot' s (fun _ w s => WP.slot' s (fun _ w s => WP.draw' s (fun w s => WP.step (ZgY s i e ra (by omega)) ?_)))
 rintro r3 w ⟨sp3, s⟩
 refine WP.step (Ztk s) (fun r4 w s => ?_)
 refine WP.step (Zpt s (j + 1) e2 rb (by omega)) ?_
 rintro r5 w ⟨sp5, s⟩
 refine WP.step (Ztk s) (fun r6 w s => WP.ret ⟨r4, r6, by rw [hno], ?_⟩)
 exact s.use [1, 0] rfl
structure CloR (m : Zbf) (y : Zae) : Prop where
 sc : RSc y m
 fn : y.From.Not = m.From.Not
 tn : y.To.Not = m.To.Not
theorem ZuG {x : Zae} {m : Zbf} (s : Ss W Hs w) (r : RdR Hs x m) (b : ZpB m) :
  WP (ZfI x) w (fun y w' => CloR m y ∧ Ss W (vec cPfx y.From.Nets m.From.nets [] :: vec cRg y.From.Ports m.From.ports [] :: vec cPfx y.To.Nets m.To.nets [] :: vec cRg y.To.Ports m.To.ports [] :: Hs) w') := by
 obtain ⟨⟨c1, c2, c3, c4, c5, c6, c7, c8, c9, c10⟩, f, t⟩ := r
 unfold ZfI
 refine WP.slot' s (fun _ w s => WP.slot' s (fun _ w s => WP.draw' s (fun w s => WP.step (ZlF s f b.fn b.fp) ?_)))
 rintro _ w ⟨sn, sp, rfl, s⟩
 refine WP.step (ZlF s t.push.push b.tn b.tp) ?_
 rintro _ w ⟨sn2, sp2, rfl, s⟩
 refine WP.ret ⟨⟨⟨c1, c2, c3, c4, c5, c6, c7, c8, c9, c10⟩, rfl, rfl⟩, ?_⟩
 exact s.use [2, 2, 0, 0] rfl
theorem Zrv {b1 b2 b3 : Nat} {to no : Bool} {sl : Sl} {l sp : List Zad} (s : Ss W (seps [pts true (pt b1 0) (cB.enc to), pts true (pt b2 0) (cL.enc sl), pts true (pt b3 0) (cB.enc no), vec cPfx sl l sp] :: Hs) w) :
  Ss W (NetH ⟨.func (.func 85) #[] #[.pointer (some (pt b1 0)), .pointer (some (pt b2 0)), .pointer (some (pt b3 0))], rfl⟩ to no l :: Hs) w := by
 refine s.frz1 (fun h hs => ?_)
 obtain ⟨h1, k1, l1, m1, a1, hs⟩ := Zki hs
 obtain ⟨h2, k2, l2, m2, a2, hs⟩ := Zki hs
 obtain ⟨h3, k3, l3, m3, a3, hs⟩ := Zki hs
 obtain ⟨h4, l4, a4⟩ := Zsf hs
 have e1 := Zfd l1
 have e2 := Zfd (l2.trans m1)
 have e3 := Zfd ((l3.trans m2).trans m1)
 have e4 := Zfd (((l4.trans m3).trans m2).trans m1)
 exact ⟨_, _, _, sl, rfl, Zls e1 (Zgx a1), Zls e2 (Zgx a2), Zls e3 (Zgx a3), Ze5 e4 (Zek a4)⟩
theorem ZmC {sd : Zaf} {m : ZeT} (s : Ss W Hs w) (r : RdSd Hs sd m) (h1 : m.nets.length ≤ 16) (to : Bool) :
  WP (Za0 sd to) w (fun y w' => Ss W (NetH y to m.Not m.nets :: Hs) w') := by
 obtain ⟨hno, -, ⟨i, A, e, ra⟩, -⟩ := r
 have st : ∀ {L : List HP} {w : World} {b : Nat} {α : Type} {c : Cod α} {x y : α} {f : Unit → M Any} {Q : Any → World → Prop} (k : Nat), Ss W L w → nth L k = some (pts true (pt b 0) (c.enc x)) → (∀ w, Ss W (up L k (pts true (pt b 0) (c.enc y))) w → WP (f ()) w Q) → WP (Lx.st c (pt b 0) y >>= f) w Q := by
  intro L w b α c x y f Q k s e g
  exact WP.st s k e (o := 0) (by rfl) (Upd.whole ((c.len _).trans (c.len _).symm)) (fun w s => g w s)
 unfold Za0
 rw [hno]
 refine WP.slot' s (fun _ w s => WP.newv s (fun b1 w s => WP.draws s (fun σ w s => ?_)))
 refine WP.ite (fun _ => WP.ite (fun _ => WP.ite (fun _ => ?_) (fun _ => ?_)) (fun _ => ?_)) (fun _ => WP.ite (fun _ => WP.ite (fun _ => ?_) (fun _ => ?_)) (fun _ => ?_))
 ·refine WP.step (ZgY s (i + 1) e ra (by omega)) ?_
  rintro y w ⟨sp, s⟩
  refine WP.newv s (fun b2 w s => WP.newv s (fun b3 w s => st 1 s rfl (fun w s => st 0 s rfl (fun w s => WP.ret ?_))))
  exact Zrv (s.use [3, 1, 0, 0] rfl).group
 ·refine WP.step (ZgY s (i + 1) e ra (by omega)) ?_
  rintro y w ⟨sp, s⟩
  refine WP.newv s (fun b2 w s => WP.newv s (fun b3 w s => st 0 s rfl (fun w s => st 1 s rfl (fun w s => WP.ret ?_))))
  exact Zrv (s.use [3, 0, 0, 0] rfl).group
 ·refine WP.newv s (fun b2 w s => WP.step (ZgY s (i + 2) e ra (by omega)) ?_)
  rintro y w ⟨sp, s⟩
  refine WP.newv s (fun b3 w s => st 0 s rfl (fun w s => st 2 s rfl (fun w s => WP.ret ?_)))
  exact Zrv (s.use [3, 0, 1, 0] rfl).group
 ·refine WP.newv s (fun b2 w s => WP.step (ZgY s (i + 2) e ra (by omega)) ?_)
  rintro y w ⟨sp, s⟩
  refine WP.newv s (fun b3 w s => st 2 s rfl (fun w s => st 0 s rfl (fun w s => WP.ret ?_)))
  exact Zrv (s.use [3, 2, 0, 0] rfl).group
 ·refine WP.newv s (fun b2 w s => WP.newv s (fun b3 w s => WP.step (ZgY s (i + 3) e ra (by omega)) ?_))
  rintro y w ⟨sp, s⟩
  refine st 2 s rfl (fun w s => st 1 s rfl (fun w s => WP.ret ?_))
  exact Zrv (s.use [3, 2, 1, 0] rfl).group
 ·refine WP.newv s (fun b2 w s => WP.newv s (fun b3 w s => WP.step (ZgY s (i + 3) e ra (by omega)) ?_))
  rintro y w ⟨sp, s⟩
  refine st 1 s rfl (fun w s => st 2 s rfl (fun w s => WP.ret ?_))
  exact Zrv (s.use [3, 1, 1, 0] rfl).group
theorem Zlt {sd : Zaf} {m : ZeT} (s : Ss W Hs w) (r : RdSd Hs sd m) (h1 : m.ports.length ≤ 16) (to : Bool) :
  WP (Zdp sd to) w (fun y w' => Ss W (ZlY y to m.ports :: Hs) w') := by
 obtain ⟨-, -, -, ⟨i, A, e, ra⟩⟩ := r
 unfold Zdp
 refine WP.slot' s (fun _ w s => WP.newv s (fun b1 w s => WP.step (Zpt s (i + 1) e ra (by omega)) ?_))
 rintro y w ⟨sp, s⟩
 refine WP.newv s (fun b2 w s => WP.st s 0 rfl (o := 0) (by rfl) (Upd.whole ((cL.len _).trans (cL.len _).symm)) (fun w s => WP.ret ?_))
 have s := (Ss.use s [2, 0, 0] rfl).group (l := [_, _, _])
 refine Ss.frz1 s (fun h hs => ?_)
 obtain ⟨h1, k1, l1, m1, a1, hs⟩ := Zki hs
 obtain ⟨h2, k2, l2, m2, a2, hs⟩ := Zki hs
 obtain ⟨h3, l3, a3⟩ := Zsf hs
 exact ⟨_, _, y, rfl, Zls (Zfd l1) (Zgx a1), Zls (Zfd (l2.trans m1)) (Zgx a2), Ze5 (Zfd ((l3.trans m2).trans m1)) (Zek a3)⟩
def Box (b : Nat) (ts : List TM) : HP := ex (fun p : Sl × List Any × List Any => p.2.1.length = ts.length) (fun p => seps [pts true (pt b 0) (cL.enc p.1), vec cV p.1 p.2.1 p.2.2, TssH p.2.1 ts])
theorem Zwf {b : Nat} {ts : List TM} {v : Any} {t : TM} {need : Bool} (s : Ss W (TstH v t :: Box b ts :: Hs) w) (hl : ts.length ≤ 11) :
  WP (ZbV need v (pt b 0)) w (fun _ w' => Ss W (Box b (ts ++ if need = true then [t] else []) :: Hs) w') := by
 unfold ZbV
 refine WP.ite (fun h => ?_) (fun h => WP.ret ?_)
 ·obtain ⟨⟨sl, vs, sp⟩, hlen, s⟩ := s.openx 1 rfl
  dsimp only at hlen s
  have s := (s.use [1] rfl).split (l := [_, _, _])
  refine WP.ld s 0 rfl (o := 0) (by rfl) (At.whole _) (WP.slot' s (fun _ w s => WP.appl s 1 rfl (by simp; omega) (by decide) (fun r w sp s => ?_)))
  refine WP.st s 0 rfl (o := 0) (by rfl) (Upd.whole ((cL.len _).trans (cL.len _).symm)) (fun w s => WP.ret ?_)
  rw [if_pos h]
  have s : Ss W (TssH vs ts :: TstH v t :: pts true (pt b 0) (cL.enc r) :: vec cV r (vs ++ [v]) sp :: Hs) w := s.use [2, 2, 0, 0] rfl
  have s := s.merge (C := TssH (vs ++ [v]) (ts ++ [t])) (fun h1 h2 h l1 l2 a1 a2 => (TssH.up h1 h l1 a1).snoc (TstH.up t h2 h l2 a2))
  have s := (s.use [1, 1, 0] rfl).group (l := [_, _, _])
  exact s.closex 0 (r, vs ++ [v], sp) rfl (by simp [hlen])
 ·rw [if_neg h, List.append_nil]
  exact s.drop
end
section
variable {W w : World} {Hs : List HP}
theorem put2 {b k : Nat} {ts : List TM} {v : Any} {t : TM} {need : Bool} {p : Prop} [Decidable p] (s : Ss W (TstH v t :: Box b ts :: Hs) w) (hp : need = true ↔ p) (hl : ts.length ≤ k) (hk : k ≤ 11) :
  WP (ZbV need v (pt b 0)) w (fun _ w' => ∃ ts2, ts2 = ts ++ (if p then [t] else []) ∧ ts2.length ≤ k + 1 ∧ Ss W (Box b ts2 :: Hs) w') := by
 refine (Zwf s (by omega)).mono (fun _ w s => ⟨_, ?_, ?_, s⟩)
 ·by_cases h : p
  ·rw [if_pos h, if_pos (hp.2 h)]
  ·rw [if_neg h, if_neg (fun h' => h (hp.1 h'))]
 ·split
  ·simp
   omega
  ·simp
   omega
theorem bne0 {n : Int} : (n != 0) = true ↔ n ≠ 0 := bne_iff_ne
theorem ZqL {sd : Zaf} {m : ZeT} (s : Ss W Hs w) (r : RdSd Hs sd m) : decide ((sd.Nets.len : Int) > 0) = true ↔ m.nets ≠ [] := by
 obtain ⟨-, -, ⟨i, A, e, ra⟩, -⟩ := r
 rw [decide_eq_true_iff, (s.rd_len e ra).1]
 exact ⟨fun h h' => by rw [h'] at h; simp at h, fun h => by have := List.length_pos_iff.2 h; omega⟩
theorem ZoX {sd : Zaf} {m : ZeT} (s : Ss W Hs w) (r : RdSd Hs sd m) : decide ((sd.Ports.len : Int) > 0) = true ↔ m.ports ≠ [] := by
 obtain ⟨-, -, -, ⟨i, A, e, ra⟩⟩ := r
 rw [decide_eq_true_iff, (s.rd_len e ra).1]
 exact ⟨fun h h' => by rw [h'] at h; simp at h, fun h => by have := List.length_pos_iff.2 h; omega⟩
theorem ZtP {x : Zae} {m : Zbf} (s : Ss W Hs w) (r : RdR Hs x m) (b : ZpB m) : WP (ZfH x) w (fun y w' => Ss W (TsH y (Zgs m) :: Hs) w') := by
 obtain ⟨⟨c1, c2, c3, c4, c5, c6, c7, c8, c9, c10⟩, f, t⟩ := r
 have n1 := ZqL s f
 have n2 := ZoX s f
 have n3 := ZqL s t
 have n4 := ZoX s t
 unfold ZfH
 rw [c3, c4, c5, c6, c7, c8, c9, c10]
 refine WP.slot' s (fun _ w s => WP.newv s (fun b2 w s => ?_))
 have s := s.mk0 (A := vec cV Sl.nil [] []) Zdc
 have s := s.mk0 (A := TssH [] []) TssH.nil
 have s := (s.use [2, 1, 0] rfl).group (l := [_, _, _])
 have s : Ss W (Box b2 [] :: Hs) w := s.closex 0 (Sl.nil, [], []) rfl rfl
 refine WP.step (put2 (k := 0) (t := .inn m.In) (s.mk0 rfl) bne0 (by simp) (by omega)) ?_
 rintro _ w ⟨ts1, e1, h1, s⟩
 refine WP.step (put2 (t := .vid m.Vid) (s.mk0 rfl) bne0 h1 (by omega)) ?_
 rintro _ w ⟨ts2, e2, h2, s⟩
 refine WP.step (put2 (t := .kind m.Kind) (s.mk0 rfl) bne0 h2 (by omega)) ?_
 rintro _ w ⟨ts3, e3, h3, s⟩
 refine WP.step (put2 (t := .proto m.Proto) (s.mk0 rfl) bne0 h3 (by omega)) ?_
 rintro _ w ⟨ts4, e4, h4, s⟩
 refine WP.draw' s (fun w s => WP.step (ZmC s f.push b.fn false) ?_)
 intro y w s
 refine WP.step (put2 (t := .net false m.From.Not m.From.nets) (s.first (fun h hh => ⟨y, rfl, hh⟩)) n1 h4 (by omega)) ?_
 rintro _ w ⟨ts5, e5, h5, s⟩
 refine WP.draw' s (fun w s => WP.step (Zlt s f.push b.fp false) ?_)
 intro y w s
 refine WP.step (put2 (t := .port false m.From.ports) (s.first (fun h hh => ⟨y, rfl, hh⟩)) n2 h5 (by omega)) ?_
 rintro _ w ⟨ts6, e6, h6, s⟩
 refine WP.draw' s (fun w s => WP.step (ZmC s t.push b.tn true) ?_)
 intro y w s
 refine WP.step (put2 (t := .net true m.To.Not m.To.nets) (s.first (fun h hh => ⟨y, rfl, hh⟩)) n3 h6 (by omega)) ?_
 rintro _ w ⟨ts7, e7, h7, s⟩
 refine WP.draw' s (fun w s => WP.step (Zlt s t.push b.tp true) ?_)
 intro y w s
 refine WP.step (put2 (t := .port true m.To.ports) (s.first (fun h hh => ⟨y, rfl, hh⟩)) n4 h7 (by omega)) ?_
 rintro _ w ⟨ts8, e8, h8, s⟩
 refine WP.step (put2 (t := .flag m.Set m.Clear) (s.mk0 rfl) bne0 h8 (by omega)) ?_
 rintro _ w ⟨ts9, e9, h9, s⟩
 refine WP.step (put2 (t := .typ m.Type_) (s.mk0 rfl) bne0 h9 (by omega)) ?_
 rintro _ w ⟨ts10, e10, h10, s⟩
 refine WP.step (put2 (t := .piece) (p := m.Pieces = true) (s.mk0 rfl) Iff.rfl h10 (by omega)) ?_
 rintro _ w ⟨ts11, e11, h11, s⟩
 have e : ts11 = Zgs m := by
  rw [e11, e10, e9, e8, e7, e6, e5, e4, e3, e2, e1]
  rfl
 rw [e] at s
 obtain ⟨⟨sl, vs, sp⟩, hlen, s⟩ := s.openx 0 rfl
 have s := Ss.split (l := [_, _, _]) s
 refine WP.ld s 0 rfl (o := 0) (by rfl) (At.whole _) (WP.ret ?_)
 have s := s.drop
 exact s.frz2 (fun h1 h2 h l1 l2 a1 a2 => ⟨vs, Ze5 (Zfd l1) (Zek a1), TssH.up _ _ (Zfd l2) (TssH.fr a2)⟩)
end
def RlH (m : Zbf) (x : Zae) : HP := fun h => CloR m x ∧ rdS cPfx false x.From.Nets m.From.nets h ∧ rdS cRg false x.From.Ports m.From.ports h ∧ rdS cPfx false x.To.Nets m.To.nets h ∧ rdS cRg false x.To.Ports m.To.ports h
theorem RlH.ro {m : Zbf} {x : Zae} : Ro (RlH m x) := Ro.tt.and (Ro.rdS.and (Ro.rdS.and (Ro.rdS.and Ro.rdS)))
theorem RlH.up {m : Zbf} {x : Zae} : Upw (RlH m x) := Upw.tt.and (Upw.rdS.and (Upw.rdS.and (Upw.rdS.and Upw.rdS)))
theorem RlH.fr {m : Zbf} {x : Zae} {h : PH} (a : RlH m x h) : RlH m x (frz h) := ⟨a.1, Zhr a.2.1, Zhr a.2.2.1, Zhr a.2.2.2.1, Zhr a.2.2.2.2⟩
def MemH (ms : List Zbf) (xs : List Zae) (tl : List Sl) : HP := fun h => xs.length = ms.length ∧ tl.length = ms.length ∧ ∀ (i : Nat) (m : Zbf) (x : Zae) (t : Sl), ms[i]? = some m → xs[i]? = some x → tl[i]? = some t → RlH m x h ∧ TsH t (Zgs m) h
theorem MemH.ro {ms : List Zbf} {xs : List Zae} {tl : List Sl} : Ro (MemH ms xs tl) := Ro.tt.and (Ro.tt.and (Ro.all fun i => Ro.all fun m => Ro.all fun x => Ro.all fun t => Ro.imp (Ro.imp (Ro.imp (RlH.ro.and TsH.ro)))))
theorem MemH.up {ms : List Zbf} {xs : List Zae} {tl : List Sl} : Upw (MemH ms xs tl) := Upw.tt.and (Upw.tt.and (Upw.all fun i => Upw.all fun m => Upw.all fun x => Upw.all fun t => Upw.imp (Upw.imp (Upw.imp (RlH.up.and TsH.up)))))
theorem MemH.nil {h : PH} : MemH [] [] [] h := ⟨rfl, rfl, fun i m x t h => by cases h⟩
theorem TsH.fr {r : Sl} {ts : List TM} {h : PH} (a : TsH r ts h) : TsH r ts (frz h) := by
 obtain ⟨vs, h1, h2⟩ := a
 exact ⟨vs, Zhr h1, h2.fr⟩
theorem MemH.fr {ms : List Zbf} {xs : List Zae} {tl : List Sl} {h : PH} (a : MemH ms xs tl h) : MemH ms xs tl (frz h) :=
 ⟨a.1, a.2.1, fun i m x t h1 h2 h3 => ⟨(a.2.2 i m x t h1 h2 h3).1.fr, (a.2.2 i m x t h1 h2 h3).2.fr⟩⟩
theorem Ze6 {α : Type} {l : List α} {i : Nat} {x y : α} (h : (l ++ [x])[i]? = some y) : (i < l.length ∧ l[i]? = some y) ∨ (i = l.length ∧ y = x) := by
 by_cases hi : i < l.length
 ·rw [List.getElem?_append_left hi] at h
  exact .inl ⟨hi, h⟩
 ·rw [List.getElem?_append_right (by omega)] at h
  cases hj : i - l.length with
  | zero =>
   rw [hj] at h
   cases h
   exact .inr ⟨by omega, rfl⟩
  | succ j =>
   rw [hj] at h
   cases h
theorem MemH.snoc {ms : List Zbf} {xs : List Zae} {tl : List Sl} {m : Zbf} {x : Zae} {t : Sl} {h : PH} (a : MemH ms xs tl h) (b : RlH m x h) (c : TsH t (Zgs m) h) : MemH (ms ++ [m]) (xs ++ [x]) (tl ++ [t]) h := by
 obtain ⟨a1, a2, a3⟩ := a
 refine ⟨by simp [a1], by simp [a2], fun i m' x' t' h1 h2 h3 => ?_⟩
 rcases Ze6 h1 with ⟨i1, h1⟩ | ⟨i1, rfl⟩
 ·rcases Ze6 h2 with ⟨i2, h2⟩ | ⟨i2, -⟩
  ·rcases Ze6 h3 with ⟨i3, h3⟩ | ⟨i3, -⟩
   ·exact a3 i m' x' t' h1 h2 h3
   ·omega
  ·omega
 ·rcases Ze6 h2 with ⟨i2, -⟩ | ⟨-, rfl⟩
  ·omega
  ·rcases Ze6 h3 with ⟨i3, -⟩ | ⟨-, rfl⟩
   ·omega
   ·exact ⟨b, c⟩
structure SetP where
 rs : Sl
 ts : Sl
 xs : List Zae
 tl : List Sl
 sp : List Zae
 sq : List Sl
def SetB (b : Nat) (ms : List Zbf) : HP := ex (fun p : SetP => p.xs.length = ms.length ∧ p.tl.length = ms.length) (fun p => seps [pts true (pt b 0) (ZdB.enc ⟨p.rs, p.ts⟩), vec Zak p.rs p.xs p.sp, vec cL p.ts p.tl p.sq, MemH ms p.xs p.tl])
def SetO (a : Addr) (ms : List Zbf) (rs ts : Sl) (xs : List Zae) (tl : List Sl) : HP := fun h => pts false a (ZdB.enc ⟨rs, ts⟩) h ∧ rdS Zak false rs xs h ∧ rdS cL false ts tl h ∧ MemH ms xs tl h
def SetH (a : Addr) (ms : List Zbf) : HP := fun h => ∃ rs, ∃ ts, ∃ xs, ∃ tl, SetO a ms rs ts xs tl h
theorem SetO.ro {a : Addr} {ms : List Zbf} {rs ts : Sl} {xs : List Zae} {tl : List Sl} : Ro (SetO a ms rs ts xs tl) := Ro.pts.and (Ro.rdS.and (Ro.rdS.and MemH.ro))
theorem SetH.ro {a : Addr} {ms : List Zbf} : Ro (SetH a ms) := Ro.exs fun rs => Ro.exs fun ts => Ro.exs fun xs => Ro.exs fun tl => SetO.ro
section
variable {W w : World} {Hs : List HP}
theorem ZwE {b : Nat} {ms : List Zbf} {x : Zae} {m : Zbf} (s : Ss W (SetB b ms :: Hs) w) (r : RdR Hs x m) (sm : ZpB m) (hl : ms.length ≤ 256) :
  WP (ZeI (some (pt b 0)) x) w (fun _ w' => Ss W (SetB b (ms ++ [m]) :: Hs) w') := by
 obtain ⟨⟨rs, ts, xs, tl, sp, sq⟩, ⟨hx, ht⟩, s⟩ := s.openx 0 rfl
 dsimp only at hx ht
 have s := Ss.split (l := [_, _, _, _]) s
 unfold ZeI
 refine WP.slot' s (fun _ w s => WP.draw' s (fun w s => WP.nilck (WP.ld s 0 rfl (o := 0) (by rfl) (Ze9 _) (WP.step (ZuG s r.push.push.push.push sm) ?_))))
 rintro y w ⟨cl, s⟩
 have s : Ss W (RlH m y :: _) w := Ss.frz1 (Ss.group (l := [_, _, _, _]) s) (C := RlH m y) (fun h hs => by
  obtain ⟨h1, k1, l1, m1, a1, hs⟩ := Zki hs
  obtain ⟨h2, k2, l2, m2, a2, hs⟩ := Zki hs
  obtain ⟨h3, k3, l3, m3, a3, hs⟩ := Zki hs
  obtain ⟨h4, l4, a4⟩ := Zsf hs
  exact ⟨cl, Ze5 (Zfd l1) (Zek a1), Ze5 (Zfd (l2.trans m1)) (Zek a2), Ze5 (Zfd ((l3.trans m2).trans m1)) (Zek a3), Ze5 (Zfd (((l4.trans m3).trans m2).trans m1)) (Zek a4)⟩)
 refine WP.same s 1 rfl (o := 0) (by rfl) (Ze9 _) (WP.slot' s (fun _ w s => WP.same s 1 rfl (o := 0) (by rfl) (Ze9 _) ?_))
 refine WP.appl s 2 rfl (by simp; omega) (by decide) (fun r6 w sp6 s => WP.nilck ?_)
 refine WP.st s 1 rfl (o := 0) (by rfl) (ZkI _ r6) (fun w s => WP.draw' s (fun w s => WP.nilck ?_))
 refine WP.ld s 1 rfl (o := 1) (by rfl) (Ze8 _) (WP.step (ZtP s r.push.push.push.push.push sm) ?_)
 intro r10 w s
 refine WP.same s 2 rfl (o := 1) (by rfl) (Ze8 _) (WP.slot' s (fun _ w s => WP.same s 2 rfl (o := 1) (by rfl) (Ze8 _) ?_))
 refine WP.appl s 4 rfl (by simp; omega) (by decide) (fun r12 w sq12 s => WP.nilck ?_)
 refine WP.st s 2 rfl (o := 1) (by rfl) (ZkH _ r12) (fun w s => WP.ret ?_)
 have s : Ss W (TsH r10 (Zgs m) :: RlH m y :: pts true (pt b 0) (ZdB.enc ⟨r6, r12⟩) :: vec Zak r6 (xs ++ [y]) sp6 :: vec cL r12 (tl ++ [r10]) sq12 :: MemH ms xs tl :: Hs) w := s
 have s := s.merge (C := fun h => TsH r10 (Zgs m) h ∧ RlH m y h) (fun h1 h2 h l1 l2 a1 a2 => ⟨TsH.up _ _ l1 a1, RlH.up _ _ l2 a2⟩)
 have s := s.use [4, 0] rfl
 have s := Ss.merge s (C := MemH (ms ++ [m]) (xs ++ [y]) (tl ++ [r10])) (fun h1 h2 h l1 l2 a1 a2 => (MemH.up _ _ l1 a1).snoc (RlH.up _ _ l2 a2.2) (TsH.up _ _ l2 a2.1))
 have s := (s.use [1, 1, 1, 0] rfl).group (l := [_, _, _, _])
 exact s.closex 0 ⟨r6, r12, xs ++ [y], tl ++ [r10], sp6, sq12⟩ rfl ⟨by simp [hx], by simp [ht]⟩
structure RdL (L : List HP) (xs : List Zae) (ms : List Zbf) : Prop where
 len : xs.length = ms.length
 at_ : ∀ (i : Nat) (x : Zae) (m : Zbf), xs[i]? = some x → ms[i]? = some m → RdR L x m
theorem RdL.push {L : List HP} {xs : List Zae} {ms : List Zbf} {A : HP} (r : RdL L xs ms) : RdL (A :: L) xs ms := ⟨r.len, fun i x m h1 h2 => (r.at_ i x m h1 h2).push⟩
def NewR (W : World) (Hs : List HP) (ms : List Zbf) (y : (Option Addr) × Int × Int) (w : World) : Prop := match newM ms with
 | some q => y = (none, q.1, q.2) ∧ Ss W Hs w
 | none => ∃ b, y = (some (pt b 0), 0, 0) ∧ Ss W (SetH (pt b 0) ms :: Hs) w
theorem ZtX {b : Nat} {ms : List Zbf} (s : Ss W (SetB b ms :: Hs) w) : Ss W (SetH (pt b 0) ms :: Hs) w := by
 obtain ⟨⟨rs, ts, xs, tl, sp, sq⟩, ⟨hx, ht⟩, s⟩ := s.openx 0 rfl
 refine Ss.frz1 s (fun h hs => ?_)
 obtain ⟨h1, k1, l1, m1, a1, hs⟩ := Zki hs
 obtain ⟨h2, k2, l2, m2, a2, hs⟩ := Zki hs
 obtain ⟨h3, k3, l3, m3, a3, hs⟩ := Zki hs
 obtain ⟨h4, l4, a4⟩ := Zsf hs
 exact ⟨rs, ts, xs, tl, Zls (Zfd l1) (Zgx a1), Ze5 (Zfd (l2.trans m1)) (Zek a2), Ze5 (Zfd ((l3.trans m2).trans m1)) (Zek a3), MemH.up _ _ (Zfd (((l4.trans m3).trans m2).trans m1)) a4.fr⟩
theorem ZsG {ms : List Zbf} {k : Nat} {m : Zbf} (h : ms[k]? = some m) (j : Nat) : newF j (ms.drop k) = if ckM m ≠ 0 then some (ckM m, (j : Int)) else newF (j + 1) (ms.drop (k + 1)) := by
 obtain ⟨h1, h2⟩ := List.getElem?_eq_some_iff.1 h
 rw [List.drop_eq_getElem_cons h1, h2]
 rfl
theorem ZwJ {A : HP} {sl : Sl} {xs : List Zae} {ms : List Zbf} (s : Ss W Hs w) (i : Nat) (e : nth Hs i = some A) (r : Rdb A Zak sl xs) (hr : RdL Hs xs ms) : WP (Zcc sl) w (fun y w' => NewR W Hs ms y w') := by
 have hlen := (s.rd_len e r).1
 have hl := hr.len
 unfold Zcc NewR newM
 refine WP.ite (fun h => WP.ret ?_) (fun h => ?_)
 ·rw [if_pos (by omega)]
  exact ⟨rfl, s⟩
 rw [if_neg (by omega)]
 refine WP.newv s (fun b w s => ?_)
 have s := s.mk0 (A := vec Zak Sl.nil [] []) Zdc
 have s := s.mk0 (A := vec cL Sl.nil [] []) Zdc
 have s := s.mk0 (A := MemH [] [] []) MemH.nil
 have s := (s.use [3, 2, 1, 0] rfl).group (l := [_, _, _, _])
 have s : Ss W (SetB b [] :: Hs) w := s.closex 0 ⟨Sl.nil, Sl.nil, [], [], [], []⟩ rfl ⟨rfl, rfl⟩
 refine WP.loopG (γ := Nat) (fun k (x : Int) w => x = (k : Int) ∧ k ≤ ms.length ∧ newF 0 ms = newF k (ms.drop k) ∧ Ss W (SetB b (ms.take k) :: Hs) w) (fun k _ => ms.length - k) 0 ⟨rfl, Nat.zero_le _, rfl, s⟩ ?_
 clear s
 rintro k _ w ⟨rfl, hk, hF, s⟩
 show WP (Zcc.L1 sl b (k : Int)) w _
 unfold Zcc.L1
 refine WP.ite (fun hc => ?_) (fun hc => ?_)
 ·have hk2 : k < xs.length := by omega
  have hx := List.getElem?_eq_getElem hk2
  have hm := List.getElem?_eq_getElem (show k < ms.length by omega)
  generalize xs[k] = x at hx
  generalize ms[k]'(show k < ms.length by omega) = m at hm
  have ht : ms.take (k + 1) = ms.take k ++ [m] := by
   rw [List.take_add_one, hm]
   rfl
  have rr := hr.at_ k x m hx hm
  refine WP.rdx s (i + 1) e r (by omega) (x := x) (by rw [Int.toNat_natCast]; exact hx) rfl (WP.slot' s (fun _ w s => WP.step (ZoD s rr.push) ?_))
  rintro _ w ⟨rfl, s⟩
  rw [ZsG hm] at hF
  refine WP.ite (fun h0 => WP.done ?_) (fun h0 => ?_)
  ·rw [if_pos h0] at hF
   rw [hF]
   exact ⟨rfl, s.drop⟩
  ·rw [if_neg h0] at hF
   refine WP.step (ZwE s rr (Zow (Decidable.not_not.1 h0)) (by rw [List.length_take]; omega)) ?_
   intro _ w s
   rw [← ht] at s
   refine WP.next ⟨k + 1, ⟨?_, by omega, hF, s⟩, by omega⟩
   rw [Zau (by omega) (by omega)]
   simp
 ·have hk2 : k = ms.length := by omega
  rw [hk2, List.drop_length] at hF
  rw [hk2, List.take_length] at s
  refine WP.done ?_
  rw [hF]
  exact ⟨b, rfl, ZtX s⟩
end
section
variable {W w : World} {Hs : List HP}
theorem Zqs (s : Ss W Hs w) (p : Zad) (hb : Byt p.IP.A.l) (ip : Zba) (hb2 : Byt ip.A.l) : WP (ZeM p ip) w (fun r w' => r = ctM p ip ∧ Ss W Hs w') := by
 unfold ZeM
 refine WP.slot' s (fun _ w s => WP.slot' s (fun _ w s => WP.step (Zgm s p hb) ?_))
 rintro _ w ⟨rfl, s⟩
 refine WP.step (R := fun y w' => y = decide (vpM p ≠ 0 ∨ ¬ ZdA ip > 0) ∧ Ss W Hs w') (WP.ite (fun h => WP.ret ⟨by simp [h], s⟩) (fun h => WP.step (Zrf s ip) ?_)) ?_
 ·rintro _ w ⟨rfl, s⟩
  exact WP.ret ⟨by rw [Bool.eq_iff_iff]; simp [Decidable.not_not.1 h], s⟩
 rintro _ w ⟨rfl, s⟩
 refine WP.step (R := fun y w' => y = decide (vpM p ≠ 0 ∨ ¬ ZdA ip > 0 ∨ p.IP.V ≠ ip.V) ∧ Ss W Hs w') (WP.ite (fun h => WP.ret ⟨?_, s⟩) (fun h => WP.ret ⟨?_, s⟩)) ?_
 ·have := of_decide_eq_true h
  refine (decide_eq_true ?_).symm
  rcases this with h | h
  ·exact .inl h
  ·exact .inr (.inl h)
 ·have hn : ¬ (vpM p ≠ 0 ∨ ¬ ZdA ip > 0) := fun h' => h (decide_eq_true h')
  rw [bne, Bool.eq_iff_iff]
  simp only [Bool.not_eq_true', beq_eq_false_iff_ne, ne_eq, decide_eq_true_eq]
  exact ⟨fun h => .inr (.inr h), fun h => by
   rcases h with h | h | h
   ·exact absurd (.inl h) hn
   ·exact absurd (.inr h) hn
   ·exact h⟩
 rintro _ w ⟨rfl, s⟩
 refine WP.ite (fun h => WP.ret ⟨?_, s⟩) (fun h => WP.draw' s (fun w s => ?_))
 ·have := of_decide_eq_true h
  refine (decide_eq_false fun h2 => ?_).symm
  rcases this with h | h | h
  ·exact h h2.1
  ·exact h h2.2.1
  ·exact h h2.2.2.1
 ·have hn : ¬ (vpM p ≠ 0 ∨ ¬ ZdA ip > 0 ∨ p.IP.V ≠ ip.V) := fun h' => h (decide_eq_true h')
  have hv : vpM p = 0 := Decidable.not_not.1 fun h' => hn (.inl h')
  obtain ⟨_, l0, l1, _⟩ := ZpJ hv
  have hz := Zl0 p.IP
  refine WP.step (Zo7 s ip.A hb2 l0 (by omega)) ?_
  rintro _ w ⟨rfl, s⟩
  refine WP.ret ⟨Zu1 ?_, s⟩
  unfold ctM
  rw [decide_eq_true_iff]
  exact ⟨fun h => h.2.2.2, fun h => ⟨hv, Decidable.not_not.1 fun h' => hn (.inr (.inl h')), Decidable.not_not.1 fun h' => hn (.inr (.inr h')), h⟩⟩
end
structure PkB (p : Zac) : Prop where
 a1 : Byt p.Arp.SIP.A.l
 a2 : Byt p.Arp.TIP.A.l
 b1 : Byt p.Ip4.Src.A.l
 b2 : Byt p.Ip4.Dst.A.l
 c1 : Byt p.Ip6.Src.A.l
 c2 : Byt p.Ip6.Dst.A.l
structure VidR (L : List HP) (p : Zac) (vid : Option Int) : Prop where
 no : vid = none → p.Tags.len = 0
 some_ : ∀ x, vid = some x → 0 < p.Tags.len ∧ ∃ i A a, nth L i = some A ∧ p.Tags.a = some a ∧ Zfw A (a.add 3) ((cI .i64).enc x)
theorem VidR.push {L : List HP} {p : Zac} {vid : Option Int} {A : HP} (r : VidR L p vid) : VidR (A :: L) p vid :=
 ⟨r.no, fun x h => by
  obtain ⟨h1, i, B, a, h2, h3, h4⟩ := r.some_ x h
  exact ⟨h1, i + 1, B, a, h2, h3, h4⟩⟩
theorem PkB.addr {p : Zac} (b : PkB p) (to : Bool) : Byt (Zga p to).1.A.l := by
 unfold Zga
 split
 ·cases to
  ·exact b.a1
  ·exact b.a2
 ·split
  ·cases to
   ·exact b.b1
   ·exact b.b2
  ·split
   ·cases to
    ·exact b.c1
    ·exact b.c2
   ·exact fun x hx => of_decide_eq_true (List.all_eq_true.1 (show (Zci.A.l).all (fun x => decide (0 ≤ x ∧ x ≤ 255)) = true by decide) x hx)
section
variable {W w : World} {Hs : List HP}
theorem ZrN (s : Ss W Hs w) (p : Zac) (to : Bool) : WP (ZeH p to) w (fun y w' => y = Zga p to ∧ Ss W Hs w') := by
 unfold ZeH Zga
 refine WP.slot' s (fun _ w s => WP.slot' s (fun _ w s => WP.slot' s (fun _ w s => WP.slot' s (fun _ w s => ?_))))
 refine WP.ite (fun h => ?_) (fun h => WP.ite (fun h2 => ?_) (fun h2 => WP.ite (fun h3 => ?_) (fun h3 => WP.ret ⟨?_, s⟩)))
 ·rw [if_pos h]
  exact WP.draw' s (fun w s => WP.ite (fun h' => WP.ret ⟨by rw [if_pos h'], s⟩) (fun h' => WP.ret ⟨by rw [if_neg h'], s⟩))
 ·rw [if_neg h, if_pos h2]
  exact WP.draw' s (fun w s => WP.ite (fun h' => WP.ret ⟨by rw [if_pos h'], s⟩) (fun h' => WP.ret ⟨by rw [if_neg h'], s⟩))
 ·rw [if_neg h, if_neg h2, if_pos h3]
  exact WP.draw' s (fun w s => WP.ite (fun h' => WP.ret ⟨by rw [if_pos h'], s⟩) (fun h' => WP.ret ⟨by rw [if_neg h'], s⟩))
 ·rw [if_neg h, if_neg h2, if_neg h3]
theorem Zsy (s : Ss W Hs w) (p : Zac) (to : Bool) : WP (Zfc p to) w (fun y w' => y = Zgh p to ∧ Ss W Hs w') := by
 unfold Zfc Zgh
 refine WP.slot' s (fun _ w s => WP.ite (fun h => ?_) (fun h => WP.ite (fun h2 => ?_) (fun h2 => WP.ret ⟨?_, s⟩)))
 ·rw [if_pos h]
  exact WP.draw' s (fun w s => WP.ite (fun h' => WP.ret ⟨by rw [if_pos h'], s⟩) (fun h' => WP.ret ⟨by rw [if_neg h'], s⟩))
 ·rw [if_neg h, if_pos h2]
  exact WP.draw' s (fun w s => WP.ite (fun h' => WP.ret ⟨by rw [if_pos h'], s⟩) (fun h' => WP.ret ⟨by rw [if_neg h'], s⟩))
 ·rw [if_neg h, if_neg h2]
theorem Zvl {v : Any} {to no : Bool} {l : List Zad} {b1 b2 b3 : Addr} {sl : Sl} {p : Zac} (s : Ss W (NetO v to no l b1 b2 b3 sl :: Hs) w) (hb : Byts l) (pb : PkB p) (hl : l.length ≤ 9000000000000000000) :
  WP (Zda p b1 b2 b3) w (fun y w' => y = ((Zga p to).2 && !(l.any (fun n => ctM n (Zga p to).1) == no)) ∧ Ss W (NetO v to no l b1 b2 b3 sl :: Hs) w') := by
 have H1 : Zfw (NetO v to no l b1 b2 b3 sl) b1 (cB.enc to) := fun h hh => Zfw.pts h hh.2.1
 have H2 : Zfw (NetO v to no l b1 b2 b3 sl) b2 (cL.enc sl) := fun h hh => Zfw.pts h hh.2.2.1
 have H3 : Zfw (NetO v to no l b1 b2 b3 sl) b3 (cB.enc no) := fun h hh => Zfw.pts h hh.2.2.2.1
 have H4 : Rdb (NetO v to no l b1 b2 b3 sl) cPfx sl l := fun h hh => ZbD h hh.2.2.2.2
 unfold Zda
 refine WP.slot' s (fun _ w s => WP.ldh s 0 rfl H1 rfl (WP.step (ZrN s p to) ?_))
 rintro _ w ⟨rfl, s⟩
 refine WP.newv s (fun b4 w s => WP.st s 0 rfl (o := 0) (by rfl) (Upd.whole ((ZaG.len _).trans (ZaG.len _).symm)) (fun w s => ?_))
 refine WP.ldh s 1 rfl H2 rfl (WP.step (R := fun y w' => y = l.any (fun n => ctM n (Zga p to).1) ∧ Ss W (NetO v to no l b1 b2 b3 sl :: Hs) w') ?_ ?_)
 ·unfold Zbl Zaj
  refine WP.step (Zpi (f := fun n => ctM n (Zga p to).1) s 1 rfl H4 rfl hl (fun x hx w s => ?_)) (fun y w h => WP.ret ⟨h.1, Ss.drop h.2⟩)
  unfold Zc5
  refine WP.slot' s (fun _ w s => WP.ld s 0 rfl (o := 0) (by rfl) (At.whole _) (WP.step (Zqs s x (hb x hx) _ (pb.addr to)) (fun y w h => WP.ret h)))
 rintro _ w ⟨rfl, s⟩
 refine WP.step (R := fun y w' => y = ((Zga p to).2 && !(l.any (fun n => ctM n (Zga p to).1) == no)) ∧ Ss W (NetO v to no l b1 b2 b3 sl :: Hs) w') (WP.ite (fun h => WP.ldh s 0 rfl H3 rfl (WP.ret ⟨?_, s⟩)) (fun h => WP.ret ⟨?_, s⟩)) (fun y w h => WP.ret h)
 ·rw [h]
  rfl
 ·cases hb : (Zga p to).2 with
  | true => exact absurd hb h
  | false => rfl
theorem Zt9 {v : Any} {to : Bool} {l : List ZaE} {b1 b2 : Addr} {sl : Sl} {p : Zac} (s : Ss W (Znl v to l b1 b2 sl :: Hs) w) (hl : l.length ≤ 9000000000000000000) :
  WP (ZcT p b1 b2) w (fun y w' => y = ((Zgh p to).2 && l.any (fun r => inR (Zgh p to).1 r.Lo r.Hi)) ∧ Ss W (Znl v to l b1 b2 sl :: Hs) w') := by
 have H1 : Zfw (Znl v to l b1 b2 sl) b1 (cB.enc to) := fun h hh => Zfw.pts h hh.2.1
 have H2 : Zfw (Znl v to l b1 b2 sl) b2 (cL.enc sl) := fun h hh => Zfw.pts h hh.2.2.1
 have H4 : Rdb (Znl v to l b1 b2 sl) cRg sl l := fun h hh => ZbD h hh.2.2.2
 unfold ZcT
 refine WP.slot' s (fun _ w s => WP.ldh s 0 rfl H1 rfl (WP.step (Zsy s p to) ?_))
 rintro _ w ⟨rfl, s⟩
 refine WP.newv s (fun b4 w s => WP.st s 0 rfl (o := 0) (by rfl) (Upd.whole (((cI .i64).len _).trans ((cI .i64).len _).symm)) (fun w s => ?_))
 refine WP.step (R := fun y w' => y = ((Zgh p to).2 && l.any (fun r => inR (Zgh p to).1 r.Lo r.Hi)) ∧ Ss W (Znl v to l b1 b2 sl :: Hs) w') (WP.ite (fun h => WP.ldh s 1 rfl H2 rfl ?_) (fun h => WP.ret ⟨?_, s.drop⟩)) (fun y w h => WP.ret h)
 ·refine WP.step (R := fun y w' => y = l.any (fun r => inR (Zgh p to).1 r.Lo r.Hi) ∧ Ss W (Znl v to l b1 b2 sl :: Hs) w') ?_ (fun y w h' => WP.ret ⟨by rw [h, h'.1]; rfl, h'.2⟩)
  unfold Zbq Zao
  refine WP.step (Zpi (f := fun r => inR (Zgh p to).1 r.Lo r.Hi) s 1 rfl H4 rfl hl (fun x hx w s => ?_)) (fun y w h => WP.ret ⟨h.1, Ss.drop h.2⟩)
  unfold ZcO
  refine WP.slot' s (fun _ w s => WP.ld s 0 rfl (o := 0) (by rfl) (At.whole _) (WP.step (Zmi _ x.Lo x.Hi) ?_))
  rintro _ _ ⟨rfl, rfl⟩
  exact WP.ret ⟨rfl, s⟩
 ·cases hb : (Zgh p to).2 with
  | true => exact absurd hb h
  | false => rfl
end
theorem Zpj {t : TypeId} {x : Value} : ifc (.iface t x) = some (t, x) := rfl
theorem ZpA : ∀ l : List Addr, Zqo (l.map fun a => Value.pointer (some a)) = some l
 | [] => rfl
 | a :: l => by
  show (Zqo (l.map fun a => Value.pointer (some a))).map (a :: ·) = _
  rw [ZpA l]
  rfl
theorem Zpw {g : FuncId} {l : List Addr} : Zj4 (.func (.func g) #[] (l.map fun a => Value.pointer (some a)).toArray) = some (g, l) := by
 show (if (#[] : Array Value).size = 0 then (Zqo (l.map fun a => Value.pointer (some a))).map fun l => (g, l) else none) = _
 rw [ZpA]
 rfl
section
variable {v : Any} {port : Int} {p : Zac}
theorem Zwt {n : Int} (h : v.v = .iface 145 ((cI .i64).val n)) : Zar.iv v port p = Zc6 n port p := by
 unfold Zar.iv
 rw [h, Zpj, Option.elim_some]
 dsimp only
 repeat rw [if_neg (by decide)]
 rw [if_pos rfl, Cod.un_val, Option.elim_some]
theorem Zwr {n : Int} (h : v.v = .iface 146 ((cI .i64).val n)) : Zar.iv v port p = ZcN n port p := by
 unfold Zar.iv
 rw [h, Zpj, Option.elim_some]
 dsimp only
 repeat rw [if_neg (by decide)]
 rw [if_pos rfl, Cod.un_val, Option.elim_some]
theorem Zvv {n : Int} (h : v.v = .iface 147 ((cI .i64).val n)) : Zar.iv v port p = ZcG n port p := by
 unfold Zar.iv
 rw [h, Zpj, Option.elim_some]
 dsimp only
 repeat rw [if_neg (by decide)]
 rw [if_pos rfl, Cod.un_val, Option.elim_some]
theorem Zun {n : Int} (h : v.v = .iface 148 ((cI .i64).val n)) : Zar.iv v port p = Zco n port p := by
 unfold Zar.iv
 rw [h, Zpj, Option.elim_some]
 dsimp only
 repeat rw [if_neg (by decide)]
 rw [if_pos rfl, Cod.un_val, Option.elim_some]
theorem ZsY {f : Any} (h : v.v = .iface 149 f.v) : Zar.iv v port p = Zcg (Zar.fv f) port p := by
 unfold Zar.iv
 rw [h, Zpj, Option.elim_some]
 dsimp only
 repeat rw [if_neg (by decide)]
 rw [if_pos rfl, show f.v = cV.val f from rfl, Cod.un_val, Option.elim_some]
theorem Zvw {q : Zb3} (h : v.v = .iface 152 (ZbF.val q)) : Zar.iv v port p = ZcH q port p := by
 unfold Zar.iv
 rw [h, Zpj, Option.elim_some]
 dsimp only
 repeat rw [if_neg (by decide)]
 rw [if_pos rfl, Cod.un_val, Option.elim_some]
theorem Zws {n : Int} (h : v.v = .iface 153 ((cI .i64).val n)) : Zar.iv v port p = ZcE n port p := by
 unfold Zar.iv
 rw [h, Zpj, Option.elim_some]
 dsimp only
 repeat rw [if_neg (by decide)]
 rw [if_pos rfl, Cod.un_val, Option.elim_some]
theorem Zuo {q : Zep} (h : v.v = .iface 155 (Zcf.val q)) : Zar.iv v port p = Zcp q port p := by
 unfold Zar.iv
 rw [h, Zpj, Option.elim_some]
 dsimp only
 repeat rw [if_neg (by decide)]
 rw [if_pos rfl, Cod.un_val, Option.elim_some]
theorem Zwv {f : Any} {a b c : Addr} (h : f.v = .func (.func 85) #[] #[.pointer (some a), .pointer (some b), .pointer (some c)]) : Zar.fv f p = Zda p a b c := by
 unfold Zar.fv
 rw [h, show Zj4 (.func (.func 85) #[] #[.pointer (some a), .pointer (some b), .pointer (some c)]) = some (85, [a, b, c]) from Zpw (l := [a, b, c]), Option.elim_some]
 dsimp only
 repeat rw [if_neg (by decide)]
 rw [if_pos rfl]
theorem ZvC {f : Any} {a b : Addr} (h : f.v = .func (.func 90) #[] #[.pointer (some a), .pointer (some b)]) : Zar.fv f p = ZcT p a b := by
 unfold Zar.fv
 rw [h, show Zj4 (.func (.func 90) #[] #[.pointer (some a), .pointer (some b)]) = some (90, [a, b]) from Zpw (l := [a, b]), Option.elim_some]
 dsimp only
 repeat rw [if_neg (by decide)]
 rw [if_pos rfl]
end
section
variable {W w : World} {Hs : List HP}
theorem WP.and2 {q r : Prop} [Decidable q] [Decidable r] {c : Bool} {f : Bool → M Bool} {Q : Bool → World → Prop} (hc : c = true ↔ r) (k : WP (f (decide (q ∧ r))) w Q) : WP ((if q then pure c else pure false) >>= f) w Q := by
 refine WP.step (R := fun y w' => y = decide (q ∧ r) ∧ w = w') (WP.ite (fun h => WP.ret ⟨?_, rfl⟩) (fun h => WP.ret ⟨(decide_eq_false (fun h' => h h'.1)).symm, rfl⟩)) ?_
 ·rw [Bool.eq_iff_iff, hc, decide_eq_true_iff]
  exact ⟨fun h' => ⟨h, h'⟩, fun h' => h'.2⟩
 ·rintro _ _ ⟨rfl, rfl⟩
  exact k
theorem Zvz {v : Any} {t : TM} {port : Int} {p : Zac} {vid : Option Int} (s : Ss W (TstH v t :: Hs) w) (vr : VidR Hs p vid) (pb : PkB p) (hb : ∀ to no l, t = .net to no l → Byts l ∧ l.length ≤ 9000000000000000000) (hc : ∀ to l, t = .port to l → l.length ≤ 9000000000000000000) :
  WP (Zar.iv v port p) w (fun y w' => y = t.holds port p vid ∧ Ss W Hs w') := by
 obtain ⟨h0, hh0⟩ := s.has (i := 0) rfl
 cases t with
 | inn n =>
  rw [Zwt hh0]
  unfold Zc6 TM.holds
  exact WP.slot' s.drop (fun _ w s => WP.ret ⟨rfl, s⟩)
 | vid n =>
  rw [Zwr hh0]
  unfold ZcN TM.holds
  refine WP.slot' s.drop (fun _ w s => ?_)
  cases vid with
  | none =>
   have h := vr.no rfl
   refine WP.step (R := fun y w' => y = false ∧ Ss W Hs w') (WP.ite (fun h' => by omega) (fun _ => WP.ret ⟨rfl, s⟩)) (fun y w h => WP.ret h)
  | some x =>
   obtain ⟨hl, i, A, a, e, ha, H⟩ := vr.some_ x rfl
   refine WP.step (R := fun y w' => y = (x == n) ∧ Ss W Hs w') (WP.ite (fun _ => ?_) (fun h' => by omega)) (fun y w h => WP.ret h)
   refine WP.idxs (a := a) (n := p.Tags.len) (k := p.Tags.cap) (by rw [← ha]) (by omega) (by omega) ?_
   refine WP.ldh s i e H ?_ (WP.ret ⟨rfl, s⟩)
   rw [ZeN]
   rfl
 | kind n =>
  rw [Zvv hh0]
  unfold ZcG TM.holds
  exact WP.slot' s.drop (fun _ w s => WP.ret ⟨rfl, s⟩)
 | proto n =>
  rw [Zun hh0]
  unfold Zco TM.holds
  refine WP.slot' s.drop (fun _ w s => WP.and2 (r := p.Ip4.Proto = n) beq_iff_eq ?_)
  refine WP.step (R := fun y w' => y = decide ((p.Kind = 2 ∧ p.Ip4.Proto = n) ∨ (p.Kind = 3 ∧ p.Ip6.Next = n)) ∧ Ss W Hs w') (WP.ite (fun h => WP.ret ⟨(decide_eq_true (.inl (of_decide_eq_true h))).symm, s⟩) (fun h => WP.and2 (r := p.Ip6.Next = n) beq_iff_eq (WP.ret ⟨?_, s⟩))) (fun y w h => WP.ret h)
  exact decide_eq_decide.2 ⟨.inr, fun h' => h'.elim (fun h' => absurd (decide_eq_true h') h) id⟩
 | net to no l =>
  obtain ⟨f, hv, -⟩ := hh0
  have s : Ss W (NetH f to no l :: Hs) w := s.first (fun h hh => by
   obtain ⟨f2, h1, h2⟩ := hh
   rw [hv] at h1
   have : f = f2 := Any.eq (by injection h1)
   rw [this]
   exact h2)
  rw [ZsY hv]
  unfold Zcg TM.holds
  refine WP.slot' s (fun _ w s => ?_)
  obtain ⟨b1, s⟩ := Ss.exs s
  obtain ⟨b2, s⟩ := Ss.exs s
  obtain ⟨b3, s⟩ := Ss.exs s
  obtain ⟨sl, s⟩ := Ss.exs s
  obtain ⟨h1, hh1⟩ := s.has (i := 0) rfl
  rw [Zwv hh1.1]
  have q := hb to no l rfl
  exact WP.step (Zvl s q.1 pb q.2) (fun y w h => WP.ret ⟨h.1, Ss.drop h.2⟩)
 | port to l =>
  obtain ⟨f, hv, -⟩ := hh0
  have s : Ss W (ZlY f to l :: Hs) w := s.first (fun h hh => by
   obtain ⟨f2, h1, h2⟩ := hh
   rw [hv] at h1
   have : f = f2 := Any.eq (by injection h1)
   rw [this]
   exact h2)
  rw [ZsY hv]
  unfold Zcg TM.holds
  refine WP.slot' s (fun _ w s => ?_)
  obtain ⟨b1, s⟩ := Ss.exs s
  obtain ⟨b2, s⟩ := Ss.exs s
  obtain ⟨sl, s⟩ := Ss.exs s
  obtain ⟨h1, hh1⟩ := s.has (i := 0) rfl
  rw [ZvC hh1.1]
  exact WP.step (Zt9 s (hc to l rfl)) (fun y w h => WP.ret ⟨h.1, Ss.drop h.2⟩)
 | flag sb cb =>
  rw [Zvw hh0]
  unfold ZcH TM.holds
  refine WP.slot' s.drop (fun _ w s => WP.slot' s (fun _ w s => WP.and2 (r := band .i64 p.Tcp.Flags sb = sb) beq_iff_eq (WP.and2 (r := band .i64 p.Tcp.Flags cb = 0) beq_iff_eq (WP.ret ⟨decide_eq_decide.2 ?_, s⟩))))
  rw [decide_eq_true_iff, and_assoc]
 | typ n =>
  rw [Zws hh0]
  unfold ZcE TM.holds
  exact WP.slot' s.drop (fun _ w s => WP.and2 (r := p.Icmp.Type_ = IntKind.wrap .i64 (n - 1)) beq_iff_eq (WP.ret ⟨rfl, s⟩))
 | piece =>
  rw [Zuo hh0]
  unfold Zcp TM.holds
  refine WP.slot' s.drop (fun _ w s => WP.slot' s (fun _ w s => ?_))
  refine WP.step (R := fun y w' => y = decide (p.Kind = 2 ∧ (p.Ip4.MF = true ∨ p.Ip4.Off > 0)) ∧ Ss W Hs w') (WP.ite (fun h => WP.step (R := fun y w' => y = decide (p.Kind = 2 ∧ (p.Ip4.MF = true ∨ p.Ip4.Off > 0)) ∧ Ss W Hs w') (WP.ite (fun h2 => WP.ret ⟨(decide_eq_true ⟨h, .inl h2⟩).symm, s⟩) (fun h2 => WP.ret ⟨decide_eq_decide.2 ⟨fun h' => ⟨h, .inr h'⟩, fun h' => h'.2.elim (fun h' => absurd h' h2) id⟩, s⟩)) (fun y w h => WP.ret h)) (fun h => WP.ret ⟨(decide_eq_false (fun h' => h h'.1)).symm, s⟩)) ?_
  rintro _ w ⟨rfl, s⟩
  refine WP.step (R := fun y w' => y = decide ((p.Kind = 2 ∧ (p.Ip4.MF = true ∨ p.Ip4.Off > 0)) ∨ (p.Kind = 3 ∧ p.Ip6.Frag.Has = true)) ∧ Ss W Hs w') (WP.ite (fun h => WP.ret ⟨(decide_eq_true (.inl (of_decide_eq_true h))).symm, s⟩) (fun h => WP.and2 (r := p.Ip6.Frag.Has = true) Iff.rfl (WP.ret ⟨?_, s⟩))) (fun y w h => WP.ret h)
  exact decide_eq_decide.2 ⟨.inr, fun h' => h'.elim (fun h' => absurd (decide_eq_true h') h) id⟩
end
structure ZtD (m : Zbf) : Prop where
 b1 : Byts m.From.nets
 b2 : Byts m.To.nets
 sm : ZpB m
theorem Zr8 {m : Zbf} (f : ZtD m) : ∀ to no l, TM.net to no l ∈ Zgs m → Byts l ∧ l.length ≤ 9000000000000000000 := by
 intro to no l h
 have h1 := f.sm.fn
 have h2 := f.sm.tn
 unfold Zgs at h
 simp only [List.mem_append, List.mem_ite_nil_right, List.mem_singleton, reduceCtorEq, and_false, or_false, false_or, TM.net.injEq] at h
 rcases h with ⟨-, -, -, rfl⟩ | ⟨-, -, -, rfl⟩
 ·exact ⟨f.b1, by omega⟩
 ·exact ⟨f.b2, by omega⟩
theorem Zri {m : Zbf} (f : ZtD m) : ∀ to l, TM.port to l ∈ Zgs m → l.length ≤ 9000000000000000000 := by
 intro to l h
 have h1 := f.sm.fp
 have h2 := f.sm.tp
 unfold Zgs at h
 simp only [List.mem_append, List.mem_ite_nil_right, List.mem_singleton, reduceCtorEq, and_false, or_false, false_or, TM.port.injEq] at h
 rcases h with ⟨-, -, rfl⟩ | ⟨-, -, rfl⟩
 ·omega
 ·omega
theorem Zr9 (m : Zbf) : (Zgs m).length ≤ 11 := by
 have q : ∀ {p : Prop} [Decidable p] {t : TM}, (if p then [t] else []).length ≤ 1 := fun {p} _ {t} => by
  split <;> simp
 unfold Zgs
 simp only [List.length_append]
 have h1 := q (p := m.In ≠ 0) (t := .inn m.In)
 have h2 := q (p := m.Vid ≠ 0) (t := .vid m.Vid)
 have h3 := q (p := m.Kind ≠ 0) (t := .kind m.Kind)
 have h4 := q (p := m.Proto ≠ 0) (t := .proto m.Proto)
 have h5 := q (p := m.From.nets ≠ []) (t := .net false m.From.Not m.From.nets)
 have h6 := q (p := m.From.ports ≠ []) (t := .port false m.From.ports)
 have h7 := q (p := m.To.nets ≠ []) (t := .net true m.To.Not m.To.nets)
 have h8 := q (p := m.To.ports ≠ []) (t := .port true m.To.ports)
 have h9 := q (p := bor .i64 m.Set m.Clear ≠ 0) (t := .flag m.Set m.Clear)
 have h10 := q (p := m.Type_ ≠ 0) (t := .typ m.Type_)
 have h11 := q (p := m.Pieces = true) (t := .piece)
 omega
theorem ZmH {ms : List Zbf} {k : Nat} {m : Zbf} {port : Int} {p : Zac} {vid : Option Int} (h : ms[k]? = some m) (j : Nat) : ZiP port p vid j (ms.drop k) = if ZhI port p vid m = true then ⟨m.Act, m.Class, (j : Int)⟩ else ZiP port p vid (j + 1) (ms.drop (k + 1)) := by
 obtain ⟨h1, h2⟩ := List.getElem?_eq_some_iff.1 h
 rw [List.drop_eq_getElem_cons h1, h2]
 rfl
section
variable {W w : World} {Hs : List HP}
theorem ZuT {a : Addr} {ms : List Zbf} {port : Int} {p : Zac} {vid : Option Int} (s : Ss W Hs w) (j : Nat) (e : nth Hs j = some (SetH a ms)) (vr : VidR Hs p vid) (pb : PkB p) (hf : ∀ m ∈ ms, ZtD m) (hl : ms.length ≤ 9000000000000000000) :
  WP (Za9 (some a) port p) w (fun y w' => y = ZnU port p vid ms ∧ Ss W Hs w') := by
 have s := s.copy j e SetH.ro (fun h hh => hh)
 obtain ⟨rs, s⟩ := Ss.exs s
 obtain ⟨ts, s⟩ := Ss.exs s
 obtain ⟨xs, s⟩ := Ss.exs s
 obtain ⟨tl, s⟩ := Ss.exs s
 have H0 : Zfw (SetO a ms rs ts xs tl) a (ZdB.enc ⟨rs, ts⟩) := fun h hh => Zfw.pts h hh.1
 have Ht : Zfw (SetO a ms rs ts xs tl) (a.add 1) (cL.enc ts) := H0.at_ (Ze8 _)
 have Hr : Zfw (SetO a ms rs ts xs tl) (a.add 0) (cL.enc rs) := H0.at_ (Ze9 _)
 have Rx : Rdb (SetO a ms rs ts xs tl) Zak rs xs := fun h hh => ZbD h hh.2.1
 have Rt : Rdb (SetO a ms rs ts xs tl) cL ts tl := fun h hh => ZbD h hh.2.2.1
 obtain ⟨h0, hh0⟩ := s.has (i := 0) rfl
 obtain ⟨lx, lt, mem⟩ := hh0.2.2.2
 have len := (s.rd_len (i := 0) rfl Rt).1
 unfold Za9 ZnU
 refine WP.newv s (fun b1 w s => WP.newv s (fun b2 w s => WP.slot' s (fun _ w s => WP.nilck (WP.ldh s 2 rfl Ht rfl ?_))))
 refine WP.loopG (γ := Nat) (fun k (x : Int × Za2) w => x.1 = (k : Int) ∧ k ≤ ms.length ∧ ZiP port p vid 0 ms = ZiP port p vid k (ms.drop k) ∧ Ss W (pts true (pt b2 0) (Zag.enc p) :: pts true (pt b1 0) ((cI .i64).enc port) :: SetO a ms rs ts xs tl :: Hs) w) (fun k _ => ms.length - k) 0 ⟨rfl, Nat.zero_le _, rfl, s⟩ ?_
 clear s
 rintro k ⟨x1, x2⟩ w ⟨h1, hk, hF, s⟩
 dsimp only at h1
 subst h1
 show WP (Za9.L1 (some a) b1 b2 ts (k : Int) x2) w _
 unfold Za9.L1
 refine WP.ite (fun hc => ?_) (fun hc => ?_)
 ·have hk2 : k < ms.length := by omega
  have hm := List.getElem?_eq_getElem hk2
  have hx := List.getElem?_eq_getElem (show k < xs.length by omega)
  have ht := List.getElem?_eq_getElem (show k < tl.length by omega)
  generalize ms[k] = m at hm
  generalize xs[k]'(show k < xs.length by omega) = x at hx
  generalize tl[k]'(show k < tl.length by omega) = t at ht
  have fm := hf m (List.mem_of_getElem? hm)
  obtain ⟨rl, -⟩ := mem k m x t hm hx ht
  rw [ZmH hm] at hF
  refine WP.rdx s 2 rfl Rt (by omega) (x := t) (by rw [Int.toNat_natCast]; exact ht) rfl ?_
  refine WP.step (R := fun y w' => y = (!ZhI port p vid m) ∧ Ss W (pts true (pt b2 0) (Zag.enc p) :: pts true (pt b1 0) ((cI .i64).enc port) :: SetO a ms rs ts xs tl :: Hs) w') ?_ ?_
  ·have s := s.copy 2 rfl SetO.ro (B := TsH t (Zgs m)) (fun h hh => (hh.2.2.2.2.2 k m x t hm hx ht).2)
   obtain ⟨vs, s⟩ := Ss.exs s
   obtain ⟨h2, hh2⟩ := s.has (i := 0) rfl
   have hlv := hh2.2.1
   have ht11 := Zr9 m
   unfold Zbk Zai
   refine WP.step (Zph (g := (Zgs m).map (fun t => !t.holds port p vid)) s 0 rfl (c := cV) (l := vs) (fun h hh => ZbD h hh.1) rfl (by rw [List.length_map, hlv]) (by omega) (fun i v b hv hb w s => ?_)) ?_
   ·rw [List.getElem?_map] at hb
    obtain ⟨tm, htm, rfl⟩ := Option.map_eq_some_iff.1 hb
    unfold Zar
    refine WP.ld s 2 rfl (o := 0) (by rfl) (At.whole _) (WP.ld s 1 rfl (o := 0) (by rfl) (At.whole _) ?_)
    have s := s.copy 0 rfl (Ro.rdS.and TssH.ro) (B := TstH v tm) (fun h hh => hh.2.2 i v tm hv htm)
    refine WP.step (Zvz s vr.push.push.push.push pb (fun to no l h => Zr8 fm to no l (h ▸ List.mem_of_getElem? htm)) (fun to l h => Zri fm to l (h ▸ List.mem_of_getElem? htm))) ?_
    rintro _ w ⟨rfl, s⟩
    exact WP.ret ⟨rfl, s⟩
   ·intro y w h
    refine WP.ret ⟨?_, Ss.drop h.2⟩
    rw [h.1, List.any_map]
    unfold ZhI
    show (Zgs m).any (fun t => !TM.holds port p vid t) = _
    rw [List.not_all_eq_any_not]
  rintro _ w ⟨rfl, s⟩
  refine WP.ite (fun h => WP.draw' s (fun w s => WP.nilck (WP.ldh s 2 rfl Hr (by rfl) ?_))) (fun h => ?_)
  ·refine WP.rdxp0 s 2 rfl Rx (by omega) (x := x) (by rw [Int.toNat_natCast]; exact hx) rfl (Zcq _) (WP.nilck (WP.ldh s 2 rfl Hr (by rfl) ?_))
   refine WP.rdxp s 2 rfl Rx (by omega) (x := x) (by rw [Int.toNat_natCast]; exact hx) rfl (Zdj _) (WP.done ⟨?_, s.drop.drop.drop⟩)
   have hma : ZhI port p vid m = true := by
    cases hq : ZhI port p vid m with
    | true => rfl
    | false => exact absurd (by rw [hq]; rfl) h
   rw [hF, if_pos hma]
   obtain ⟨⟨c1, c2, -⟩, -⟩ := rl.1
   rw [c1, c2]
  ·have hma : ¬ ZhI port p vid m = true := fun h' => h (by rw [h']; decide)
   rw [if_neg hma] at hF
   refine WP.next ⟨k + 1, ⟨?_, hk2, hF, s⟩, by omega⟩
   show IntKind.wrap .i64 ((k : Int) + 1) = _
   rw [Zau (by omega) (by omega)]
   simp
 ·have hk2 : k = ms.length := by omega
  rw [hk2, List.drop_length] at hF
  exact WP.done ⟨by rw [hF]; rfl, s.drop.drop.drop⟩
end
structure OptC where
 kind : Int
 data : List Int
structure ExtC where
 kind : Int
 opts : List OptC
 data : List Int
structure PkC where
 tags : List Zfv
 o4 : List OptC
 d4 : List Int
 exts : List ExtC
 d6 : List Int
 di : List Int
 du : List Int
 oT : List OptC
 dT : List Int
abbrev cU : Cod Int := cI .u8
def ZdJ (xs : List ZdC) (os : List OptC) : HP := fun h => xs.length = os.length ∧ ∀ (i : Nat) (x : ZdC) (o : OptC), xs[i]? = some x → os[i]? = some o → x.Kind = o.kind ∧ rdS cU false x.Data o.data h
def Zfr (sl : Sl) (os : List OptC) : HP := fun h => ∃ xs, rdS ZbB false sl xs h ∧ ZdJ xs os h
def Zez (xs : List ZcK) (es : List ExtC) : HP := fun h => xs.length = es.length ∧ ∀ (i : Nat) (x : ZcK) (e : ExtC), xs[i]? = some x → es[i]? = some e → rdS cU false x.Data e.data h ∧ Zfr x.Opts e.opts h
theorem ZdJ.ro {xs : List ZdC} {os : List OptC} : Ro (ZdJ xs os) := Ro.tt.and (Ro.all fun i => Ro.all fun x => Ro.all fun o => Ro.imp (Ro.imp (Ro.tt.and Ro.rdS)))
theorem Zfr.ro {sl : Sl} {os : List OptC} : Ro (Zfr sl os) := Ro.exs fun xs => Ro.rdS.and ZdJ.ro
theorem Zez.ro {xs : List ZcK} {es : List ExtC} : Ro (Zez xs es) := Ro.tt.and (Ro.all fun i => Ro.all fun x => Ro.all fun e => Ro.imp (Ro.imp (Ro.rdS.and Zfr.ro)))
theorem ZdJ.up {xs : List ZdC} {os : List OptC} : Upw (ZdJ xs os) := Upw.tt.and (Upw.all fun i => Upw.all fun x => Upw.all fun o => Upw.imp (Upw.imp (Upw.tt.and Upw.rdS)))
theorem Zfr.up {sl : Sl} {os : List OptC} : Upw (Zfr sl os) := Upw.exs fun xs => Upw.rdS.and ZdJ.up
theorem Zez.up {xs : List ZcK} {es : List ExtC} : Upw (Zez xs es) := Upw.tt.and (Upw.all fun i => Upw.all fun x => Upw.all fun e => Upw.imp (Upw.imp (Upw.rdS.and Zfr.up)))
theorem ZdJ.fr {xs : List ZdC} {os : List OptC} {h : PH} (a : ZdJ xs os h) : ZdJ xs os (frz h) := ⟨a.1, fun i x o h1 h2 => ⟨(a.2 i x o h1 h2).1, Zhr (a.2 i x o h1 h2).2⟩⟩
theorem Zfr.fr {sl : Sl} {os : List OptC} {h : PH} (a : Zfr sl os h) : Zfr sl os (frz h) := by
 obtain ⟨xs, h1, h2⟩ := a
 exact ⟨xs, Zhr h1, h2.fr⟩
theorem Zez.fr {xs : List ZcK} {es : List ExtC} {h : PH} (a : Zez xs es h) : Zez xs es (frz h) := ⟨a.1, fun i x e h1 h2 => ⟨Zhr (a.2 i x e h1 h2).1, (a.2 i x e h1 h2).2.fr⟩⟩
theorem ZdJ.nil {h : PH} : ZdJ [] [] h := ⟨rfl, fun i x o h => by cases h⟩
theorem Zez.nil {h : PH} : Zez [] [] h := ⟨rfl, fun i x o h => by cases h⟩
theorem ZdJ.snoc {xs : List ZdC} {os : List OptC} {x : ZdC} {o : OptC} {h : PH} (a : ZdJ xs os h) (k : x.Kind = o.kind) (b : rdS cU false x.Data o.data h) : ZdJ (xs ++ [x]) (os ++ [o]) h := by
 refine ⟨by simp [a.1], fun i x' o' h1 h2 => ?_⟩
 have hl := a.1
 rcases Ze6 h1 with ⟨i1, h1⟩ | ⟨i1, rfl⟩
 ·rcases Ze6 h2 with ⟨i2, h2⟩ | ⟨i2, -⟩
  ·exact a.2 i x' o' h1 h2
  ·omega
 ·rcases Ze6 h2 with ⟨i2, -⟩ | ⟨-, rfl⟩
  ·omega
  ·exact ⟨k, b⟩
theorem Zez.snoc {xs : List ZcK} {es : List ExtC} {x : ZcK} {e : ExtC} {h : PH} (a : Zez xs es h) (b : rdS cU false x.Data e.data h) (c : Zfr x.Opts e.opts h) : Zez (xs ++ [x]) (es ++ [e]) h := by
 refine ⟨by simp [a.1], fun i x' o' h1 h2 => ?_⟩
 have hl := a.1
 rcases Ze6 h1 with ⟨i1, h1⟩ | ⟨i1, rfl⟩
 ·rcases Ze6 h2 with ⟨i2, h2⟩ | ⟨i2, -⟩
  ·exact a.2 i x' o' h1 h2
  ·omega
 ·rcases Ze6 h2 with ⟨i2, -⟩ | ⟨-, rfl⟩
  ·omega
  ·exact ⟨b, c⟩
def RdU (L : List HP) (sl : Sl) (l : List Int) : Prop := ∃ i A, nth L i = some A ∧ Rdb A cU sl l
def RdO (L : List HP) (sl : Sl) (os : List OptC) : Prop := ∃ i, nth L i = some (Zfr sl os)
def RdE (L : List HP) (sl : Sl) (es : List ExtC) : Prop := ∃ i A j xs, nth L i = some A ∧ Rdb A ZcC sl xs ∧ nth L j = some (Zez xs es) ∧ xs.map (fun x => x.Kind) = es.map (fun e => e.kind)
def RdT (L : List HP) (sl : Sl) (l : List Zfv) : Prop := ∃ i A, nth L i = some A ∧ Rdb A Zde sl l
theorem RdU.push {L : List HP} {sl : Sl} {l : List Int} {A : HP} (r : RdU L sl l) : RdU (A :: L) sl l := by
 obtain ⟨i, B, h1, h2⟩ := r
 exact ⟨i + 1, B, h1, h2⟩
theorem RdT.push {L : List HP} {sl : Sl} {l : List Zfv} {A : HP} (r : RdT L sl l) : RdT (A :: L) sl l := by
 obtain ⟨i, B, h1, h2⟩ := r
 exact ⟨i + 1, B, h1, h2⟩
theorem RdO.push {L : List HP} {sl : Sl} {l : List OptC} {A : HP} (r : RdO L sl l) : RdO (A :: L) sl l := by
 obtain ⟨i, h⟩ := r
 exact ⟨i + 1, h⟩
theorem RdE.push {L : List HP} {sl : Sl} {l : List ExtC} {A : HP} (r : RdE L sl l) : RdE (A :: L) sl l := by
 obtain ⟨i, B, j, xs, h1, h2, h3, h4⟩ := r
 exact ⟨i + 1, B, j + 1, xs, h1, h2, h3, h4⟩
structure PkR (L : List HP) (p : Zac) (k : PkC) : Prop where
 tags : RdT L p.Tags k.tags
 o4 : RdO L p.Ip4.Opts k.o4
 d4 : RdU L p.Ip4.Data k.d4
 ex : RdE L p.Ip6.Exts k.exts
 d6 : RdU L p.Ip6.Data k.d6
 di : RdU L p.Icmp.Data k.di
 du : RdU L p.Udp.Data k.du
 oT : RdO L p.Tcp.Opts k.oT
 dT : RdU L p.Tcp.Data k.dT
theorem PkR.push {L : List HP} {p : Zac} {k : PkC} {A : HP} (r : PkR L p k) : PkR (A :: L) p k := ⟨r.tags.push, r.o4.push, r.d4.push, r.ex.push, r.d6.push, r.di.push, r.du.push, r.oT.push, r.dT.push⟩
theorem PkR.pushL {L : List HP} {p : Zac} {k : PkC} (r : PkR L p k) : ∀ Ls : List HP, PkR (Ls ++ L) p k
 | [] => r
 | A :: Ls => (r.pushL Ls).push
structure PkL (k : PkC) : Prop where
 tags : k.tags.length * 32 ≤ reachBytes
 o4 : k.o4.length * 32 ≤ reachBytes ∧ ∀ o ∈ k.o4, o.data.length ≤ reachBytes
 d4 : k.d4.length ≤ reachBytes
 ex : k.exts.length * 56 ≤ reachBytes ∧ ∀ e ∈ k.exts, e.data.length ≤ reachBytes ∧ e.opts.length * 32 ≤ reachBytes ∧ ∀ o ∈ e.opts, o.data.length ≤ reachBytes
 d6 : k.d6.length ≤ reachBytes
 di : k.di.length ≤ reachBytes
 du : k.du.length ≤ reachBytes
 oT : k.oT.length * 32 ≤ reachBytes ∧ ∀ o ∈ k.oT, o.data.length ≤ reachBytes
 dT : k.dT.length ≤ reachBytes
def PkS (p y : Zac) : Prop := y = { p with Tags := y.Tags, Ip4 := { p.Ip4 with Opts := y.Ip4.Opts, Data := y.Ip4.Data }, Ip6 := { p.Ip6 with Exts := y.Ip6.Exts, Data := y.Ip6.Data }, Icmp := { p.Icmp with Data := y.Icmp.Data }, Udp := { p.Udp with Data := y.Udp.Data }, Tcp := { p.Tcp with Opts := y.Tcp.Opts, Data := y.Tcp.Data } }
theorem PkS.refl (p : Zac) : PkS p p := rfl
theorem PkS.trans {p q r : Zac} (a : PkS p q) (b : PkS q r) : PkS p r := by
 unfold PkS at a b ⊢
 rw [a] at b
 exact b
theorem PkS.symm {p q : Zac} (a : PkS p q) : PkS q p := by
 unfold PkS at a ⊢
 rw [a]
theorem PkS.judge {p q : Zac} (a : PkS p q) (port : Int) (vid : Option Int) (ms : List Zbf) : ZnU port q vid ms = ZnU port p vid ms := by
 have h : ∀ t : TM, t.holds port q vid = t.holds port p vid := fun t => by
  unfold PkS at a
  rw [a]
  cases t <;> rfl
 have hm : ∀ m, ZhI port q vid m = ZhI port p vid m := fun m => by
  unfold ZhI
  congr 1
  funext t
  exact h t
 have hf : ∀ ms k, ZiP port q vid k ms = ZiP port p vid k ms := fun ms => by
  induction ms with
  | nil => exact fun k => rfl
  | cons m ms ih =>
   intro k
   unfold ZiP
   rw [hm, ih]
 exact hf ms 0
theorem PkS.byt {p q : Zac} (a : PkS p q) (b : PkB p) : PkB q := by
 unfold PkS at a
 rw [a]
 exact ⟨b.a1, b.a2, b.b1, b.b2, b.c1, b.c2⟩
def vidC (l : List Zfv) : Option Int := l.head?.map (·.VID)
theorem PkR.vid {L : List HP} {p : Zac} {k : PkC} {W w : World} (s : Ss W L w) (r : PkR L p k) : VidR L p (vidC k.tags) := by
 obtain ⟨i, A, e, ra⟩ := r.tags
 obtain ⟨hl, hn⟩ := s.rd_len e ra
 refine ⟨fun h => ?_, fun x h => ?_⟩
 ·cases ht : k.tags with
  | nil =>
   rw [ht] at hl
   exact hl
  | cons t l =>
   rw [ht] at h
   cases h
 ·cases ht : k.tags with
  | nil =>
   rw [ht] at h
   cases h
  | cons t l =>
   rw [ht] at h hl hn ra
   cases h
   obtain ⟨a, ha⟩ := hn (by simp)
   refine ⟨by rw [hl]; simp, i, A, a, e, ha, ?_⟩
   have H : Zfw A a (Zde.enc t) := fun h hh => by
    obtain ⟨-, -, q⟩ := ra h hh
    obtain ⟨sp, q⟩ := q 0 t a rfl ha
    exact ⟨sp, fun i v hv => by
     have := q i v hv
     rwa [Nat.zero_mul, Nat.zero_add] at this⟩
   exact H.at_ (Zhx t)
theorem ZdJ.cons {xs : List ZdC} {os : List OptC} {x : ZdC} {o : OptC} {h : PH} (a : ZdJ xs os h) (k : x.Kind = o.kind) (b : rdS cU false x.Data o.data h) : ZdJ (x :: xs) (o :: os) h :=
 ⟨by simp [a.1], fun i x' o' h1 h2 => by
  cases i with
  | zero =>
   cases h1
   cases h2
   exact ⟨k, b⟩
  | succ i => exact a.2 i x' o' h1 h2⟩
theorem Zez.cons {xs : List ZcK} {es : List ExtC} {x : ZcK} {e : ExtC} {h : PH} (a : Zez xs es h) (b : rdS cU false x.Data e.data h) (c : Zfr x.Opts e.opts h) : Zez (x :: xs) (e :: es) h :=
 ⟨by simp [a.1], fun i x' o' h1 h2 => by
  cases i with
  | zero =>
   cases h1
   cases h2
   exact ⟨b, c⟩
  | succ i => exact a.2 i x' o' h1 h2⟩
section
variable {W w : World} {Hs : List HP}
theorem argU {u : Sl} (s : Ss W Hs w) (g : GSl (cI .u8) (Tryz.prog.bytesOf 5) (fun W u => (Lit.int .u8 u).wf = true) W u) : ∃ l, Ss W (rdS cU false u l :: Hs) w ∧ l.length ≤ reachBytes := by
 obtain ⟨l, -, b, s⟩ := s.args g (by decide)
 rw [show Tryz.prog.bytesOf 5 = 1 by kernel_rfl] at b
 exact ⟨l, s, by omega⟩
theorem Zq9 (s : Ss W Hs w) : ∀ xs : List ZdC, (∀ x ∈ xs, G129 W x) → ∃ os, Ss W (ZdJ xs os :: Hs) w ∧ ∀ o ∈ os, o.data.length ≤ reachBytes
 | [], _ => ⟨[], s.mk0 ZdJ.nil, fun o h => by cases h⟩
 | x :: xs, g => by
  obtain ⟨os, s, hb⟩ := Zq9 s xs (fun x h => g x (List.mem_cons_of_mem _ h))
  obtain ⟨l, s, b⟩ := argU s (g x (List.mem_cons_self ..)).2
  refine ⟨⟨x.Kind, l⟩ :: os, Ss.merge s (fun h1 h2 h l1 l2 a1 a2 => (ZdJ.up _ _ l2 a2).cons rfl (Ze5 l1 a1)), fun o ho => ?_⟩
  rcases List.mem_cons.1 ho with rfl | ho
  ·exact b
  ·exact hb o ho
theorem Zqn {u : Sl} (s : Ss W Hs w) (g : GSl ZbB (Tryz.prog.bytesOf 129) (fun W u => G129 W u) W u) : ∃ os, Ss W (Zfr u os :: Hs) w ∧ os.length * 32 ≤ reachBytes ∧ ∀ o ∈ os, o.data.length ≤ reachBytes := by
 obtain ⟨xs, hx, b, s⟩ := s.args g (by decide)
 rw [show Tryz.prog.bytesOf 129 = 32 by kernel_rfl] at b
 obtain ⟨os, s, hb⟩ := Zq9 s xs hx
 obtain ⟨h0, hh⟩ := s.has (i := 0) rfl
 exact ⟨os, Ss.merge s (fun h1 h2 h l1 l2 a1 a2 => ⟨xs, Ze5 l2 a2, ZdJ.up _ _ l1 a1⟩), by rw [← hh.1]; exact b, hb⟩
theorem Zra (s : Ss W Hs w) : ∀ xs : List ZcK, (∀ x ∈ xs, G66 W x) → ∃ es, Ss W (Zez xs es :: Hs) w ∧ xs.map (fun x => x.Kind) = es.map (fun e => e.kind) ∧ ∀ e ∈ es, e.data.length ≤ reachBytes ∧ e.opts.length * 32 ≤ reachBytes ∧ ∀ o ∈ e.opts, o.data.length ≤ reachBytes
 | [], _ => ⟨[], s.mk0 Zez.nil, rfl, fun o h => by cases h⟩
 | x :: xs, g => by
  obtain ⟨es, s, hk, hb⟩ := Zra s xs (fun x h => g x (List.mem_cons_of_mem _ h))
  have gx := g x (List.mem_cons_self ..)
  obtain ⟨os, s, b1, b2⟩ := Zqn s gx.2.1
  obtain ⟨l, s, b⟩ := argU s gx.2.2
  have s := Ss.merge s (C := fun h => rdS cU false x.Data l h ∧ Zfr x.Opts os h) (fun h1 h2 h l1 l2 a1 a2 => ⟨Ze5 l1 a1, Zfr.up _ _ l2 a2⟩)
  refine ⟨⟨x.Kind, os, l⟩ :: es, Ss.merge s (fun h1 h2 h l1 l2 a1 a2 => (Zez.up _ _ l2 a2).cons (Ze5 l1 a1.1) (Zfr.up _ _ l1 a1.2)), ?_, fun o ho => ?_⟩
  ·rw [List.map_cons, List.map_cons, hk]
  ·rcases List.mem_cons.1 ho with rfl | ho
   ·exact ⟨b, b1, b2⟩
   ·exact hb o ho
theorem ZvP {u : Sl} (s : Ss W Hs w) (g : GSl ZcC (Tryz.prog.bytesOf 66) (fun W u => G66 W u) W u) : ∃ xs es, Ss W (Zez xs es :: rdS ZcC false u xs :: Hs) w ∧ xs.map (fun x => x.Kind) = es.map (fun e => e.kind) ∧ es.length * 56 ≤ reachBytes ∧ ∀ e ∈ es, e.data.length ≤ reachBytes ∧ e.opts.length * 32 ≤ reachBytes ∧ ∀ o ∈ e.opts, o.data.length ≤ reachBytes := by
 obtain ⟨xs, hx, b, s⟩ := s.args g (by decide)
 rw [show Tryz.prog.bytesOf 66 = 56 by kernel_rfl] at b
 obtain ⟨es, s, hk, hb⟩ := Zra s xs hx
 obtain ⟨h0, hh⟩ := s.has (i := 0) rfl
 exact ⟨xs, es, s, hk, by rw [← hh.1]; exact b, hb⟩
theorem ZwC {p : Zac} (s : Ss W Hs w) (g : G47 W p) : ∃ (k : PkC) (Ls : List HP), Ss W (Ls ++ Hs) w ∧ PkR (Ls ++ Hs) p k ∧ PkL k ∧ PkB p := by
 obtain ⟨-, -, gt, -, ga, g4, g6, -, gi, gu, gc⟩ := g
 have pb : PkB p := ⟨ZmZ ga.2.2.1.2, ZmZ ga.2.2.2.2.2, ZmZ g4.2.2.2.2.2.2.2.1.2, ZmZ g4.2.2.2.2.2.2.2.2.1.2, ZmZ g6.2.2.2.1.2, ZmZ g6.2.2.2.2.1.2⟩
 obtain ⟨ts, -, bt, s⟩ := s.args gt (by decide)
 rw [show Tryz.prog.bytesOf 63 = 32 by kernel_rfl] at bt
 obtain ⟨o4, s, b4⟩ := Zqn s g4.2.2.2.2.2.2.2.2.2.1
 obtain ⟨d4, s, e4⟩ := argU s g4.2.2.2.2.2.2.2.2.2.2
 obtain ⟨xs, es, s, hk, be⟩ := ZvP s g6.2.2.2.2.2.1
 obtain ⟨d6, s, e6⟩ := argU s g6.2.2.2.2.2.2.2.2
 obtain ⟨di, s, ei⟩ := argU s gi.2.2.2.2
 obtain ⟨du, s, eu⟩ := argU s gu.2.2.2
 obtain ⟨oT, s, bT⟩ := Zqn s gc.2.2.2.2.2.2.2.1
 obtain ⟨dT, s, eT⟩ := argU s gc.2.2.2.2.2.2.2.2
 exact ⟨⟨ts, o4, d4, es, d6, di, du, oT, dT⟩, [_, _, _, _, _, _, _, _, _, _], s,
  ⟨⟨9, _, rfl, ZbD⟩, ⟨8, rfl⟩, ⟨7, _, rfl, ZbD⟩, ⟨6, _, 5, xs, rfl, ZbD, rfl, hk⟩, ⟨4, _, rfl, ZbD⟩, ⟨3, _, rfl, ZbD⟩, ⟨2, _, rfl, ZbD⟩, ⟨1, rfl⟩, ⟨0, _, rfl, ZbD⟩⟩, ⟨bt, b4, e4, be, e6, ei, eu, bT, eT⟩, pb⟩
end
def mkN : Zad := ⟨ZbN.IP, -201⟩
def mkP : ZaE := ⟨-202, -203⟩
def Bnd (m : ZeT) : Prop := m.nets.length * 32 ≤ reachBytes ∧ m.ports.length * 16 ≤ reachBytes
theorem Bnd.len {m : ZeT} (h : Bnd m) : m.nets.length ≤ 4398046511000 ∧ m.ports.length ≤ 8796093022000 := by
 obtain ⟨h1, h2⟩ := h
 have : reachBytes = 140737488351232 := rfl
 omega
structure LdSd (L : List HP) (sd : Zaf) (m : ZeT) : Prop where
 no : sd.Not = m.Not
 byts : Byts m.nets
 rn : ∃ i sl sp, nth L i = some (vec cPfx sl (m.nets ++ List.replicate 20 mkN) sp) ∧ sd.Nets = ⟨sl.a, m.nets.length, sl.cap⟩
 rp : ∃ i sl sp, nth L i = some (vec cRg sl (m.ports ++ List.replicate 20 mkP) sp) ∧ sd.Ports = ⟨sl.a, m.ports.length, sl.cap⟩
theorem LdSd.push {L : List HP} {sd : Zaf} {m : ZeT} {A : HP} (r : LdSd L sd m) : LdSd (A :: L) sd m := by
 obtain ⟨h1, h2, ⟨i, a, b, e1, r1⟩, ⟨j, c, d, e2, r2⟩⟩ := r
 exact ⟨h1, h2, ⟨i + 1, a, b, e1, r1⟩, ⟨j + 1, c, d, e2, r2⟩⟩
theorem ZoQ {α : Type} {c : Cod α} {sl : Sl} {l r sp : List α} {n : Nat} : Rdb (vec c sl (l ++ r) sp) c ⟨sl.a, l.length, n⟩ l := by
 have := (Zc3 (c := c) (s := sl) (xs := l ++ r) (sp := sp)).take (k := l.length) (n := n) (by rw [List.length_append]; omega)
 rwa [List.take_left'] at this
 rfl
theorem LdSd.rd {L : List HP} {sd : Zaf} {m : ZeT} (r : LdSd L sd m) : RdSd L sd m := by
 obtain ⟨h1, h2, ⟨i, a, b, e1, r1⟩, ⟨j, c, d, e2, r2⟩⟩ := r
 refine ⟨h1, h2, ⟨i, _, e1, ?_⟩, ⟨j, _, e2, ?_⟩⟩
 ·rw [r1]
  exact ZoQ
 ·rw [r2]
  exact ZoQ
section
variable {W w : World} {Hs : List HP}
theorem ZlK {sd : Zaf} {m : ZeT} (s : Ss W Hs w) (r : RdSd Hs sd m) (b : Bnd m) : WP (Zcm sd) w (fun y w' => ∃ sn sp un up, y = ⟨m.Not, sn, sp⟩ ∧ Ss W (vec cPfx sn m.nets un :: vec cRg sp m.ports up :: Hs) w') := by
 obtain ⟨hno, -, ⟨i, A, e, ra⟩, ⟨j, B, e2, rb⟩⟩ := r
 obtain ⟨b1, b2⟩ := b
 have hr : reachBytes = 140737488351232 := rfl
 unfold Zcm
 refine WP.slot' s (fun _ w s => WP.slot' s (fun _ w s => WP.appS s i e ra (by decide) (WP.appl0 s (by omega) (by decide) (fun sn w un s => WP.appS s (j + 1) e2 rb (by decide) (WP.appl0 s (by omega) (by decide) (fun sp w up s => WP.ret ⟨sn, sp, un, up, ?_, ?_⟩))))))
 ·rw [hno]
 ·have s := s.use [1, 0] rfl
  exact s
structure LdR (L : List HP) (r : Zae) (m : Zbf) : Prop where
 sc : RSc r m
 from_ : LdSd L r.From m.From
 to_ : LdSd L r.To m.To
theorem LdR.rd {L : List HP} {r : Zae} {m : Zbf} (h : LdR L r m) : RdR L r m := ⟨h.sc, h.from_.rd, h.to_.rd⟩
def BndR (m : Zbf) : Prop := Bnd m.From ∧ Bnd m.To
end
theorem Zq7 {W w : World} {Hs : List HP} {u : Zaf} (s : Ss W Hs w) (g : G74 W u) : ∃ (m : ZeT) (A B : HP), Ss W (A :: B :: Hs) w ∧ RdSd (A :: B :: Hs) u m ∧ Bnd m := by
 obtain ⟨xs, hx, b1, s⟩ := s.args g.2.1 (by decide)
 obtain ⟨ys, hy, b2, s⟩ := s.args g.2.2 (by decide)
 rw [show Tryz.prog.bytesOf 111 = 32 by kernel_rfl] at b1
 rw [show Tryz.prog.bytesOf 113 = 16 by kernel_rfl] at b2
 exact ⟨⟨u.Not, xs, ys⟩, _, _, s, ⟨rfl, fun p hp => ZmZ (hx p hp).1.2, ⟨1, _, rfl, ZbD⟩, ⟨0, _, rfl, ZbD⟩⟩, b1, b2⟩
theorem ZuQ {W w : World} {Hs : List HP} {u : Zae} (s : Ss W Hs w) (g : G76 W u) : ∃ (m : Zbf) (A B C D : HP), Ss W (A :: B :: C :: D :: Hs) w ∧ RdR (A :: B :: C :: D :: Hs) u m ∧ BndR m := by
 obtain ⟨m1, A, B, s, r1, b1⟩ := Zq7 s g.2.2.2.2.2.2.1
 obtain ⟨m2, C, D, s, r2, b2⟩ := Zq7 s g.2.2.2.2.2.2.2.1
 exact ⟨⟨u.Act, u.Class, u.Kind, u.Proto, u.In, u.Vid, m1, m2, u.Set, u.Clear, u.Type_, u.Pieces⟩, _, _, _, _, s, ⟨⟨rfl, rfl, rfl, rfl, rfl, rfl, rfl, rfl, rfl, rfl⟩, r1.push.push, r2⟩, b1, b2⟩
theorem ZvE {m : Zbf} (h : ckM m = 0) (b : BytR m) : ZtD m := ⟨b.1, b.2, Zow h⟩
theorem RdL.one {L : List HP} {x : Zae} {m : Zbf} (r : RdR L x m) : RdL L [x] [m] := ⟨rfl, fun i y n h1 h2 => by
 cases i with
 | zero =>
  cases h1
  cases h2
  exact r
 | succ i => cases h1⟩
section
variable {W w : World} {Hs : List HP}
theorem andW {β : Type} {q r : Prop} [Decidable q] [Decidable r] {c : Bool} {f : Bool → M β} {Q : β → World → Prop} (hc : c = true ↔ r) (k : WP (f (decide (q ∧ r))) w Q) : WP ((if q then pure c else pure false) >>= f) w Q := by
 refine WP.step (R := fun y w' => y = decide (q ∧ r) ∧ w = w') (WP.ite (fun h => WP.ret ⟨?_, rfl⟩) (fun h => WP.ret ⟨(decide_eq_false (fun h' => h h'.1)).symm, rfl⟩)) ?_
 ·rw [Bool.eq_iff_iff, hc, decide_eq_true_iff]
  exact ⟨fun h' => ⟨h, h'⟩, fun h' => h'.2⟩
 ·rintro _ _ ⟨rfl, rfl⟩
  exact k
theorem numW {β : Type} {n : Int} {f : Int → M β} {Q : β → World → Prop} (k : WP (f n) w Q) : WP (Zdk n >>= f) w Q := by
 refine WP.step (Zon n) ?_
 rintro _ _ ⟨rfl, rfl⟩
 exact k
theorem ZuW {β : Type} {f : Bool → M β} {Q : β → World → Prop} (s : Ss W Hs w) (T : RTab Hs) (k : ∀ w, Ss W Hs w → WP (f true) w Q) : WP (Zcu >>= f) w Q := by
 refine WP.step (Zrl s T) ?_
 rintro _ w ⟨rfl, s⟩
 exact k w s
end
section
variable {port : Int} {p : Zac} {vid : Option Int}
end
theorem Zo4 : ∀ {ms : List Zbf} {k : Nat}, newF k ms = none → ∀ m ∈ ms, ckM m = 0
 | m :: ms, k, h, a, ha => by
  unfold newF at h
  split at h
  ·cases h
  ·rename_i hc
   rcases List.mem_cons.1 ha with rfl | ha
   ·exact Decidable.not_not.1 hc
   ·exact Zo4 h a ha
theorem ZmB {ms : List Zbf} (h : newM ms = none) : ms.length ≤ 256 ∧ ∀ m ∈ ms, ckM m = 0 := by
 unfold newM at h
 split at h
 ·cases h
 ·exact ⟨by omega, Zo4 h⟩
theorem Zo3 : ∀ {ms : List Zbf} {k : Nat} {q : Int × Int}, newF k ms = some q → q.1 ≠ 0
 | m :: ms, k, q, h => by
  unfold newF at h
  split at h
  ·rename_i hc
   cases h
   exact hc
  ·exact Zo3 h
theorem ZsF {ms : List Zbf} {q : Int × Int} (h : newM ms = some q) : q.1 ≠ 0 := by
 unfold newM at h
 split at h
 ·cases h
  decide
 ·exact Zo3 h
def NewF (y : (Option Addr) × Int × Int) (ms : List Zbf) : Prop := (newM ms ≠ none ∧ y.1 = none ∧ y.2.1 ≠ 0) ∨ (newM ms = none ∧ ∃ b, y = (some (pt b 0), 0, 0))
theorem NewF.ok {y : (Option Addr) × Int × Int} {ms : List Zbf} (h : NewF y ms) (h0 : ¬ y.2.1 ≠ 0) : newM ms = none ∧ ∃ b, y = (some (pt b 0), 0, 0) := by
 rcases h with ⟨-, -, h⟩ | h
 ·exact absurd h h0
 ·exact h
def SetQ (y : (Option Addr) × Int × Int) (ms : List Zbf) : HP := match y.1 with
 | some a => SetH a ms
 | none => fun _ => True
theorem RdL.byt {L : List HP} {xs : List Zae} {ms : List Zbf} (r : RdL L xs ms) : ∀ m ∈ ms, BytR m := by
 intro m hm
 obtain ⟨i, hi⟩ := List.getElem?_of_mem hm
 have hl := (List.getElem?_eq_some_iff.1 hi).1
 have hx := List.getElem?_eq_getElem (show i < xs.length by rw [r.len]; exact hl)
 have rr := r.at_ i _ m hx hi
 exact ⟨rr.from_.byts, rr.to_.byts⟩
theorem RdL.app {L : List HP} {xs ys : List Zae} {ms ns : List Zbf} (r : RdL L xs ms) (q : RdL L ys ns) : RdL L (xs ++ ys) (ms ++ ns) := by
 refine ⟨by rw [List.length_append, List.length_append, r.len, q.len], fun i x m h1 h2 => ?_⟩
 by_cases hi : i < xs.length
 ·rw [List.getElem?_append_left hi] at h1
  rw [List.getElem?_append_left (by rw [← r.len]; exact hi)] at h2
  exact r.at_ i x m h1 h2
 ·rw [List.getElem?_append_right (by omega)] at h1
  rw [List.getElem?_append_right (by rw [← r.len]; omega), ← r.len] at h2
  exact q.at_ _ x m h1 h2
theorem RdL.pushL {L : List HP} {xs : List Zae} {ms : List Zbf} (r : RdL L xs ms) : ∀ Ls : List HP, RdL (Ls ++ L) xs ms
 | [] => r
 | A :: Ls => (r.pushL Ls).push
theorem RTab.pushL {L : List HP} (r : RTab L) : ∀ Ls : List HP, RTab (Ls ++ L)
 | [] => r
 | A :: Ls => (r.pushL Ls).push
theorem RdL.nil {L : List HP} : RdL L [] [] := ⟨rfl, fun i x m h => by cases h⟩
theorem Zuw {L : List HP} {xs : List Zae} {ms : List Zbf} (r : RdL L xs ms) (h : newM ms = none) : ∀ m ∈ ms, ZtD m := fun m hm => ZvE ((ZmB h).2 m hm) (r.byt m hm)
section
variable {W w : World} {Hs : List HP}
theorem ZvZ {A : HP} {sl : Sl} {xs : List Zae} {ms : List Zbf} (s : Ss W Hs w) (i : Nat) (e : nth Hs i = some A) (r : Rdb A Zak sl xs) (hr : RdL Hs xs ms) : WP (Zcc sl) w (fun y w' => NewF y ms ∧ Ss W (SetQ y ms :: Hs) w') := by
 refine (ZwJ s i e r hr).mono (fun y w h => ?_)
 unfold NewR at h
 cases hn : newM ms with
 | some q =>
  rw [hn] at h
  obtain ⟨rfl, s⟩ := h
  exact ⟨.inl ⟨by rw [hn]; simp, rfl, ZsF hn⟩, s.mk0 trivial⟩
 | none =>
  rw [hn] at h
  obtain ⟨b, rfl, s⟩ := h
  exact ⟨.inr ⟨hn, b, rfl⟩, s⟩
end
theorem Zq8 {W w : World} {Hs : List HP} (s : Ss W Hs w) : ∀ (xs : List Zae), (∀ x ∈ xs, G76 W x) → ∃ (ms : List Zbf) (Ls : List HP), Ss W (Ls ++ Hs) w ∧ RdL (Ls ++ Hs) xs ms ∧ ∀ m ∈ ms, BndR m
 | [], _ => ⟨[], [], s, ⟨rfl, fun i x m h => by cases h⟩, fun m h => by cases h⟩
 | x :: xs, g => by
  obtain ⟨ms, Ls, s, r, b⟩ := Zq8 s xs (fun x h => g x (List.mem_cons_of_mem _ h))
  obtain ⟨m, A, B, C, D, s, rr, bm⟩ := ZuQ s (g x (List.mem_cons_self ..))
  refine ⟨m :: ms, A :: B :: C :: D :: Ls, s, ⟨by simp [r.len], fun i y n h1 h2 => ?_⟩, fun n hn => ?_⟩
  ·cases i with
   | zero =>
    cases h1
    cases h2
    exact rr
   | succ i => exact (r.at_ i y n h1 h2).push.push.push.push
  ·rcases List.mem_cons.1 hn with rfl | hn
   ·exact bm
   ·exact b n hn
theorem ZmA {A : HP} {L : List HP} : ∀ (Ls : List HP) {i : Nat}, nth L i = some A → nth (Ls ++ L) (Ls.length + i) = some A
 | [], i, h => by simpa using h
 | B :: Ls, i, h => by
  have : (B :: Ls).length + i = (Ls.length + i) + 1 := by simp only [List.length_cons]; omega
  rw [this]
  exact ZmA Ls h
theorem Rdb.holdsF {α γ : Type} {A : HP} {c : Cod α} {sl : Sl} {xs : List α} (r : Rdb A c sl xs) {k o : Nat} {x : α} {a : Addr} {d : Cod γ} {y : γ} (hx : xs[k]? = some x) (ha : sl.a = some a) (h : At (c.enc x) o (d.enc y)) : Zfw A (a.add (k * c.n + o)) (d.enc y) := by
 have H : Zfw A (a.add (k * c.n)) (c.enc x) := fun h hh => by
  obtain ⟨-, -, q⟩ := r h hh
  obtain ⟨sp, q⟩ := q k x a hx ha
  rw [Zf1 sp]
  refine ⟨rfl, fun i v hv => ?_⟩
  have := q i v hv
  rwa [← Nat.add_assoc] at this
 have := H.at_ h
 rwa [ZeN] at this
section
variable {W w : World} {Hs : List HP}
theorem WP.samep {α β γ : Type} {A : HP} {c : Cod α} {sl : Sl} {xs : List α} {d : Cod γ} {y : γ} {x : α} {k o : Nat} {a p : Addr} {f : Unit → M β} {Q : β → World → Prop} (s : Ss W Hs w) (i : Nat) (e : nth Hs i = some A) (r : Rdb A c sl xs) (hx : xs[k]? = some x) (ha : sl.a = some a) (hp : p = a.add (k * c.n + o)) (h : At (c.enc x) o (d.enc y)) (g : WP (f ()) w Q) : WP (Lx.same d p y >>= f) w Q :=
 WP.sameh s i e (Rdb.holdsF r hx ha h) hp g
theorem ZkA {sl : Sl} {l : List Int} (s : Ss W Hs w) (r : RdU Hs sl l) (hl : l.length ≤ reachBytes) : WP (Zc1 sl) w (fun y w' => ∃ sp, Ss W (vec cU y l sp :: Hs) w') := by
 obtain ⟨i, A, e, ra⟩ := r
 have hr : reachBytes = 140737488351232 := rfl
 unfold Zc1
 exact WP.appS s i e ra (by decide) (WP.appl0 s (by omega) (by decide) (fun y w sp s => WP.ret ⟨sp, s⟩))
theorem Zh6 {sl : Sl} {l : List Int} (s : Ss W Hs w) (r : RdU Hs sl l) (hl : l.length ≤ reachBytes) : WP (ZcL sl) w (fun y w' => ∃ sp, Ss W (vec cU y l sp :: Hs) w') := ZkA s r hl
theorem ZiV {sl : Sl} {os : List OptC} (s : Ss W Hs w) (r : RdO Hs sl os) (hb : os.length * 32 ≤ reachBytes) (hd : ∀ o ∈ os, o.data.length ≤ reachBytes) : WP (ZaO sl) w (fun y w' => Ss W (Zfr y os :: Hs) w') := by
 obtain ⟨i, e⟩ := r
 have hr : reachBytes = 140737488351232 := rfl
 have s := s.copy i e Zfr.ro (fun h hh => hh)
 obtain ⟨xs, s⟩ := Ss.exs s
 obtain ⟨h0, hh0⟩ := s.has (i := 0) rfl
 have hlx := hh0.2.1
 have R : Rdb (fun h => rdS ZbB false sl xs h ∧ ZdJ xs os h) ZbB sl xs := fun h hh => ZbD h hh.1
 have hlen := (s.rd_len (i := 0) rfl R).1
 have s := s.mk0 (A := vec ZbB Sl.nil [] []) Zdc
 have s := s.mk0 (A := ZdJ [] []) ZdJ.nil
 unfold ZaO
 refine WP.loopG (γ := Nat × List ZdC × List ZdC) (fun g (x : Sl × Int) w => x.2 = (g.1 : Int) ∧ g.1 ≤ os.length ∧ g.2.1.length = g.1 ∧ Ss W (ZdJ g.2.1 (os.take g.1) :: vec ZbB x.1 g.2.1 g.2.2 :: (fun h => rdS ZbB false sl xs h ∧ ZdJ xs os h) :: Hs) w) (fun g _ => os.length - g.1) (0, [], []) ⟨rfl, Nat.zero_le _, rfl, s⟩ ?_
 clear s
 rintro ⟨k, zs, sp⟩ ⟨y, _⟩ w ⟨h1, hk, hz, s⟩
 dsimp only at h1 hk hz s
 subst h1
 show WP (ZaO.L1 sl y (k : Int)) w _
 unfold ZaO.L1
 refine WP.ite (fun hc => WP.draw' s (fun w s => ?_)) (fun hc => ?_)
 ·have hk2 : k < os.length := by omega
  have hx := List.getElem?_eq_getElem (show k < xs.length by omega)
  have ho := List.getElem?_eq_getElem hk2
  generalize xs[k]'(show k < xs.length by omega) = x at hx
  generalize os[k] = o at ho
  have ht : os.take (k + 1) = os.take k ++ [o] := by
   rw [List.take_add_one, ho]
   rfl
  have hxi : xs[Int.toNat (k : Int)]? = some x := by rw [Int.toNat_natCast]; exact hx
  obtain ⟨ek, -⟩ := hh0.2.2 k x o hx ho
  refine WP.idxr s 2 rfl R (by omega) hxi rfl (fun a ha => ?_)
  refine WP.ldp s 2 rfl R hx ha (o := 0) (by rfl) (Zet _) (WP.idxr s 2 rfl R (by omega) hxi rfl (fun a2 ha2 => ?_))
  obtain rfl : a = a2 := Option.some.inj (ha.symm.trans ha2)
  refine WP.ldp s 2 rfl R hx ha (o := 1) (ZeN _ _) (Zfi _) ?_
  have s := s.copy 2 rfl (Ro.rdS.and ZdJ.ro) (B := rdS cU false x.Data o.data) (fun h hh => (hh.2.2 k x o hx ho).2)
  refine WP.step (ZkA s ⟨0, _, rfl, ZbD⟩ (hd o (List.mem_of_getElem? ho))) ?_
  rintro r15 w ⟨sp15, s⟩
  refine WP.samep s 4 rfl R hx ha (o := 0) (by rfl) (Zet _) (WP.slot' s (fun _ w s => ?_))
  have s := Ss.frz1 s (C := rdS cU false r15 o.data) (fun h hh => Zek hh)
  refine WP.appl s 3 rfl (by rw [hz, List.length_singleton]; omega) (by decide) (fun y2 w sp2 s => ?_)
  have s : Ss W (rdS cU false r15 o.data :: rdS cU false x.Data o.data :: ZdJ zs (os.take k) :: vec ZbB y2 (zs ++ [⟨x.Kind, r15⟩]) sp2 :: (fun h => rdS ZbB false sl xs h ∧ ZdJ xs os h) :: Hs) w := s
  have s := Ss.drop (s.use [1] rfl)
  have s := Ss.merge s (C := ZdJ (zs ++ [⟨x.Kind, r15⟩]) (os.take k ++ [o])) (fun h1 h2 h l1 l2 a1 a2 => (ZdJ.up _ _ l2 a2).snoc ek (Ze5 l1 a1))
  refine WP.next ⟨(k + 1, zs ++ [⟨x.Kind, r15⟩], sp2), ⟨?_, hk2, by simp [hz], by rw [ht]; exact s⟩, by dsimp only; omega⟩
  show IntKind.wrap .i64 ((k : Int) + 1) = _
  rw [Zau (by omega) (by omega)]
  simp
 ·have hk2 : k = os.length := by omega
  rw [hk2, List.take_length] at s
  refine WP.done ?_
  have s := Ss.drop (s.use [2] rfl)
  exact s.frz2 (fun h1 h2 h l1 l2 a1 a2 => ⟨zs, Ze5 (Zfd l2) (Zek a2), ZdJ.up _ _ (Zfd l1) a1.fr⟩)
theorem Zpu {sl : Sl} {es : List ExtC} (s : Ss W Hs w) (r : RdE Hs sl es) (hb : es.length * 56 ≤ reachBytes) (hd : ∀ e ∈ es, e.data.length ≤ reachBytes ∧ e.opts.length * 32 ≤ reachBytes ∧ ∀ o ∈ e.opts, o.data.length ≤ reachBytes) :
  WP (ZaT sl) w (fun y w' => ∃ zs sp, zs.map (fun x => x.Kind) = es.map (fun e => e.kind) ∧ Ss W (vec ZcC y zs sp :: Zez zs es :: Hs) w') := by
 obtain ⟨i, A, j, xs, e1, R, e2, hkd⟩ := r
 have hr : reachBytes = 140737488351232 := rfl
 obtain ⟨h0, hh0⟩ := s.has e2
 have hlx := hh0.1
 have hlen := (s.rd_len e1 R).1
 have s := s.mk0 (A := vec ZcC Sl.nil [] []) Zdc
 have s := s.mk0 (A := Zez [] []) Zez.nil
 unfold ZaT
 refine WP.loopG (γ := Nat × List ZcK × List ZcK) (fun g (x : Sl × Int) w => x.2 = (g.1 : Int) ∧ g.1 ≤ es.length ∧ g.2.1.map (fun x => x.Kind) = (es.take g.1).map (fun e => e.kind) ∧ Ss W (Zez g.2.1 (es.take g.1) :: vec ZcC x.1 g.2.1 g.2.2 :: Hs) w) (fun g _ => es.length - g.1) (0, [], []) ⟨rfl, Nat.zero_le _, rfl, s⟩ ?_
 clear s
 rintro ⟨k, zs, sp⟩ ⟨y, _⟩ w ⟨h1, hk, hz, s⟩
 dsimp only at h1 hk hz s
 subst h1
 have hzl : zs.length = k := by
  have := congrArg List.length hz
  rw [List.length_map, List.length_map, List.length_take] at this
  omega
 show WP (ZaT.L1 sl y (k : Int)) w _
 unfold ZaT.L1
 refine WP.ite (fun hc => WP.draw' s (fun w s => ?_)) (fun hc => ?_)
 ·have hk2 : k < es.length := by omega
  have hx := List.getElem?_eq_getElem (show k < xs.length by omega)
  have ho := List.getElem?_eq_getElem hk2
  generalize xs[k]'(show k < xs.length by omega) = x at hx
  generalize es[k] = o at ho
  have ht : es.take (k + 1) = es.take k ++ [o] := by
   rw [List.take_add_one, ho]
   rfl
  have hxi : xs[Int.toNat (k : Int)]? = some x := by rw [Int.toNat_natCast]; exact hx
  have ek : x.Kind = o.kind := by
   have := congrArg (fun l => l[k]?) hkd
   simp only [List.getElem?_map, hx, ho, Option.map_some, Option.some.injEq] at this
   exact this
  obtain ⟨b1, b2, b3⟩ := hd o (List.mem_of_getElem? ho)
  refine WP.idxr s (i + 2) e1 R (by omega) hxi rfl (fun a ha => ?_)
  refine WP.ldp s (i + 2) e1 R hx ha (o := 0) (by rfl) (Zfk _) (WP.idxr s (i + 2) e1 R (by omega) hxi rfl (fun a2 ha2 => ?_))
  obtain rfl : a = a2 := Option.some.inj (ha.symm.trans ha2)
  refine WP.ldp s (i + 2) e1 R hx ha (o := 1) (ZeN _ _) (Zg9 _) (WP.idxr s (i + 2) e1 R (by omega) hxi rfl (fun a3 ha3 => ?_))
  obtain rfl : a = a3 := Option.some.inj (ha.symm.trans ha3)
  refine WP.ldp s (i + 2) e1 R hx ha (o := 2) (ZeN _ _) (Zf9 _) ?_
  have s := s.copy (j + 2) e2 Zez.ro (B := rdS cU false x.Data o.data) (fun h hh => (hh.2 k x o hx ho).1)
  have s := s.copy (j + 3) e2 Zez.ro (B := Zfr x.Opts o.opts) (fun h hh => (hh.2 k x o hx ho).2)
  refine WP.step (ZiV s ⟨0, rfl⟩ b2 b3) (fun r20 w s => ?_)
  refine WP.samep s (i + 5) e1 R hx ha (o := 2) (ZeN _ _) (Zf9 _) (WP.samep s (i + 5) e1 R hx ha (o := 0) (by rfl) (Zfk _) ?_)
  refine WP.step (ZkA s ⟨2, _, rfl, ZbD⟩ b1) ?_
  rintro r21 w ⟨sp21, s⟩
  refine WP.samep s (i + 6) e1 R hx ha (o := 0) (by rfl) (Zfk _) (WP.slot' s (fun _ w s => ?_))
  have s := Ss.frz1 s (C := rdS cU false r21 o.data) (fun h hh => Zek hh)
  refine WP.appl s 5 rfl (by rw [hzl, List.length_singleton]; omega) (by decide) (fun y2 w sp2 s => ?_)
  have s : Ss W (rdS cU false r21 o.data :: Zfr r20 o.opts :: Zfr x.Opts o.opts :: rdS cU false x.Data o.data :: Zez zs (es.take k) :: vec ZcC y2 (zs ++ [⟨x.Kind, r20, r21⟩]) sp2 :: Hs) w := s
  have s := Ss.drop (Ss.drop (s.use [2, 2] rfl))
  have s := Ss.merge s (C := fun h => rdS cU false r21 o.data h ∧ Zfr r20 o.opts h) (fun h1 h2 h l1 l2 a1 a2 => ⟨Ze5 l1 a1, Zfr.up _ _ l2 a2⟩)
  have s := Ss.merge s (C := Zez (zs ++ [⟨x.Kind, r20, r21⟩]) (es.take k ++ [o])) (fun h1 h2 h l1 l2 a1 a2 => (Zez.up _ _ l2 a2).snoc (Ze5 l1 a1.1) (Zfr.up _ _ l1 a1.2))
  refine WP.next ⟨(k + 1, zs ++ [⟨x.Kind, r20, r21⟩], sp2), ⟨?_, hk2, ?_, by rw [ht]; exact s⟩, by dsimp only; omega⟩
  ·show IntKind.wrap .i64 ((k : Int) + 1) = _
   rw [Zau (by omega) (by omega)]
   simp
  ·rw [ht, List.map_append, List.map_append, hz, List.map_singleton, List.map_singleton, ek]
 ·have hk2 : k = es.length := by omega
  rw [hk2, List.take_length] at s hz
  exact WP.done ⟨zs, sp, hz, s.use [1] rfl⟩
end
structure OwnX where
 xs : List ZcK
 st : List Zfv
 s4 : List Int
 sx : List ZcK
 s6 : List Int
 si : List Int
 su : List Int
 sT : List Int
def OwnP (y : Zac) (k : PkC) (o : OwnX) : List HP :=
 [vec Zde y.Tags k.tags o.st, Zfr y.Ip4.Opts k.o4, vec cU y.Ip4.Data k.d4 o.s4, vec ZcC y.Ip6.Exts o.xs o.sx, Zez o.xs k.exts, vec cU y.Ip6.Data k.d6 o.s6, vec cU y.Icmp.Data k.di o.si, vec cU y.Udp.Data k.du o.su, Zfr y.Tcp.Opts k.oT, vec cU y.Tcp.Data k.dT o.sT]
theorem OwnP.rd {Hs : List HP} {y : Zac} {k : PkC} {o : OwnX} (h : o.xs.map (fun x => x.Kind) = k.exts.map (fun e => e.kind)) : PkR (OwnP y k o ++ Hs) y k :=
 ⟨⟨0, _, rfl, Zc3⟩, ⟨1, rfl⟩, ⟨2, _, rfl, Zc3⟩, ⟨3, _, 4, o.xs, rfl, Zc3, rfl, h⟩, ⟨5, _, rfl, Zc3⟩, ⟨6, _, rfl, Zc3⟩, ⟨7, _, rfl, Zc3⟩, ⟨8, rfl⟩, ⟨9, _, rfl, Zc3⟩⟩
section
variable {W w : World} {Hs : List HP}
theorem Zn9 {p : Zac} {k : PkC} (s : Ss W Hs w) (r : PkR Hs p k) (b : PkL k) : WP (Zdn p) w (fun y w' => ∃ o : OwnX, o.xs.map (fun x => x.Kind) = k.exts.map (fun e => e.kind) ∧ PkS p y ∧ Ss W (OwnP y k o ++ Hs) w') := by
 obtain ⟨i, A, e, ra⟩ := r.tags
 have hr : reachBytes = 140737488351232 := rfl
 have bt := b.tags
 unfold Zdn
 refine WP.slot' s (fun _ w s => WP.slot' s (fun _ w s => WP.appS s i e ra (by decide) (WP.appl0 s (by omega) (by decide) (fun r3 w st s => ?_))))
 refine WP.step (ZiV s r.o4.push b.o4.1 b.o4.2) (fun r4 w s => ?_)
 refine WP.step (Zh6 s r.d4.push.push b.d4) ?_
 rintro r5 w ⟨s4, s⟩
 refine WP.step (R := fun y w' => ∃ xs sx s6, xs.map (fun x : ZcK => x.Kind) = k.exts.map (fun e => e.kind) ∧ y = { p.Ip6 with Exts := y.Exts, Data := y.Data } ∧ Ss W (vec cU y.Data k.d6 s6 :: vec ZcC y.Exts xs sx :: Zez xs k.exts :: vec cU r5 k.d4 s4 :: Zfr r4 k.o4 :: vec Zde r3 k.tags st :: Hs) w') ?_ ?_
 ·unfold ZeW
  refine WP.slot' s (fun _ w s => WP.slot' s (fun _ w s => WP.step (Zpu s r.ex.push.push.push b.ex.1 b.ex.2) ?_))
  rintro x3 w ⟨xs, sx, hk, s⟩
  refine WP.step (ZkA s r.d6.push.push.push.push.push b.d6) ?_
  rintro x4 w ⟨s6, s⟩
  exact WP.ret ⟨xs, sx, s6, hk, rfl, s⟩
 rintro r6 w ⟨xs, sx, s6, hk, e6, s⟩
 refine WP.step (Zh6 s r.di.push.push.push.push.push.push b.di) ?_
 rintro r7 w ⟨si, s⟩
 refine WP.step (Zh6 s r.du.push.push.push.push.push.push.push b.du) ?_
 rintro r8 w ⟨su, s⟩
 refine WP.step (ZiV s r.oT.push.push.push.push.push.push.push.push b.oT.1 b.oT.2) (fun r9 w s => ?_)
 refine WP.step (Zh6 s r.dT.push.push.push.push.push.push.push.push.push b.dT) ?_
 rintro r10 w ⟨sT, s⟩
 refine WP.ret ⟨⟨xs, st, s4, sx, s6, si, su, sT⟩, hk, ?_, ?_⟩
 ·unfold PkS
  dsimp only
  rw [← e6]
 ·exact s.use [9, 8, 7, 5, 5, 4, 3, 2, 1, 0] rfl
end
section
variable {W w : World} {Hs : List HP}
theorem orF {β : Type} {p : Prop} [Decidable p] {c : Bool} {f : Bool → M β} {Q : β → World → Prop} (hp : ¬ p) (hc : c = false) (k : WP (f false) w Q) : WP ((if p then pure true else pure c) >>= f) w Q := by
 refine WP.step (R := fun y w' => y = false ∧ w = w') (WP.ite (fun h => absurd h hp) (fun _ => WP.ret ⟨hc, rfl⟩)) ?_
 rintro _ _ ⟨rfl, rfl⟩
 exact k
theorem orX {β : Type} {p : Prop} [Decidable p] {X : M Bool} {f : Bool → M β} {Q : β → World → Prop} (hp : ¬ p) (hX : WP X w (fun y w' => y = true ∧ Ss W Hs w')) (k : ∀ w, Ss W Hs w → WP (f false) w Q) : WP ((if p then pure true else X >>= fun y => pure (!y)) >>= f) w Q := by
 refine WP.step (R := fun y w' => y = false ∧ Ss W Hs w') (WP.ite (fun h => absurd h hp) (fun _ => WP.step hX ?_)) ?_
 ·rintro _ w ⟨rfl, s⟩
  exact WP.ret ⟨rfl, s⟩
 ·rintro _ w ⟨rfl, s⟩
  exact k w s
theorem andX {β : Type} {p : Prop} [Decidable p] {X : M Bool} {f : Bool → M β} {Q : β → World → Prop} (hp : p) (hX : WP X w (fun y w' => y = true ∧ Ss W Hs w')) (k : ∀ w, Ss W Hs w → WP (f true) w Q) : WP ((if p then X >>= fun y => pure y else pure false) >>= f) w Q := by
 refine WP.step (R := fun y w' => y = true ∧ Ss W Hs w') (WP.ite (fun _ => WP.step hX (fun y w h => WP.ret h)) (fun h => absurd hp h)) ?_
 rintro _ w ⟨rfl, s⟩
 exact k w s
theorem bneS {n : Int} : (n != n) = false := by simp
theorem eqvS {α : Type} {x : α} : (!eqv x x) = false := by rw [ZuA]; rfl
theorem beqS {b : Bool} : (!(b == b)) = false := by cases b <;> rfl
theorem ZkD {a b : Sl} {l : List Int} (s : Ss W Hs w) (r1 : RdU Hs a l) (r2 : RdU Hs b l) : WP (ZcZ a b) w (fun y w' => y = true ∧ Ss W Hs w') := by
 obtain ⟨i, A, e, ra⟩ := r1
 obtain ⟨j, B, e2, rb⟩ := r2
 unfold ZcZ
 exact WP.toStr s i e ra (WP.toStr s j e2 rb (WP.ret ⟨beq_self_eq_true _, s⟩))
theorem Zm3 {a b : Sl} {l : List Int} (s : Ss W Hs w) (r1 : RdU Hs a l) (r2 : RdU Hs b l) : WP (ZdK a b) w (fun y w' => y = true ∧ Ss W Hs w') := ZkD s r1 r2
theorem Zlp {a b : Sl} {l : List Int} (s : Ss W Hs w) (r1 : RdU Hs a l) (r2 : RdU Hs b l) (hl : l.length ≤ reachBytes) :
  WP (ZcI (fun k : Int => if k < (a.len : Int) then draw >>= fun _ => idx a.a a.len k 1 >>= fun p => ld cU p >>= fun x => idx b.a b.len k 1 >>= fun q => ld cU q >>= fun z => if x ≠ z then pure (LS.done false) else pure (LS.next (IntKind.wrap .i64 (k + 1))) else pure (LS.done true)) 0) w (fun y w' => y = true ∧ Ss W Hs w') := by
 obtain ⟨i, A, e, ra⟩ := r1
 obtain ⟨j, B, e2, rb⟩ := r2
 have hr : reachBytes = 140737488351232 := rfl
 have hlen := (s.rd_len e ra).1
 refine WP.loopG (γ := Nat) (fun k (x : Int) w => x = (k : Int) ∧ k ≤ l.length ∧ Ss W Hs w) (fun k _ => l.length - k) 0 ⟨rfl, Nat.zero_le _, s⟩ ?_
 clear s
 rintro k _ w ⟨rfl, hk, s⟩
 refine WP.ite (fun hc => WP.draw' s (fun w s => ?_)) (fun hc => WP.done ⟨rfl, s⟩)
 have hk2 : k < l.length := by omega
 have hx := List.getElem?_eq_getElem hk2
 generalize l[k] = x at hx
 have hxi : l[Int.toNat (k : Int)]? = some x := by rw [Int.toNat_natCast]; exact hx
 refine WP.rdx s i e ra (by omega) hxi rfl (WP.rdx s j e2 rb (by omega) hxi rfl (WP.ite (fun h => absurd rfl h) (fun _ => WP.next ⟨k + 1, ⟨?_, hk2, s⟩, by omega⟩)))
 rw [Zau (by omega) (by omega)]
 simp
theorem Zkj {sl sl' : Sl} {os : List OptC} {xs xs' : List ZdC} {h0 h0' : PH} (hh : rdS ZbB false sl xs h0 ∧ ZdJ xs os h0) (hh' : rdS ZbB false sl' xs' h0' ∧ ZdJ xs' os h0') {k : Nat} {o : OptC} (ho : os[k]? = some o) :
  ∃ x x', xs[k]? = some x ∧ xs'[k]? = some x' ∧ x.Kind = x'.Kind := by
 have hk := (List.getElem?_eq_some_iff.1 ho).1
 have h1 := hh.2.1
 have h2 := hh'.2.1
 have hx := List.getElem?_eq_getElem (show k < xs.length by omega)
 have hx' := List.getElem?_eq_getElem (show k < xs'.length by omega)
 exact ⟨_, _, hx, hx', ((hh.2.2 k _ o hx ho).1).trans (hh'.2.2 k _ o hx' ho).1.symm⟩
theorem Zlo {sl sl' : Sl} {os : List OptC} (s : Ss W Hs w) (r1 : RdO Hs sl os) (r2 : RdO Hs sl' os) (hb : os.length * 32 ≤ reachBytes) : WP (ZaV sl sl') w (fun y w' => y = true ∧ Ss W Hs w') := by
 obtain ⟨i, e⟩ := r1
 obtain ⟨j, e2⟩ := r2
 have hr : reachBytes = 140737488351232 := rfl
 have s := s.copy i e Zfr.ro (fun h hh => hh)
 obtain ⟨xs, s⟩ := Ss.exs s
 have s := s.copy (j + 1) e2 Zfr.ro (fun h hh => hh)
 obtain ⟨xs', s⟩ := Ss.exs s
 obtain ⟨h0, hh⟩ := s.has (i := 1) rfl
 obtain ⟨h0', hh'⟩ := s.has (i := 0) rfl
 have R : Rdb (fun h => rdS ZbB false sl xs h ∧ ZdJ xs os h) ZbB sl xs := fun h hh => ZbD h hh.1
 have R' : Rdb (fun h => rdS ZbB false sl' xs' h ∧ ZdJ xs' os h) ZbB sl' xs' := fun h hh => ZbD h hh.1
 have l1 := (s.rd_len (i := 1) rfl R).1
 have l2 := (s.rd_len (i := 0) rfl R').1
 have m1 := hh.2.1
 have m2 := hh'.2.1
 unfold ZaV
 refine WP.ite (fun h => absurd (by rw [l1, l2, m1, m2]) h) (fun _ => ?_)
 refine WP.loopG (γ := Nat) (fun k (x : Int) w => x = (k : Int) ∧ k ≤ os.length ∧ Ss W ((fun h => rdS ZbB false sl' xs' h ∧ ZdJ xs' os h) :: (fun h => rdS ZbB false sl xs h ∧ ZdJ xs os h) :: Hs) w) (fun k _ => os.length - k) 0 ⟨rfl, Nat.zero_le _, s⟩ ?_
 clear s
 rintro k _ w ⟨rfl, hk, s⟩
 show WP (ZaV.L1 sl sl' (k : Int)) w _
 unfold ZaV.L1
 refine WP.ite (fun hc => WP.draw' s (fun w s => ?_)) (fun hc => WP.done ⟨rfl, s.drop.drop⟩)
 have ho := List.getElem?_eq_getElem (show k < os.length by omega)
 generalize os[k]'(show k < os.length by omega) = o at ho
 obtain ⟨x, x', hx, hx', ek⟩ := Zkj hh hh' ho
 have hxi : xs[Int.toNat (k : Int)]? = some x := by rw [Int.toNat_natCast]; exact hx
 have hxi' : xs'[Int.toNat (k : Int)]? = some x' := by rw [Int.toNat_natCast]; exact hx'
 refine WP.rdxp s 1 rfl R (by omega) hxi rfl (Zfi _) (WP.rdxp s 0 rfl R' (by omega) hxi' rfl (Zfi _) ?_)
 have s2 := s.copy 1 rfl (Ro.rdS.and ZdJ.ro) (B := rdS cU false x.Data o.data) (fun h hh => (hh.2.2 k x o hx ho).2)
 have s2 := s2.copy 1 rfl (Ro.rdS.and ZdJ.ro) (B := rdS cU false x'.Data o.data) (fun h hh => (hh.2.2 k x' o hx' ho).2)
 refine WP.step (ZkD s2 ⟨1, _, rfl, ZbD⟩ ⟨0, _, rfl, ZbD⟩) ?_
 rintro _ w ⟨rfl, s3⟩
 have s := s3.drop.drop
 refine WP.draw' s (fun w s => WP.rdxp0 s 1 rfl R (by omega) hxi rfl (Zet _) (WP.rdxp0 s 0 rfl R' (by omega) hxi' rfl (Zet _) (orF (fun h => h ek) rfl ?_)))
 refine WP.ite (fun h => by cases h) (fun _ => WP.next ⟨k + 1, ⟨?_, by omega, s⟩, by omega⟩)
 rw [Zau (by omega) (by omega)]
 simp
theorem ZoN {sl sl' : Sl} {os : List OptC} (s : Ss W Hs w) (r1 : RdO Hs sl os) (r2 : RdO Hs sl' os) (hb : os.length * 32 ≤ reachBytes) : WP (ZaW sl sl') w (fun y w' => y = true ∧ Ss W Hs w') := by
 obtain ⟨i, e⟩ := r1
 obtain ⟨j, e2⟩ := r2
 have hr : reachBytes = 140737488351232 := rfl
 have s := s.copy i e Zfr.ro (fun h hh => hh)
 obtain ⟨xs, s⟩ := Ss.exs s
 have s := s.copy (j + 1) e2 Zfr.ro (fun h hh => hh)
 obtain ⟨xs', s⟩ := Ss.exs s
 obtain ⟨h0, hh⟩ := s.has (i := 1) rfl
 obtain ⟨h0', hh'⟩ := s.has (i := 0) rfl
 have R : Rdb (fun h => rdS ZbB false sl xs h ∧ ZdJ xs os h) ZbB sl xs := fun h hh => ZbD h hh.1
 have R' : Rdb (fun h => rdS ZbB false sl' xs' h ∧ ZdJ xs' os h) ZbB sl' xs' := fun h hh => ZbD h hh.1
 have l1 := (s.rd_len (i := 1) rfl R).1
 have l2 := (s.rd_len (i := 0) rfl R').1
 have m1 := hh.2.1
 have m2 := hh'.2.1
 unfold ZaW
 refine WP.ite (fun h => absurd (by rw [l1, l2, m1, m2]) h) (fun _ => ?_)
 refine WP.loopG (γ := Nat) (fun k (x : Int) w => x = (k : Int) ∧ k ≤ os.length ∧ Ss W ((fun h => rdS ZbB false sl' xs' h ∧ ZdJ xs' os h) :: (fun h => rdS ZbB false sl xs h ∧ ZdJ xs os h) :: Hs) w) (fun k _ => os.length - k) 0 ⟨rfl, Nat.zero_le _, s⟩ ?_
 clear s
 rintro k _ w ⟨rfl, hk, s⟩
 show WP (ZaW.L1 sl sl' (k : Int)) w _
 unfold ZaW.L1
 refine WP.ite (fun hc => WP.draw' s (fun w s => ?_)) (fun hc => WP.done ⟨rfl, s.drop.drop⟩)
 have ho := List.getElem?_eq_getElem (show k < os.length by omega)
 generalize os[k]'(show k < os.length by omega) = o at ho
 obtain ⟨x, x', hx, hx', ek⟩ := Zkj hh hh' ho
 have hxi : xs[Int.toNat (k : Int)]? = some x := by rw [Int.toNat_natCast]; exact hx
 have hxi' : xs'[Int.toNat (k : Int)]? = some x' := by rw [Int.toNat_natCast]; exact hx'
 refine WP.rdxp0 s 1 rfl R (by omega) hxi rfl (Zet _) (WP.rdxp0 s 0 rfl R' (by omega) hxi' rfl (Zet _) ?_)
 refine WP.step (R := fun y w' => y = false ∧ Ss W ((fun h => rdS ZbB false sl' xs' h ∧ ZdJ xs' os h) :: (fun h => rdS ZbB false sl xs h ∧ ZdJ xs os h) :: Hs) w') (WP.ite (fun h => absurd ek h) (fun _ => ?_)) ?_
 ·refine WP.rdxp s 1 rfl R (by omega) hxi rfl (Zfi _) (WP.rdxp s 0 rfl R' (by omega) hxi' rfl (Zfi _) ?_)
  have s2 := s.copy 1 rfl (Ro.rdS.and ZdJ.ro) (B := rdS cU false x.Data o.data) (fun h hh => (hh.2.2 k x o hx ho).2)
  have s2 := s2.copy 1 rfl (Ro.rdS.and ZdJ.ro) (B := rdS cU false x'.Data o.data) (fun h hh => (hh.2.2 k x' o hx' ho).2)
  refine WP.step (Zm3 s2 ⟨1, _, rfl, ZbD⟩ ⟨0, _, rfl, ZbD⟩) ?_
  rintro _ w ⟨rfl, s3⟩
  exact WP.ret ⟨rfl, s3.drop.drop⟩
 rintro _ w ⟨rfl, s⟩
 refine WP.ite (fun h => by cases h) (fun _ => WP.next ⟨k + 1, ⟨?_, by omega, s⟩, by omega⟩)
 rw [Zau (by omega) (by omega)]
 simp
end
end Go.Proofs.YtobemldccnnblaaGreatDoor.Lx
