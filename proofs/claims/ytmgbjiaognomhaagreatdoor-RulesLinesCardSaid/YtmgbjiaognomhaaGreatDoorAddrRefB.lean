/- Plain words, put together. -/
import Derived.Test.YtmgbjiaognomhaaGreatDoorRulesSide3
import Derived.Test.YtmgbjiaognomhaaGreatDoorLxSh
import Derived.Test.YtmgbjiaognomhaaGreatDoorLxQ
set_option linter.unusedVariables false
set_option linter.unusedSimpArgs false
namespace Go.Proofs.YtmgbjiaognomhaaGreatDoor.Lx
open Go Go.Proofs Go.RowKit
theorem ZiO (a : Nat) : BitVec.ofInt 64 (a : Int) = BitVec.ofNat 64 a := by
 apply BitVec.eq_of_toNat_eq
 simp [BitVec.toNat_ofInt, BitVec.toNat_ofNat]
theorem Zq7 {a b : Nat} (ha : a < 256) (hb : b < 256) : bor .i64 (a : Int) (b : Int) = ((a ||| b : Nat) : Int) := by
 have h : a ||| b < 2 ^ 8 := Nat.or_lt_two_pow ha hb
 unfold bor
 rw [show IntKind.i64.bits = 64 from rfl, ZiO, ZiO, BitVec.toNat_or, BitVec.toNat_ofNat, BitVec.toNat_ofNat, Nat.mod_eq_of_lt (by omega), Nat.mod_eq_of_lt (by omega), Zak (by omega) (by omega)]
theorem Zsl {a b : Nat} (ha : a < 256) (hb : b < 256) : band .i64 (a : Int) (b : Int) = ((a &&& b : Nat) : Int) := by
 have h : a &&& b ≤ a := Nat.and_le_left
 unfold band
 rw [show IntKind.i64.bits = 64 from rfl, ZiO, ZiO, BitVec.toNat_and, BitVec.toNat_ofNat, BitVec.toNat_ofNat, Nat.mod_eq_of_lt (by omega), Nat.mod_eq_of_lt (by omega), Zak (by omega) (by omega)]
theorem Zsk : ∀ n : _root_.Fin 256, band .i64 (n.val : Int) 1 = ((n.val % 2 : Nat) : Int) := by decide +kernel
theorem ZfK (a k : Nat) : hasB (a : Int) k = a.testBit k := by
 unfold hasB
 rw [Bool.eq_iff_iff, decide_eq_true_iff, Nat.testBit_eq_decide_div_mod_eq, decide_eq_true_iff]
 have : ((2 : Int) ^ k) = ((2 ^ k : Nat) : Int) := by push_cast; rfl
 rw [this, ← Int.natCast_ediv]
 omega
theorem Zuq {a : Nat} (ha : a < 256) {k : Nat} (hk : k < 8) : (band .i64 (Int.fdiv (a : Int) (2 ^ min (Int.toNat (IntKind.wrap .u64 (k : Int))) 64)) 1 = 1) ↔ hasB (a : Int) k = true := by
 have hw : IntKind.wrap .u64 (k : Int) = (k : Int) := Zj7 (by omega) (by omega)
 rw [hw, Int.toNat_natCast, show min k 64 = k by omega]
 have e : Int.fdiv (a : Int) (2 ^ k) = ((a / 2 ^ k : Nat) : Int) := by
  have : ((2 : Int) ^ k) = ((2 ^ k : Nat) : Int) := by push_cast; rfl
  rw [this, Int.fdiv_eq_ediv_of_nonneg _ (Int.natCast_nonneg _), Int.natCast_ediv]
 have hlt : a / 2 ^ k < 256 := Nat.lt_of_le_of_lt (Nat.div_le_self ..) ha
 have hb := Zsk ⟨a / 2 ^ k, hlt⟩
 simp only at hb
 rw [e, hb, ZfK, Nat.testBit_eq_decide_div_mod_eq, decide_eq_true_iff]
 omega
theorem ZsE {s c : Int} (hs : 0 ≤ s ∧ s ≤ 255) (hc : 0 ≤ c ∧ c ≤ 255) {k : Nat} (hk : k < 8) : (band .i64 (Int.fdiv (bor .i64 s c) (2 ^ min (Int.toNat (IntKind.wrap .u64 (k : Int))) 64)) 1 = 1) ↔ (hasB s k || hasB c k) = true := by
 obtain ⟨a, rfl⟩ : ∃ a : Nat, s = a := ⟨s.toNat, by omega⟩
 obtain ⟨b, rfl⟩ : ∃ b : Nat, c = b := ⟨c.toNat, by omega⟩
 rw [Zq7 (by omega) (by omega), Zuq (Nat.or_lt_two_pow (n := 8) (by omega) (by omega)) hk, ZfK, ZfK, ZfK, Nat.testBit_or]
theorem Ztr : ∀ a : _root_.Fin 256, ∀ k : _root_.Fin 8, hasB (a.val : Int) k.val = false → bor .i64 (a.val : Int) (IntKind.wrap .i64 (1 * 2 ^ min (Int.toNat (IntKind.wrap .u64 (k.val : Int))) 64)) = (a.val : Int) + 2 ^ k.val ∧ (a.val : Int) + 2 ^ k.val ≤ 255 := by decide +kernel
theorem Zk8 {s : Int} (hs : 0 ≤ s ∧ s ≤ 255) {k : Nat} (hk : k < 8) (h : hasB s k = false) : bor .i64 s (IntKind.wrap .i64 (1 * 2 ^ min (Int.toNat (IntKind.wrap .u64 (k : Int))) 64)) = s + 2 ^ k ∧ 0 ≤ s + 2 ^ k ∧ s + 2 ^ k ≤ 255 := by
 obtain ⟨a, rfl⟩ : ∃ a : Nat, s = a := ⟨s.toNat, by omega⟩
 obtain ⟨h1, h2⟩ := Ztr ⟨a, by omega⟩ ⟨k, hk⟩ h
 simp only at h1 h2
 have : (0 : Int) < 2 ^ k := Int.pow_pos (by omega)
 exact ⟨h1, by omega, h2⟩
theorem Zsf {s c : Int} (hs : 0 ≤ s ∧ s ≤ 255) (hc : 0 ≤ c ∧ c ≤ 255) : bor .i64 s c ≠ 0 ↔ (s ≠ 0 ∨ c ≠ 0) := by
 obtain ⟨a, rfl⟩ : ∃ a : Nat, s = a := ⟨s.toNat, by omega⟩
 obtain ⟨b, rfl⟩ : ∃ b : Nat, c = b := ⟨c.toNat, by omega⟩
 rw [Zq7 (by omega) (by omega)]
 have : a ||| b = 0 ↔ a = 0 ∧ b = 0 := Nat.or_eq_zero_iff
 omega
theorem ZpD {s c : Int} (hs : 0 ≤ s ∧ s ≤ 255) (hc : 0 ≤ c ∧ c ≤ 255) : band .i64 s c = 0 ↔ Zox s c = false := by
 obtain ⟨a, rfl⟩ : ∃ a : Nat, s = a := ⟨s.toNat, by omega⟩
 obtain ⟨b, rfl⟩ : ∃ b : Nat, c = b := ⟨c.toNat, by omega⟩
 rw [Zsl (by omega) (by omega)]
 unfold Zox
 rw [List.any_eq_false]
 constructor
 ·intro h k _
  have h0 : a &&& b = 0 := by omega
  rw [ZfK, ZfK, ← Nat.testBit_and, h0]
  simp
 ·intro h
  have : a &&& b = 0 := by
   refine Nat.eq_of_testBit_eq fun k => ?_
   rw [Nat.zero_testBit]
   by_cases hk : k < 8
   ·have := h k (List.mem_range.2 hk)
    rw [ZfK, ZfK, ← Nat.testBit_and] at this
    simpa using this
   ·have hle : a &&& b ≤ a := Nat.and_le_left
    refine Nat.testBit_lt_two_pow (Nat.lt_of_lt_of_le (show a &&& b < 2 ^ 8 by omega) (Nat.pow_le_pow_right (by omega) (by omega)))
  rw [this]
  rfl
def Zh3 : List ByteArray := ZiX.map bstr
theorem Zr6 : Zh3.map strI = ZiX := by decide +kernel
theorem ZnE : strI ZtV = [33] := by decide +kernel
theorem tx_p : strI str8 = [112] := by decide +kernel
def Zoa (e s c : Int) : List Wd → PE ((Int × Int) × List Wd)
 | [] => .error (161, e)
 | w :: ws => if w.1 = Zcu then .error (160, w.2) else match (ZfD w.1).2 with
  | none => .error (160, w.2)
  | some k => if (hasB s k || hasB c k) = true then .error (165, w.2) else .ok ((if (ZfD w.1).1 = true then (s, c + 2 ^ k) else (s + 2 ^ k, c)), ws)
theorem ZhT {e s c : Int} {w : Wd} {ws : List Wd} : Zoa e s c (w :: ws) = if w.1 = Zcu then .error (160, w.2) else match (ZfD w.1).2 with
  | none => .error (160, w.2)
  | some k => if (hasB s k || hasB c k) = true then .error (165, w.2) else .ok ((if (ZfD w.1).1 = true then (s, c + 2 ^ k) else (s + 2 ^ k, c)), ws) := rfl
theorem Zn9 {e s c : Int} {w : Wd} {ws : List Wd} : ZeN e s c (w :: ws) = if w.1 = Zcu then .error (160, w.2) else match (ZfD w.1).2 with
  | none => .error (160, w.2)
  | some k => if (hasB s k || hasB c k) = true then .error (165, w.2) else match ws with
   | [] => .ok ((if (ZfD w.1).1 = true then (s, c + 2 ^ k) else (s + 2 ^ k, c)), [])
   | d :: ws => if d.1 = Zcu then (if (ZfD w.1).1 = true then ZeN e s (c + 2 ^ k) ws else ZeN e (s + 2 ^ k) c ws)
    else .ok ((if (ZfD w.1).1 = true then (s, c + 2 ^ k) else (s + 2 ^ k, c)), d :: ws) := by
 rw [ZeN]
 try rfl
theorem Zip {e s c : Int} {ws : List Wd} : ZeN e s c ws = match Zoa e s c ws with
  | .error f => .error f
  | .ok (p, r) => match Zcs Zcu r with
   | none => .ok (p, r)
   | some r => ZeN e p.1 p.2 r := by
 cases ws with
 | nil => rfl
 | cons w ws =>
  rw [Zn9, ZhT]
  by_cases h : w.1 = Zcu
  ·rw [if_pos h, if_pos h]
  ·rw [if_neg h, if_neg h]
   cases (ZfD w.1).2 with
   | none => rfl
   | some k =>
    simp only
    by_cases h2 : (hasB s k || hasB c k) = true
    ·rw [if_pos h2, if_pos h2]
    ·rw [if_neg h2, if_neg h2]
     cases ws with
     | nil => rfl
     | cons d ws =>
      simp only [Zcs]
      by_cases h3 : d.1 = Zcu
      ·rw [if_pos h3, if_pos h3]
       cases (ZfD w.1).1 <;> rfl
      ·rw [if_neg h3, if_neg h3]
theorem Znl {e s c : Int} {ws r : List Wd} {p : Int × Int} (h : Zoa e s c ws = .ok (p, r)) : r.length < ws.length := by
 cases ws with
 | nil => cases h
 | cons w ws =>
  rw [ZhT] at h
  split at h
  ·cases h
  ·split at h
   ·cases h
   ·split at h
    ·cases h
    ·cases h
     simp
section
variable {W w : World} {Hs : List HP}
theorem Zk3 (t p : ByteArray) {q : Int} (hp : strI p = [q]) : WP (Zco t p) w (fun r w' => (if (strI t).head? = some q then r.2 = true ∧ strI r.1 = (strI t).tail else r = (t, false)) ∧ w = w') := by
 have hn : p.size = 1 := by
  rw [← Zbq, hp]
  rfl
 have hl := Zbq t
 have hh : ((strI t).take p.size = strI p) ↔ (strI t).head? = some q := by
  rw [hn, hp]
  cases strI t with
  | nil => simp
  | cons a l => simp
 unfold Zco ZcJ
 refine WP.step (R := fun r w' => (if (strI t).head? = some q then r.2 = true ∧ strI r.1 = (strI t).tail else r = (t, false)) ∧ w = w') ?_ (fun r w h => WP.ret h)
 refine WP.step (R := fun r w' => r = decide ((strI t).head? = some q) ∧ w = w') ?_ ?_
 ·unfold Zce
  refine WP.step (R := fun r w' => r = decide ((strI t).head? = some q) ∧ w = w') (WP.ite (fun h => WP.chk ⟨by omega, by omega, h⟩ (WP.ret ⟨?_, rfl⟩)) (fun h => WP.ret ⟨?_, rfl⟩)) (fun r w h => WP.ret h)
  ·rw [Bool.eq_iff_iff, beq_iff_eq, decide_eq_true_iff, Zbl, Zcm, ← hh]
   simp
  ·have : strI t = [] := List.length_eq_zero_iff.1 (by omega)
   rw [this]
   rfl
 rintro _ _ ⟨rfl, rfl⟩
 by_cases hq : (strI t).head? = some q
 ·simp only [if_pos hq]
  refine WP.ite (fun h => absurd (decide_eq_true hq) h) (fun _ => WP.chk ⟨by omega, ?_, by omega⟩ (WP.ret ⟨⟨rfl, ?_⟩, rfl⟩))
  ·cases e : strI t with
   | nil => rw [e] at hq; cases hq
   | cons a l =>
    rw [e] at hl
    simp at hl
    omega
  ·simp only
   rw [Zcm, hn]
   simp only [Int.toNat_natCast, show ((1 : Nat) : Int).toNat = 1 from rfl]
   rw [List.take_of_length_le (by rw [List.length_drop]; omega), List.drop_one]
 ·simp only [if_neg hq]
  exact WP.ite (fun _ => WP.ret ⟨rfl, rfl⟩) (fun h => absurd (by simp [hq]) h)
variable {b : Nat} {wl : List ZaK} {e : Int} {m : ZbN} {ws : List Wd} {f : PF}
theorem Zp5 (s : Ss W (RrA b wl e m ws :: Hs) w) : WP (ZcX (some (pt b 0))) w (fun r w' => ResR W Hs b wl e m r w' (Zlf e ws)) := by
 unfold ZcX
 refine WP.step (Zht s) ?_
 intro r w h
 have dead : ∀ {w : World} {f : PF}, Ss W (RrD b f :: Hs) w → WP (slot 48 >>= fun b2 => Zco r.s str8 >>= fun r3 => Zbr r3.1 0 7 >>= fun r4 => nilck (some (pt b 0)) >>= fun p5 => ld (cI .i64) (Addr.add p5 19) >>= fun x6 =>
   (if x6 = 0 then (if ¬ (r3.2 = true) then pure true else pure (!r4.2)) >>= fun y7 => pure y7 else pure false) >>= fun y8 => if y8 = true then Za7 (some (pt b 0)) 162 r.at_ >>= fun r10 => pure r4.1 else pure r4.1) w (fun _ w' => Ss W (RrD b f :: Hs) w') := by
  intro w f s
  refine WP.slot' s (fun _ w s => WP.step (Zk3 r.s _ tx_p) ?_)
  rintro q _ ⟨-, rfl⟩
  refine WP.step (ZjL q.1 0 7) ?_
  rintro x _ ⟨-, -, rfl⟩
  refine WP.nilck (errD s (fun h => ?_))
  refine WP.step (R := fun y w' => y = false ∧ w = w') (WP.ite (fun h' => absurd h' h) (fun _ => WP.ret ⟨rfl, rfl⟩)) ?_
  rintro _ _ ⟨rfl, rfl⟩
  exact WP.ite (fun h => by cases h) (fun _ => WP.ret s)
 cases ws with
 | nil => exact dead h.2
 | cons x xs =>
  obtain ⟨hx, s1⟩ := h
  clear s
  have s := s1
  clear s1
  subst hx
  rw [show Zlf e (wdOf r :: xs) = if (wdOf r).1 = Zcu then .error (160, (wdOf r).2) else match (if (wdOf r).1.head? = some 112 then numR (wdOf r).1.tail 0 7 else none) with
   | none => .error (162, (wdOf r).2)
   | some n => .ok (n, xs) from rfl]
  by_cases hc : (wdOf r).1 = Zcu
  ·rw [if_pos hc] at s ⊢
   exact dead s
  rw [if_neg hc] at s ⊢
  have hr : (wdOf r).1 = strI r.s := rfl
  rw [hr]
  refine WP.slot' s (fun _ w s => WP.step (Zk3 r.s _ tx_p) ?_)
  rintro q _ ⟨hq, rfl⟩
  refine WP.step (ZjL q.1 0 7) ?_
  rintro x _ ⟨a1, a2, rfl⟩
  refine WP.nilck (errA s ?_)
  have bad : ∀ {w : World}, Ss W (RrA b wl e m xs :: Hs) w → WP (Za7 (some (pt b 0)) 162 r.at_ >>= fun _ => pure x.1) w (fun y w' => ResR W Hs b wl e m y w' (.error (162, r.at_))) := by
   intro w s
   refine WP.step (ZdJ s (by decide) r.at_) ?_
   intro _ w s
   exact WP.ret s
  by_cases hh : (strI r.s).head? = some 112
  ·rw [if_pos hh] at hq ⊢
   obtain ⟨q1, q2⟩ := hq
   rw [q2] at a1 a2
   refine WP.step (R := fun y w' => y = !x.2 ∧ w = w') (WP.ite (fun _ => WP.step (R := fun y w' => y = !x.2 ∧ w = w') (WP.ite (fun h => absurd q1 h) (fun _ => WP.ret ⟨rfl, rfl⟩)) (fun y w h => WP.ret h)) (fun h => absurd rfl h)) ?_
   rintro _ _ ⟨rfl, rfl⟩
   rw [a1]
   cases hn : numR (strI r.s).tail 0 7 with
   | none => exact WP.ite (fun _ => bad s) (fun h => absurd rfl h)
   | some v => exact WP.ite (fun h => by cases h) (fun _ => WP.ret ⟨a2 v hn, s⟩)
  ·rw [if_neg hh] at hq ⊢
   refine WP.step (R := fun y w' => y = true ∧ w = w') (WP.ite (fun _ => WP.step (R := fun y w' => y = true ∧ w = w') (WP.ite (fun _ => WP.ret ⟨rfl, rfl⟩) (fun h => absurd (by rw [hq]; exact Bool.false_ne_true) h)) (fun y w h => WP.ret h)) (fun h => absurd rfl h)) ?_
   rintro _ _ ⟨rfl, rfl⟩
   exact WP.ite (fun _ => bad s) (fun h => absurd rfl h)
def Zih (m : ZbN) (p : Int × Int) : ZbN := { m with Set := p.1, Clear := p.2 }
def ZmJ (m : ZbN) (X : PE ((Int × Int) × List Wd)) : PE (ZbN × List Wd) := match X with
 | .error f => .error f
 | .ok (p, r) => .ok (Zih m p, r)
def B255 (p : Int × Int) : Prop := (0 ≤ p.1 ∧ p.1 ≤ 255) ∧ (0 ≤ p.2 ∧ p.2 ≤ 255)
theorem ZqR {s c : Int} {ws r : List Wd} {p : Int × Int} (hb : B255 (s, c)) (h : Zoa e s c ws = .ok (p, r)) : B255 p := by
 cases ws with
 | nil => cases h
 | cons w ws =>
  rw [ZhT] at h
  split at h
  ·cases h
  ·split at h
   ·cases h
   ·rename_i k hk
    split at h
    ·cases h
    ·rename_i hn
     have hk8 : k < 8 := by
      unfold ZfD at hk
      split at hk
      ·exact Zhy hk
      ·exact Zhy hk
     have hn1 : hasB s k = false := by
      cases hh : hasB s k with
      | false => rfl
      | true => exact absurd (by simp [hh]) hn
     have hn2 : hasB c k = false := by
      cases hh : hasB c k with
      | false => rfl
      | true => exact absurd (by simp [hh]) hn
     have a1 := Zk8 hb.1 hk8 hn1
     have a2 := Zk8 hb.2 hk8 hn2
     cases h
     split
     ·exact ⟨hb.1, a2.2⟩
     ·exact ⟨a1.2, hb.2⟩
theorem Zge (s : Ss W (RrD b f :: Hs) w) : WP (Zan.K1 (some (pt b 0))) w (fun r w' => r = LS.next false ∧ Ss W (RrD b f :: Hs) w') := by
 unfold Zan.K1
 refine WP.step (ZfV s _) ?_
 rintro _ w ⟨rfl, s⟩
 exact WP.ret ⟨rfl, s⟩
def FlR (W : World) (Hs : List HP) (b : Nat) (wl : List ZaK) (e : Int) (m : ZbN) (r : LS Bool Unit) (w : World) : PE ((Int × Int) × List Wd) → Prop
 | .error f => r = LS.next false ∧ Ss W (RrD b f :: Hs) w
 | .ok (p, ws) => match Zcs Zcu ws with
  | none => r = LS.next false ∧ Ss W (RrA b wl e (Zih m p) ws :: Hs) w
  | some ws => r = LS.next true ∧ Ss W (RrA b wl e (Zih m p) ws :: Hs) w
theorem ZlM {p : Int × Int} (s : Ss W (RrA b wl e (Zih m p) ws :: Hs) w) : WP (Zan.K1 (some (pt b 0))) w (fun r w' => FlR W Hs b wl e m r w' (.ok (p, ws))) := by
 unfold Zan.K1
 refine WP.step (ZfU s ZeU) ?_
 intro y w h
 refine WP.ret ?_
 cases ht : Zcs Zcu ws with
 | none =>
  rw [ht] at h
  obtain ⟨rfl, s⟩ := h
  simp only [FlR, ht]
  exact ⟨trivial, s⟩
 | some r =>
  rw [ht] at h
  obtain ⟨rfl, s⟩ := h
  simp only [FlR, ht]
  exact ⟨trivial, s⟩
theorem Znk {p : Int × Int} (hb : B255 p) (fi : Nat) (ef : nth Hs fi = some (NmP 2 Zh3)) (s : Ss W (RrA b wl e (Zih m p) ws :: Hs) w) : WP (Zan.L1 (some (pt b 0)) true) w (fun r w' => FlR W Hs b wl e m r w' (Zoa e p.1 p.2 ws)) := by
 unfold Zan.L1
 refine WP.step (R := fun y w' => y = true ∧ w = w') (WP.ite (fun _ => WP.nilck (errA s (WP.ret ⟨rfl, rfl⟩))) (fun h => absurd rfl h)) ?_
 rintro _ _ ⟨rfl, rfl⟩
 refine WP.ite (fun _ => WP.step (Zht s) ?_) (fun h => absurd rfl h)
 intro r w h
 cases ws with
 | nil =>
  obtain ⟨hz, s⟩ := h
  refine WP.slot' s (fun _ w s => WP.step (Zk3 r.s _ ZnE) ?_)
  rintro q _ ⟨-, rfl⟩
  refine ZhQ s (fi + 1) ef (by decide) (WP.nilck (errD s (fun h => WP.ite (fun _ => Zge s) (fun h' => absurd h h'))))
 | cons x xs =>
  obtain ⟨hx, s1⟩ := h
  clear s
  have s := s1
  clear s1
  subst hx
  rw [ZhT]
  have hr : (wdOf r).1 = strI r.s := rfl
  by_cases hc : (wdOf r).1 = Zcu
  ·rw [if_pos hc] at s ⊢
   refine WP.slot' s (fun _ w s => WP.step (Zk3 r.s _ ZnE) ?_)
   rintro q _ ⟨-, rfl⟩
   refine ZhQ s (fi + 1) ef (by decide) (WP.nilck (errD s (fun h => WP.ite (fun _ => Zge s) (fun h' => absurd h h'))))
  rw [if_neg hc] at s ⊢
  rw [hr]
  refine WP.slot' s (fun _ w s => WP.step (Zk3 r.s _ ZnE) ?_)
  rintro q _ ⟨hq, rfl⟩
  have hfr : ZfD (strI r.s) = (q.2, idxT ZiX (strI q.1)) := by
   unfold ZfD
   by_cases hh : (strI r.s).head? = some 33
   ·rw [if_pos hh] at hq ⊢
    rw [hq.1, hq.2]
   ·rw [if_neg hh] at hq ⊢
    rw [hq]
  refine ZhQ s (fi + 1) ef (by decide) ?_
  rw [Zr6, hfr]
  unfold idxI
  simp only
  cases hk : idxT ZiX (strI q.1) with
  | none =>
   refine WP.nilck (errA s (WP.ite (fun h => absurd rfl h) (fun _ => WP.ite (fun _ => WP.step (ZdJ s (by decide) r.at_) ?_) (fun h => absurd (by decide) h))))
   intro _ w s
   exact Zge s
  | some k =>
   have hk8 : k < 8 := Zhy hk
   have hu : (0 : Int) ≤ IntKind.wrap .u64 (k : Int) := by rw [Zj7 (by omega) (by omega)]; omega
   dsimp only
   refine WP.nilck (errA s (WP.ite (fun h => absurd rfl h) (fun _ => WP.ite (fun h => absurd h (by omega)) (fun _ => WP.draw' s (fun w s => WP.nilck (ldA (o := 12) (v := p.1) s (fun r => r.Set) (fun r => ZcB r) (fun r h => h.2.2.2.2.2.2.1) (WP.nilck (ldA (o := 13) (v := p.2) s (fun r => r.Clear) (fun r => Zcj r) (fun r h => h.2.2.2.2.2.2.2.1) ?_))))))))
   refine WP.chk hu (WP.ite (fun h => ?_) (fun h => ?_))
   ·have h' := (ZsE hb.1 hb.2 hk8).1 h
    rw [if_pos h']
    refine WP.step (ZdJ s (by decide) r.at_) ?_
    intro _ w s
    exact Zge s
   ·have h' : ¬ (hasB p.1 k || hasB p.2 k) = true := fun h' => h ((ZsE hb.1 hb.2 hk8).2 h')
    rw [if_neg h']
    have hn1 : hasB p.1 k = false := by
     cases hh : hasB p.1 k with
     | false => rfl
     | true => exact absurd (by simp [hh]) h'
    have hn2 : hasB p.2 k = false := by
     cases hh : hasB p.2 k with
     | false => rfl
     | true => exact absurd (by simp [hh]) h'
    refine WP.ite (fun h2 => ?_) (fun h2 => ?_)
    ·rw [if_pos h2]
     refine WP.nilck (ldA (o := 13) (v := p.2) s (fun r => r.Clear) (fun r => Zcj r) (fun r h => h.2.2.2.2.2.2.2.1) (WP.chk hu (WP.nilck ?_)))
     rw [(Zk8 hb.2 hk8 hn2).1]
     exact setA (o := 13) (m' := Zih m (p.1, p.2 + 2 ^ k)) s (fun r => { r with Clear := p.2 + 2 ^ k }) (fun r => ZgJ r _) (fun r h => ⟨h.1, h.2.1, h.2.2.1, h.2.2.2.1, h.2.2.2.2.1, h.2.2.2.2.2.1, h.2.2.2.2.2.2.1, rfl, h.2.2.2.2.2.2.2.2⟩) (fun r => ⟨rfl, rfl⟩) ⟨rfl, rfl⟩ (fun w s => ZlM s)
    ·rw [if_neg h2]
     refine WP.nilck (ldA (o := 12) (v := p.1) s (fun r => r.Set) (fun r => ZcB r) (fun r h => h.2.2.2.2.2.2.1) (WP.chk hu (WP.nilck ?_)))
     rw [(Zk8 hb.1 hk8 hn1).1]
     exact setA (o := 12) (m' := Zih m (p.1 + 2 ^ k, p.2)) s (fun r => { r with Set := p.1 + 2 ^ k }) (fun r => ZhI r _) (fun r h => ⟨h.1, h.2.1, h.2.2.1, h.2.2.2.1, h.2.2.2.2.1, h.2.2.2.2.2.1, rfl, h.2.2.2.2.2.2.2⟩) (fun r => ⟨rfl, rfl⟩) ⟨rfl, rfl⟩ (fun w s => ZlM s)
theorem Zpi {p : Int × Int} (hb : B255 p) (fi : Nat) (ef : nth Hs fi = some (NmP 2 Zh3)) (s : Ss W (RrA b wl e (Zih m p) ws :: Hs) w) : WP (Zan (some (pt b 0))) w (fun _ w' => RulR W Hs b wl e w' (ZmJ m (ZeN e p.1 p.2 ws))) := by
 unfold Zan
 generalize hX : ZeN e p.1 p.2 ws = X
 refine WP.loopG (γ := PE (Bool × (Int × Int) × List Wd)) (fun g (x : Bool) w => match g with
   | .ok (more, p, ws) => x = more ∧ B255 p ∧ (if more = true then ZeN e p.1 p.2 ws else .ok (p, ws)) = X ∧ Ss W (RrA b wl e (Zih m p) ws :: Hs) w
   | .error f => x = false ∧ X = .error f ∧ Ss W (RrD b f :: Hs) w) (fun g _ => match g with
   | .ok (true, _, ws) => ws.length + 1
   | _ => 0) (.ok (true, p, ws)) ⟨rfl, hb, hX, s⟩ ?_
 clear s hb hX
 rintro g x w h
 show WP (Zan.L1 (some (pt b 0)) x) w _
 have stop : ∀ {w : World} {Q : LS Bool Unit → World → Prop}, Q (LS.done ()) w → WP (Zan.L1 (some (pt b 0)) false) w Q := by
  intro w Q h
  unfold Zan.L1
  refine WP.step (R := fun y w' => y = false ∧ w = w') (WP.ite (fun h => by cases h) (fun _ => WP.ret ⟨rfl, rfl⟩)) ?_
  rintro _ _ ⟨rfl, rfl⟩
  exact WP.ite (fun h => by cases h) (fun _ => WP.ret h)
 cases g with
 | error f =>
  obtain ⟨rfl, hXf, s⟩ := h
  refine stop ?_
  show RulR W Hs b wl e w (ZmJ m X)
  rw [hXf]
  exact s
 | ok g =>
  obtain ⟨more, p, ws⟩ := g
  obtain ⟨rfl, hb, hX, s⟩ := h
  cases x with
  | false =>
   refine stop ?_
   show RulR W Hs b wl e w (ZmJ m X)
   rw [← hX]
   exact s
  | true =>
   refine (Znk hb fi ef s).mono ?_
   intro r w h
   simp only [if_true] at hX
   rw [Zip] at hX
   cases hf : Zoa e p.1 p.2 ws with
   | error f =>
    rw [hf] at h hX
    obtain ⟨rfl, s⟩ := h
    exact ⟨.error f, ⟨rfl, hX.symm, s⟩, by simp⟩
   | ok q =>
    obtain ⟨p', r'⟩ := q
    have hlen := Znl hf
    have hb' := ZqR hb hf
    rw [hf] at h hX
    simp only [FlR] at h hX
    cases ht : Zcs Zcu r' with
    | none =>
     rw [ht] at h hX
     obtain ⟨rfl, s⟩ := h
     exact ⟨.ok (false, p', r'), ⟨rfl, hb', hX, s⟩, by simp⟩
    | some r2 =>
     rw [ht] at h hX
     obtain ⟨rfl, s⟩ := h
     have := ZdE ht
     exact ⟨.ok (true, p', r2), ⟨rfl, hb', hX, s⟩, by simp only; omega⟩
end
theorem ZtC : strI ZnJ = tx "on" := by decide +kernel
theorem Zsu : strI ZnI = tx "vid" := by decide +kernel
theorem ZpT : strI Zkw = tx "from" := by decide +kernel
theorem ZtB : strI Zl5 = tx "to" := by decide +kernel
theorem ZiH : strI Zj0 = tx "flags" := by decide +kernel
theorem Zkp : strI ZjZ = tx "type" := by decide +kernel
theorem ZmM : strI ZnH = tx "pieces" := by decide +kernel
section
variable {W w : World} {Hs : List HP} {b : Nat} {wl : List ZaK} {e : Int} {m : ZbN} {ws : List Wd} {f : PF}
theorem ZsY {β : Type} {sd : Zap} {sm : Zfb} {g : Unit → M β} {Q : β → World → Prop} (s : Ss W (ZeJ sd sm :: RrA b wl e m ws :: Hs) w) (k : ∀ w, Ss W (RrA b wl e { m with From := sm } ws :: Hs) w → WP (g ()) w Q) : WP (st ZaR (Addr.add (Addr.add (pt b 0) 3) 6) sd >>= g) w Q := by
 obtain ⟨⟨rr, i⟩, hq, s⟩ := Zhe (s.use [1] (s := [_]) (r := _ :: Hs) rfl)
 obtain ⟨h1, h2, h3, h4, h5, h6, h7⟩ := hq
 refine WP.st s 0 rfl (o := 3 + 6) rfl ((Zcb rr).trans' (ZdB rr.rule sd) (ZdT rr _)) (fun w s => k w ?_)
 refine ZjQ (q := (⟨rr.l, rr.i, rr.end_, { rr.rule with From := sd }, rr.err, rr.at_⟩, i)) ⟨h1, h2, h3, h4, h5, h6, h7⟩ ?_
 have s := (s.use [2] rfl).drop
 have s := s.use [0, 0, 1] rfl
 exact s
theorem ZuJ {β : Type} {sd : Zap} {sm : Zfb} {g : Unit → M β} {Q : β → World → Prop} (s : Ss W (ZeJ sd sm :: RrA b wl e m ws :: Hs) w) (k : ∀ w, Ss W (RrA b wl e { m with To := sm } ws :: Hs) w → WP (g ()) w Q) : WP (st ZaR (Addr.add (Addr.add (pt b 0) 3) 9) sd >>= g) w Q := by
 obtain ⟨⟨rr, i⟩, hq, s⟩ := Zhe (s.use [1] (s := [_]) (r := _ :: Hs) rfl)
 obtain ⟨h1, h2, h3, h4, h5, h6, h7⟩ := hq
 refine WP.st s 0 rfl (o := 3 + 9) rfl ((Zcb rr).trans' (Zeg rr.rule sd) (ZdT rr _)) (fun w s => k w ?_)
 refine ZjQ (q := (⟨rr.l, rr.i, rr.end_, { rr.rule with To := sd }, rr.err, rr.at_⟩, i)) ⟨h1, h2, h3, h4, h5, h6, h7⟩ ?_
 have s := (s.use [3] rfl).drop
 exact s
def ClR (W : World) (Hs : List HP) (b : Nat) (wl : List ZaK) (e : Int) (m : ZbN) (ws : List Wd) (r : Bool) (w : World) : Option (PE (ZbN × List Wd)) → Prop
 | none => r = false ∧ Ss W (RrA b wl e m ws :: Hs) w
 | some X => r = true ∧ RulR W Hs b wl e w X
theorem ZnR (hb : B255 (m.Set, m.Clear)) (fi : Nat) (ef : nth Hs fi = some (NmP 2 Zh3)) (t : ByteArray) (s : Ss W (RrA b wl e m ws :: Hs) w) : WP (ZaG (some (pt b 0)) t) w (fun r w' => ClR W Hs b wl e m ws r w' (Zea e (strI t) m ws)) := by
 unfold ZaG Zea
 have k1 : t.toList = (ZnJ).toList ↔ strI t = tx "on" := by rw [Zbl, ZtC]
 have k2 : t.toList = (ZnI).toList ↔ strI t = tx "vid" := by rw [Zbl, Zsu]
 have k3 : t.toList = (Zkw).toList ↔ strI t = tx "from" := by rw [Zbl, ZpT]
 have k4 : t.toList = (Zl5).toList ↔ strI t = tx "to" := by rw [Zbl, ZtB]
 have k5 : t.toList = (Zj0).toList ↔ strI t = tx "flags" := by rw [Zbl, ZiH]
 have k6 : t.toList = (ZjZ).toList ↔ strI t = tx "type" := by rw [Zbl, Zkp]
 have k7 : t.toList = (ZnH).toList ↔ strI t = tx "pieces" := by rw [Zbl, ZmM]
 by_cases h1 : strI t = tx "on"
 ·rw [if_pos h1]
  refine WP.ite (fun _ => WP.step (Zp5 s) ?_) (fun h => absurd (k1.2 h1) h)
  intro n w h
  cases hp : Zlf e ws with
  | error f =>
   rw [hp] at h
   exact WP.nilck (setD (o := 4) h (fun r => { r with In := IntKind.wrap .i64 (n + 1) }) (fun r => Zft r _) (fun w s => WP.ret ⟨rfl, s⟩))
  | ok q =>
   rw [hp] at h
   obtain ⟨rfl, s⟩ := h
   have hr : 0 ≤ q.1 ∧ q.1 ≤ 7 := by
    cases ws with
    | nil => cases hp
    | cons x xs =>
     rw [show Zlf e (x :: xs) = if x.1 = Zcu then .error (160, x.2) else match (if x.1.head? = some 112 then numR x.1.tail 0 7 else none) with
      | none => .error (162, x.2)
      | some n => .ok (n, xs) from rfl] at hp
     split at hp
     ·cases hp
     ·split at hp
      ·cases hp
      ·rename_i n hn
       cases hp
       split at hn
       ·unfold numR at hn
        split at hn
        ·cases hn
        ·split at hn
         ·rename_i hh
          cases hn
          exact hh
         ·cases hn
       ·cases hn
   have hw : IntKind.wrap .i64 (q.1 + 1) = q.1 + 1 := Zak (by omega) (by omega)
   rw [hw]
   exact WP.nilck (setA (o := 4) (m' := { m with In := q.1 + 1 }) s (fun r => { r with In := q.1 + 1 }) (fun r => Zft r _) (fun r h => ⟨h.1, h.2.1, h.2.2.1, h.2.2.2.1, rfl, h.2.2.2.2.2⟩) (fun r => ⟨rfl, rfl⟩) ⟨rfl, rfl⟩ (fun w s => WP.ret ⟨rfl, s⟩))
 rw [if_neg h1]
 refine WP.ite (fun h => absurd (k1.1 h) h1) (fun _ => ?_)
 by_cases h2 : strI t = tx "vid"
 ·rw [if_pos h2]
  refine WP.ite (fun _ => WP.step (Zka s 1 4094) ?_) (fun h => absurd (k2.2 h2) h)
  intro n w h
  cases hp : numP e 1 4094 ws with
  | error f =>
   rw [hp] at h
   exact WP.nilck (setD (o := 5) h (fun r => { r with Vid := n }) (fun r => Ze4 r _) (fun w s => WP.ret ⟨rfl, s⟩))
  | ok q =>
   rw [hp] at h
   obtain ⟨rfl, s⟩ := h
   exact WP.nilck (setA (o := 5) (m' := { m with Vid := q.1 }) s (fun r => { r with Vid := q.1 }) (fun r => Ze4 r _) (fun r h => ⟨h.1, h.2.1, h.2.2.1, h.2.2.2.1, h.2.2.2.2.1, rfl, h.2.2.2.2.2.2⟩) (fun r => ⟨rfl, rfl⟩) ⟨rfl, rfl⟩ (fun w s => WP.ret ⟨rfl, s⟩))
 rw [if_neg h2]
 refine WP.ite (fun h => absurd (k2.1 h) h2) (fun _ => ?_)
 by_cases h3 : strI t = tx "from"
 ·rw [if_pos h3]
  refine WP.ite (fun _ => WP.step (ZmU s) ?_) (fun h => absurd (k3.2 h3) h)
  intro n w h
  unfold ZaG.K1
  cases hp : Zjh e m.Kind m.Proto ws with
  | error f =>
   rw [hp] at h
   exact WP.nilck (setD (o := 6) h (fun r => { r with From := n }) (fun r => ZdB r _) (fun w s => WP.ret ⟨rfl, s⟩))
  | ok q =>
   rw [hp] at h
   exact WP.nilck (ZsY h (fun w s => WP.ret ⟨rfl, s⟩))
 rw [if_neg h3]
 refine WP.ite (fun h => absurd (k3.1 h) h3) (fun _ => ?_)
 by_cases h4 : strI t = tx "to"
 ·rw [if_pos h4]
  refine WP.ite (fun _ => WP.step (ZmU s) ?_) (fun h => absurd (k4.2 h4) h)
  intro n w h
  unfold ZaG.K1
  cases hp : Zjh e m.Kind m.Proto ws with
  | error f =>
   rw [hp] at h
   exact WP.nilck (setD (o := 9) h (fun r => { r with To := n }) (fun r => Zeg r _) (fun w s => WP.ret ⟨rfl, s⟩))
  | ok q =>
   rw [hp] at h
   exact WP.nilck (ZuJ h (fun w s => WP.ret ⟨rfl, s⟩))
 rw [if_neg h4]
 refine WP.ite (fun h => absurd (k4.1 h) h4) (fun _ => ?_)
 by_cases h5 : strI t = tx "flags"
 ·rw [if_pos h5]
  refine WP.ite (fun _ => WP.step (Zpi (m := m) (p := (m.Set, m.Clear)) hb fi ef s) ?_) (fun h => absurd (k5.2 h5) h)
  intro n w h
  unfold ZaG.K1
  refine WP.ret ⟨rfl, ?_⟩
  unfold ZmJ at h
  simp only at h
  cases hp : ZeN e m.Set m.Clear ws with
  | error f => rw [hp] at h; exact h
  | ok q => rw [hp] at h; exact h
 rw [if_neg h5]
 refine WP.ite (fun h => absurd (k5.1 h) h5) (fun _ => ?_)
 by_cases h6 : strI t = tx "type"
 ·rw [if_pos h6]
  refine WP.ite (fun _ => WP.step (Zka s 0 255) ?_) (fun h => absurd (k6.2 h6) h)
  intro n w h
  unfold ZaG.K1
  cases hp : numP e 0 255 ws with
  | error f =>
   rw [hp] at h
   exact WP.nilck (setD (o := 14) h (fun r => { r with Type_ := IntKind.wrap .i64 (n + 1) }) (fun r => Zex r _) (fun w s => WP.ret ⟨rfl, s⟩))
  | ok q =>
   rw [hp] at h
   obtain ⟨rfl, s⟩ := h
   have hr : 0 ≤ q.1 ∧ q.1 ≤ 255 := by
    cases ws with
    | nil => cases hp
    | cons x xs =>
     rw [show numP e 0 255 (x :: xs) = if x.1 = Zcu then .error (160, x.2) else match numR x.1 0 255 with
      | none => .error (162, x.2)
      | some n => .ok (n, xs) from rfl] at hp
     split at hp
     ·cases hp
     ·split at hp
      ·cases hp
      ·rename_i n hn
       cases hp
       unfold numR at hn
       split at hn
       ·cases hn
       ·split at hn
        ·rename_i hh
         cases hn
         exact hh
        ·cases hn
   have hw : IntKind.wrap .i64 (q.1 + 1) = q.1 + 1 := Zak (by omega) (by omega)
   rw [hw]
   exact WP.nilck (setA (o := 14) (m' := { m with Type_ := q.1 + 1 }) s (fun r => { r with Type_ := q.1 + 1 }) (fun r => Zex r _) (fun r h => ⟨h.1, h.2.1, h.2.2.1, h.2.2.2.1, h.2.2.2.2.1, h.2.2.2.2.2.1, h.2.2.2.2.2.2.1, h.2.2.2.2.2.2.2.1, rfl, h.2.2.2.2.2.2.2.2.2⟩) (fun r => ⟨rfl, rfl⟩) ⟨rfl, rfl⟩ (fun w s => WP.ret ⟨rfl, s⟩))
 rw [if_neg h6]
 refine WP.ite (fun h => absurd (k6.1 h) h6) (fun _ => ?_)
 by_cases h7 : strI t = tx "pieces"
 ·rw [if_pos h7]
  unfold ZaG.K1
  exact WP.ite (fun _ => WP.nilck (setA (o := 15) (m' := { m with Pieces := true }) s (fun r => { r with Pieces := true }) (fun r => Zgi r _) (fun r h => ⟨h.1, h.2.1, h.2.2.1, h.2.2.2.1, h.2.2.2.2.1, h.2.2.2.2.2.1, h.2.2.2.2.2.2.1, h.2.2.2.2.2.2.2.1, h.2.2.2.2.2.2.2.2.1, rfl⟩) (fun r => ⟨rfl, rfl⟩) ⟨rfl, rfl⟩ (fun w s => WP.ret ⟨rfl, s⟩))) (fun h => absurd (k7.2 h7) h)
 rw [if_neg h7]
 exact WP.ite (fun h => absurd (k7.1 h) h7) (fun _ => WP.ret ⟨rfl, s⟩)
end
theorem Zkb {e lo hi n : Int} {ws r : List Wd} (h : numP e lo hi ws = .ok (n, r)) : r.length < ws.length ∧ lo ≤ n ∧ n ≤ hi := by
 cases ws with
 | nil => cases h
 | cons x xs =>
  rw [show numP e lo hi (x :: xs) = if x.1 = Zcu then .error (160, x.2) else match numR x.1 lo hi with
   | none => .error (162, x.2)
   | some n => .ok (n, xs) from rfl] at h
  split at h
  ·cases h
  ·split at h
   ·cases h
   ·rename_i k hk
    cases h
    unfold numR at hk
    split at hk
    ·cases hk
    ·split at hk
     ·rename_i hh
      cases hk
      exact ⟨by simp, hh⟩
     ·cases hk
theorem Zqd {e n : Int} {ws r : List Wd} (h : Zlf e ws = .ok (n, r)) : r.length < ws.length := by
 cases ws with
 | nil => cases h
 | cons x xs =>
  rw [show Zlf e (x :: xs) = if x.1 = Zcu then .error (160, x.2) else match (if x.1.head? = some 112 then numR x.1.tail 0 7 else none) with
   | none => .error (162, x.2)
   | some n => .ok (n, xs) from rfl] at h
  split at h
  ·cases h
  ·split at h
   ·cases h
   ·cases h
    simp
theorem Zm1 {e kind : Int} : ∀ (k : Nat) {acc : List Zac} {ws r : List Wd} {l : List Zac}, ws.length ≤ k → ZgD e kind acc ws = .ok (l, r) → r.length < ws.length
 | 0, acc, ws, r, l, hk, h => by
  have : ws = [] := List.length_eq_zero_iff.1 (by omega)
  subst this
  cases h
 | k + 1, acc, ws, r, l, hk, h => by
  rw [ZhP] at h
  split at h
  ·cases h
  ·rename_i p r1 h1
   have := (Zmg h1).1
   split at h
   ·cases h
    exact this
   ·rename_i r2 h2
    have := ZdE h2
    have := Zm1 k (by omega) h
    omega
theorem Zlz {e : Int} : ∀ (k : Nat) {acc : List ZaD} {ws r : List Wd} {l : List ZaD}, ws.length ≤ k → ZeD e acc ws = .ok (l, r) → r.length < ws.length
 | 0, acc, ws, r, l, hk, h => by
  have : ws = [] := List.length_eq_zero_iff.1 (by omega)
  subst this
  cases h
 | k + 1, acc, ws, r, l, hk, h => by
  rw [ZgU] at h
  split at h
  ·cases h
  ·rename_i p r1 h1
   have := (Zjl h1).1
   split at h
   ·cases h
    exact this
   ·rename_i r2 h2
    have := ZdE h2
    have := Zlz k (by omega) h
    omega
theorem Zky {e proto : Int} {ws r : List Wd} {l : List ZaD} (h : Zek e proto ws = .ok (l, r)) : r.length ≤ ws.length := by
 cases ws with
 | nil =>
  unfold Zek at h
  cases h
  simp
 | cons x xs =>
  rw [Zf9] at h
  split at h
  ·split at h
   ·have := Zlz _ (Nat.le_refl _) h
    simp
    omega
   ·cases h
  ·cases h
   simp
theorem ZmN {e kind proto : Int} {ws r : List Wd} {s : Zfb} (h : Zjh e kind proto ws = .ok (s, r)) : r.length ≤ ws.length := by
 rw [Zl7] at h
 unfold ZmI at h
 split at h
 ·rename_i r1 h1
  have := ZdE h1
  split at h
  ·cases h
  ·rename_i h2
   have := Zky h2
   cases h
   omega
 ·split at h
  ·cases h
  ·rename_i l r1 h1
   have := Zm1 _ (Nat.le_refl _) h1
   have hle : ((Zcs (tx "not") ws).getD ws).length ≤ ws.length := by
    cases ht : Zcs (tx "not") ws with
    | none => simp
    | some r =>
     have := ZdE ht
     simp only [Option.getD_some]
     omega
   split at h
   ·cases h
   ·rename_i h2
    have := Zky h2
    cases h
    omega
theorem ZlL {e : Int} : ∀ (k : Nat) {s c : Int} {ws r : List Wd} {p : Int × Int}, ws.length ≤ k → ZeN e s c ws = .ok (p, r) → r.length < ws.length ∧ (B255 (s, c) → B255 p)
 | 0, s, c, ws, r, p, hk, h => by
  have : ws = [] := List.length_eq_zero_iff.1 (by omega)
  subst this
  cases h
 | k + 1, s, c, ws, r, p, hk, h => by
  rw [Zip] at h
  split at h
  ·cases h
  ·rename_i q r1 h1
   have hl := Znl h1
   have hb : B255 (s, c) → B255 q := fun hb => ZqR hb h1
   split at h
   ·cases h
    exact ⟨hl, hb⟩
   ·rename_i r2 h2
    have := ZdE h2
    obtain ⟨q1, q2⟩ := ZlL k (by omega) h
    exact ⟨by omega, fun h => q2 (hb h)⟩
theorem Zk4 {e : Int} {t : List Int} {m m' : ZbN} {ws r : List Wd} (h : Zea e t m ws = some (.ok (m', r))) : r.length ≤ ws.length ∧ (B255 (m.Set, m.Clear) → B255 (m'.Set, m'.Clear)) := by
 unfold Zea at h
 split at h
 ·split at h
  ·cases h
  ·rename_i h1
   cases h
   exact ⟨Nat.le_of_lt (Zqd h1), fun h => h⟩
 ·split at h
  ·split at h
   ·cases h
   ·rename_i h1
    cases h
    exact ⟨Nat.le_of_lt (Zkb h1).1, fun h => h⟩
  ·split at h
   ·split at h
    ·cases h
    ·rename_i h1
     cases h
     exact ⟨ZmN h1, fun h => h⟩
   ·split at h
    ·split at h
     ·cases h
     ·rename_i h1
      cases h
      exact ⟨ZmN h1, fun h => h⟩
    ·split at h
     ·split at h
      ·cases h
      ·rename_i h1
       obtain ⟨q1, q2⟩ := ZlL _ (Nat.le_refl _) h1
       cases h
       exact ⟨Nat.le_of_lt q1, q2⟩
     ·split at h
      ·split at h
       ·cases h
       ·rename_i h1
        cases h
        exact ⟨Nat.le_of_lt (Zkb h1).1, fun h => h⟩
      ·split at h
       ·cases h
        exact ⟨Nat.le_refl _, fun h => h⟩
       ·cases h
theorem Zkh : RSc Zax zRl := ⟨rfl, rfl, rfl, rfl, rfl, rfl, rfl, rfl, rfl, rfl⟩
def Zsq (r : Zaz) (m : ZbN) : HP := fun h => RSc r m ∧ seps [ZeJ r.From m.From, ZeJ r.To m.To] h
def ParR (W : World) (Hs : List HP) (r : Zaz × Int × Int) (w : World) : PE ZbN → Prop
 | .ok m => r.2 = (0, 0) ∧ Ss W (Zsq r.1 m :: Hs) w
 | .error f => r = (Zax, f.1, f.2) ∧ f.1 ≠ 0 ∧ Ss W Hs w
abbrev Zk9 (b : Nat) (kvs : List (ByteArray × Int)) : HP := mapH cS (cI .i64) b kvs
def Znw (kvs : List (ByteArray × Int)) (seen : List (List Int)) : Prop := (∀ p ∈ kvs, p.2 > 0) ∧ ∀ t : ByteArray, (∃ x, (t, x) ∈ kvs) ↔ strI t ∈ seen
theorem ZiS : ∀ (l cur : List Int) (p : Int) (ws : List Wd), lexM cur p l = .ok ws → ws.length ≤ l.length + 1 ∧ (cur = [] → ws.length ≤ l.length) ∧ ∀ w ∈ ws, w.1.length ≤ cur.length + l.length
 | [], cur, p, ws, h => by
  have h : ws = if cur = [] then [] else [(cur, p - cur.length)] := by
   rw [lexM] at h
   exact (Except.ok.inj h).symm
  subst h
  split
  ·exact ⟨by simp, fun _ => by simp, by simp⟩
  ·rename_i hc
   exact ⟨by simp, fun h => absurd h hc, by simp⟩
 | c :: cs, cur, p, ws, h => by
  by_cases hw : Zhh c = true
  ·rw [Zke hw] at h
   obtain ⟨h1, -, h3⟩ := ZiS cs _ _ _ h
   refine ⟨by simp; omega, fun hc => ?_, fun w hm => ?_⟩
   ·simp
    omega
   ·have := h3 w hm
    simp at this ⊢
    omega
  ·rw [Zna (by simpa using hw)] at h
   split at h
   ·cases h
   ·rename_i r hr
    cases h
    have key : r.length ≤ cs.length + 1 ∧ ∀ w ∈ r, w.1.length ≤ 1 + cs.length := by
     split at hr
     ·split at hr
      ·cases hr
      ·rename_i r' hr'
       cases hr
       obtain ⟨-, h2, h3⟩ := ZiS cs [] _ _ hr'
       refine ⟨by simp only [List.length_cons]; have := h2 rfl; omega, fun w hm => ?_⟩
       rcases List.mem_cons.1 hm with rfl | hm
       ·simp
       ·have := h3 w hm
        simp at this
        omega
     ·split at hr
      ·obtain ⟨-, h2, h3⟩ := ZiS cs [] _ _ hr
       refine ⟨by have := h2 rfl; omega, fun w hm => ?_⟩
       have := h3 w hm
       simp at this
       omega
      ·cases hr
    split
    ·rename_i hc
     refine ⟨by simp only [List.length_cons]; omega, fun _ => by simp only [List.length_cons]; omega, fun w hm => ?_⟩
     have := key.2 w hm
     simp only [List.length_cons]
     omega
    ·rename_i hc
     refine ⟨by simp only [List.length_cons]; omega, fun h => absurd h hc, fun w hm => ?_⟩
     rcases List.mem_cons.1 hm with rfl | hm
     ·simp
     ·have := key.2 w hm
      simp only [List.length_cons]
      omega
section
variable {W w : World} {Hs : List HP} {b : Nat} {wl : List ZaK} {e : Int} {m : ZbN} {ws : List Wd} {f : PF}
theorem ldI {β : Type} {g : Int → M β} {Q : β → World → Prop} (s : Ss W (RrA b wl e m ws :: Hs) w) (k : ∀ i : Nat, i + ws.length = wl.length → WP (g (i : Int)) w Q) : WP (ld (cI .i64) (Addr.add (pt b 0) 1) >>= g) w Q := by
 obtain ⟨⟨rr, i⟩, hq, s1⟩ := Zhe s
 obtain ⟨h1, h2, h3, h4, h5, h6, h7⟩ := hq
 refine WP.ld (x := rr.i) s1 0 rfl (o := 1) rfl (ZbR _) ?_
 have h1 : rr.i = (i : Int) := h1
 have h4 : i ≤ wl.length := h4
 rw [h1]
 refine k i ?_
 have : ws.length = wl.length - i := by rw [h6]; simp
 omega
theorem ldID {β : Type} {g : Int → M β} {Q : β → World → Prop} (s : Ss W (RrD b f :: Hs) w) (k : ∀ i, WP (g i) w Q) : WP (ld (cI .i64) (Addr.add (pt b 0) 1) >>= g) w Q := by
 obtain ⟨rr, hq, s1⟩ := s.openx 0 rfl
 exact WP.ld (x := rr.i) s1 0 rfl (o := 1) rfl (ZbR _) (k _)
theorem Zhw (s : Ss W (RrD b f :: Hs) w) : WP (Zai.K1 b) w (fun r w' => ParR W Hs r w' (.error f)) := by
 unfold Zai.K1
 refine errD s (fun h => WP.ite (fun _ => WP.draw' s (fun w s => ?_)) (fun h' => absurd h h'))
 obtain ⟨rr, hq, s1⟩ := s.openx 0 rfl
 refine WP.ld (x := rr.err) s1 0 rfl (o := 19) rfl (Zeb _) (WP.ld (x := rr.at_) s1 0 rfl (o := 20) rfl (Zf4 _) (WP.same (x := rr.at_) s1 0 rfl (o := 20) rfl (Zf4 _) (WP.same (x := rr.err) s1 0 rfl (o := 19) rfl (Zeb _) (WP.ret ⟨?_, h, s.drop⟩))))
 rw [hq.1, hq.2.1]
theorem Zpl (s : Ss W (RrA b wl e m ws :: Hs) w) : WP (Zai.K1 b) w (fun r w' => ParR W Hs r w' (.ok m)) := by
 unfold Zai.K1
 refine errA s (WP.ite (fun h => absurd rfl h) (fun _ => ?_))
 obtain ⟨⟨rr, i⟩, hq, s⟩ := Zhe s
 refine WP.ld (x := rr.rule) s 0 rfl (o := 3) rfl (Zcb _) (WP.ret ⟨rfl, ?_⟩)
 have s : Ss W ([ZeJ rr.rule.From m.From, ZeJ rr.rule.To m.To] ++ Hs) w := by
  have s := s.drop.drop
  exact s
 exact s.group.first (fun h hh => ⟨hq.2.2.2.2.2.2, hh⟩)
theorem ZrD {kvs : List (ByteArray × Int)} {seen : List (List Int)} {t : ByteArray} {x : Int} (h : Znw kvs seen) (hx : x > 0) : Znw (kvs ++ [(t, x)]) (strI t :: seen) := by
 refine ⟨fun p hp => ?_, fun u => ?_⟩
 ·rcases List.mem_append.1 hp with hp | hp
  ·exact h.1 p hp
  ·rw [List.mem_singleton.1 hp]
   exact hx
 ·rw [List.mem_cons, ← h.2 u]
  constructor
  ·rintro ⟨y, hy⟩
   rcases List.mem_append.1 hy with hy | hy
   ·exact .inr ⟨y, hy⟩
   ·have := List.mem_singleton.1 hy
    left
    rw [(Prod.mk.inj this).1]
  ·rintro (hu | ⟨y, hy⟩)
   ·have : u = t := by rw [← Zk5 u, ← Zk5 t, hu]
    exact ⟨x, List.mem_append_right _ (by rw [this]; simp)⟩
   ·exact ⟨y, List.mem_append_left _ hy⟩
theorem ZmY {r2 : Sl × Int} {b5 : Nat} (hl : r2.1.len = wl.length) (fi : Nat) (ef : nth Hs fi = some (NmP 2 Zh3)) {fuel : Nat} {X : PE ZbN} (hX : Zhf e fuel [] m ws = X) (hf : ws.length < fuel) (hb : B255 (m.Set, m.Clear)) (hp : ws.length < wl.length) (s : Ss W (RrA b wl e m ws :: Zk9 b5 [] :: Hs) w) :
  WP (Zci (fun s_ : Unit => Zai.L1 r2 b b5) ()) w (fun r w' => ParR W Hs r w' X) := by
 refine WP.loopG (γ := PE (Nat × List (List Int) × ZbN × List Wd) × List (ByteArray × Int)) (fun g (_ : Unit) w => match g.1 with
   | .ok (fuel, seen, m, ws) => Zhf e fuel seen m ws = X ∧ ws.length < fuel ∧ B255 (m.Set, m.Clear) ∧ ws.length < wl.length ∧ Znw g.2 seen ∧ Ss W (RrA b wl e m ws :: Zk9 b5 g.2 :: Hs) w
   | .error f => X = .error f ∧ Ss W (RrD b f :: Zk9 b5 g.2 :: Hs) w) (fun g _ => match g.1 with
   | .ok (_, _, _, ws) => ws.length + 1
   | .error _ => 0) (.ok (fuel, [], m, ws), []) ⟨hX, hf, hb, hp, ⟨by simp, by simp⟩, s⟩ ?_
 clear s hX hf hb hp
 rintro ⟨g, kvs⟩ _ w h
 show WP (Zai.L1 r2 b b5) w _
 unfold Zai.L1
 cases g with
 | error f =>
  obtain ⟨hXf, s⟩ := h
  refine errD s (fun h => ?_)
  refine WP.step (R := fun y w' => y = false ∧ w = w') (WP.ite (fun h' => absurd h' h) (fun _ => WP.ret ⟨rfl, rfl⟩)) ?_
  rintro _ _ ⟨rfl, rfl⟩
  refine WP.ite (fun h => by cases h) (fun _ => WP.step (Zhw s) (fun r w h => WP.done ?_))
  rw [hXf]
  obtain ⟨q1, q2, s⟩ := h
  exact ⟨q1, q2, s.drop⟩
 | ok g =>
  obtain ⟨fuel, seen, m, ws⟩ := g
  obtain ⟨hX, hf, hb, hp, hs, s⟩ := h
  simp only at hX hf hb hp hs s
  obtain ⟨fu, rfl⟩ : ∃ k, fuel = k + 1 := ⟨fuel - 1, by omega⟩
  refine errA s ?_
  refine WP.step (R := fun y w' => y = decide (ws ≠ []) ∧ w = w') (WP.ite (fun _ => ldI s (fun i hi => WP.ret ⟨?_, rfl⟩)) (fun h => absurd rfl h)) ?_
  ·rw [hl]
   refine decide_eq_decide.2 ?_
   have : ws ≠ [] ↔ 0 < ws.length := List.length_pos_iff.symm
   rw [this]
   omega
  rintro _ _ ⟨rfl, rfl⟩
  cases ws with
  | nil =>
   refine WP.ite (fun h => by simp at h) (fun _ => WP.step (Zpl s) (fun r w h => WP.done ?_))
   rw [← hX]
   obtain ⟨q1, s⟩ := h
   refine ⟨q1, ?_⟩
   have s := (s.use [1] rfl).drop
   exact s
  | cons x xs =>
   refine WP.ite (fun _ => WP.step (Zhs s) ?_) (fun h => absurd (by simp) h)
   rintro r w ⟨hx, s1⟩
   clear s
   have s := s1
   clear s1
   subst hx
   rw [show Zhf e (fu + 1) seen m (wdOf r :: xs) = if mayM seen m (strI r.s) = false then .error (165, r.at_) else match Zea e (strI r.s) m xs with
    | none => .error (160, r.at_)
    | some (.error q) => .error q
    | some (.ok (m', r')) => Zhf e fu (strI r.s :: seen) m' r' from rfl] at hX
   simp only [List.length_cons] at hf hp
   refine WP.slot' s (fun _ w s => ?_)
   -- what has been seen
   have cont : ∀ {v : Int × Bool}, (v.1 > 0 ↔ strI r.s ∈ seen) → WP ((if v.1 > 0 then pure true else (if r.s.toList = (Zj0).toList then ld (cI .i64) (Addr.add (Addr.add (pt b 0) 3) 3) >>= fun x41 => pure (x41 != 6) else pure false) >>= fun y42 => pure y42) >>= fun y43 =>
     (if y43 = true then pure true else (if r.s.toList = (ZjZ).toList then ld (cI .i64) (Addr.add (Addr.add (pt b 0) 3) 3) >>= fun x44 => Zd8 x44 >>= fun r45 => pure (!r45) else pure false) >>= fun y46 => pure y46) >>= fun y47 =>
     if y47 = true then Za7 (some (pt b 0)) 165 r.at_ >>= fun r49 => (Zai.K1 b) >>= fun b => pure (LS.done b)
     else ZaG (some (pt b 0)) r.s >>= fun r50 => if ¬ (r50 = true) then Za7 (some (pt b 0)) 160 r.at_ >>= fun r53 => Zai.K2 b b5 r else Zai.K2 b b5 r) w (WP.Rd (fun (_ : Unit) w => ∃ g' : PE (Nat × List (List Int) × ZbN × List Wd) × List (ByteArray × Int), (match g'.1 with
   | .ok (fuel, seen, m, ws) => Zhf e fuel seen m ws = X ∧ ws.length < fuel ∧ B255 (m.Set, m.Clear) ∧ ws.length < wl.length ∧ Znw g'.2 seen ∧ Ss W (RrA b wl e m ws :: Zk9 b5 g'.2 :: Hs) w
   | .error f => X = .error f ∧ Ss W (RrD b f :: Zk9 b5 g'.2 :: Hs) w) ∧ (match g'.1 with
   | .ok (_, _, _, ws) => ws.length + 1
   | .error _ => 0) < (wdOf r :: xs).length + 1) (fun r w' => ParR W Hs r w' X)) := by
    intro v hv
    have e1 : r.s.toList = (Zj0).toList ↔ strI r.s = tx "flags" := by rw [Zbl, ZiH]
    have e2 : r.s.toList = (ZjZ).toList ↔ strI r.s = tx "type" := by rw [Zbl, Zkp]
    refine WP.step (R := fun y w' => y = decide (strI r.s ∈ seen ∨ (strI r.s = tx "flags" ∧ m.Proto ≠ 6)) ∧ w = w') (WP.ite (fun h => WP.ret ⟨(decide_eq_true (.inl (hv.1 h))).symm, rfl⟩) (fun h => ?_)) ?_
    ·have hn : strI r.s ∉ seen := fun h' => h (hv.2 h')
     refine WP.step (R := fun y w' => y = decide (strI r.s ∈ seen ∨ (strI r.s = tx "flags" ∧ m.Proto ≠ 6)) ∧ w = w') (WP.ite (fun h2 => Zp9 s (WP.ret ⟨?_, rfl⟩)) (fun h2 => WP.ret ⟨?_, rfl⟩)) (fun y w h => WP.ret h)
     ·rw [Bool.eq_iff_iff, bne_iff_ne, decide_eq_true_iff]
      exact ⟨fun h' => .inr ⟨e1.1 h2, h'⟩, fun h' => h'.elim (fun h' => absurd h' hn) (fun h' => h'.2)⟩
     ·exact (decide_eq_false (fun h' => h'.elim hn (fun h' => h2 (e1.2 h'.1)))).symm
    rintro _ _ ⟨rfl, rfl⟩
    have hmay : mayM seen m (strI r.s) = false ↔ (strI r.s ∈ seen ∨ (strI r.s = tx "flags" ∧ m.Proto ≠ 6)) ∨ (strI r.s = tx "type" ∧ ZfS m.Proto = false) := by
     unfold mayM
     rw [decide_eq_false_iff_not]
     constructor
     ·intro h
      by_cases a1 : strI r.s ∈ seen
      ·exact .inl (.inl a1)
      by_cases a2 : strI r.s = tx "flags" ∧ m.Proto ≠ 6
      ·exact .inl (.inr a2)
      by_cases a3 : strI r.s = tx "type" ∧ ZfS m.Proto = false
      ·exact .inr a3
      exact absurd ⟨a1, fun h' => Decidable.byContradiction fun hn => a2 ⟨h', hn⟩, fun h' => by
       cases ht : ZfS m.Proto with
       | true => rfl
       | false => exact absurd ⟨h', ht⟩ a3⟩ h
     ·rintro ((h | ⟨h, h'⟩) | ⟨h, h'⟩) ⟨b1, b2, b3⟩
      ·exact b1 h
      ·exact h' (b2 h)
      ·rw [b3 h] at h'
       cases h'
    refine WP.step (R := fun y w' => y = !(mayM seen m (strI r.s)) ∧ w = w') (WP.ite (fun h => WP.ret ⟨?_, rfl⟩) (fun h => ?_)) ?_
    ·rw [hmay.2 (.inl (of_decide_eq_true h))]
     rfl
    ·have hn : ¬ (strI r.s ∈ seen ∨ (strI r.s = tx "flags" ∧ m.Proto ≠ 6)) := fun h' => h (decide_eq_true h')
     refine WP.step (R := fun y w' => y = !(mayM seen m (strI r.s)) ∧ w = w') (WP.ite (fun h2 => Zp9 s (WP.step (Zos m.Proto) ?_)) (fun h2 => WP.ret ⟨?_, rfl⟩)) (fun y w h => WP.ret h)
     ·rintro _ _ ⟨rfl, rfl⟩
      refine WP.ret ⟨?_, rfl⟩
      cases ht : ZfS m.Proto with
      | false => rw [hmay.2 (.inr ⟨e2.1 h2, ht⟩)]
      | true =>
       cases hm : mayM seen m (strI r.s) with
       | true => rfl
       | false => exact absurd (hmay.1 hm) (fun h' => h'.elim hn (fun h' => by rw [ht] at h'; cases h'.2))
     ·cases hm : mayM seen m (strI r.s) with
      | true => rfl
      | false => exact absurd (hmay.1 hm) (fun h' => h'.elim hn (fun h' => h2 (e2.2 h'.1)))
    rintro _ _ ⟨rfl, rfl⟩
    cases hm : mayM seen m (strI r.s) with
    | false =>
     rw [if_pos hm] at hX
     refine WP.ite (fun _ => WP.step (ZdJ s (by decide) r.at_) ?_) (fun h => absurd rfl h)
     intro _ w s
     refine WP.step (Zhw s) (fun r w h => WP.done ?_)
     rw [← hX]
     obtain ⟨q1, q2, s⟩ := h
     exact ⟨q1, q2, s.drop⟩
    | true =>
     rw [if_neg (by rw [hm]; decide)] at hX
     have hns : strI r.s ∉ seen := fun h' => by rw [hmay.2 (.inl (.inl h'))] at hm; cases hm
     have hkey : ∀ y, (r.s, y) ∉ kvs := fun y hy => hns ((hs.2 r.s).1 ⟨y, hy⟩)
     have deadK2 : ∀ {w : World} {f : PF}, X = .error f → Ss W (RrD b f :: Zk9 b5 kvs :: Hs) w → WP (Zai.K2 b b5 r) w (WP.Rd (fun (_ : Unit) w => ∃ g' : PE (Nat × List (List Int) × ZbN × List Wd) × List (ByteArray × Int), (match g'.1 with
       | .ok (fuel, seen, m, ws) => Zhf e fuel seen m ws = X ∧ ws.length < fuel ∧ B255 (m.Set, m.Clear) ∧ ws.length < wl.length ∧ Znw g'.2 seen ∧ Ss W (RrA b wl e m ws :: Zk9 b5 g'.2 :: Hs) w
       | .error f => X = .error f ∧ Ss W (RrD b f :: Zk9 b5 g'.2 :: Hs) w) ∧ (match g'.1 with
       | .ok (_, _, _, ws) => ws.length + 1
       | .error _ => 0) < (wdOf r :: xs).length + 1) (fun r w' => ParR W Hs r w' X)) := by
      intro w f hXf s
      unfold Zai.K2
      refine WP.draw' s (fun w s => ldID s (fun i => WP.mset (ck := cS) (cv := cI .i64) s 1 rfl hkey (fun w s => WP.next ⟨(.error f, kvs ++ [(r.s, i)]), ⟨hXf, s⟩, by simp⟩)))
     refine WP.ite (fun h => by cases h) (fun _ => WP.step (ZnR hb (fi + 1) ef r.s s) ?_)
     intro y w h
     cases hc : Zea e (strI r.s) m xs with
     | none =>
      rw [hc] at h hX
      obtain ⟨rfl, s⟩ := h
      refine WP.ite (fun _ => WP.step (ZdJ s (by decide) r.at_) ?_) (fun h => absurd (by decide) h)
      intro _ w s
      exact deadK2 hX.symm s
     | some Y =>
      rw [hc] at h hX
      obtain ⟨rfl, h⟩ := h
      refine WP.ite (fun h => absurd rfl h) (fun _ => ?_)
      cases Y with
      | error f => exact deadK2 hX.symm h
      | ok q =>
       obtain ⟨m', r'⟩ := q
       obtain ⟨c1, c2⟩ := Zk4 hc
       have c1 : r'.length ≤ xs.length := c1
       unfold Zai.K2
       refine WP.draw' h (fun w s => ldI s (fun i (hi : i + r'.length = wl.length) => WP.mset (ck := cS) (cv := cI .i64) s 1 rfl hkey (fun w s => WP.next ⟨(.ok (fu, strI r.s :: seen, m', r'), kvs ++ [(r.s, (i : Int))]), ⟨hX, show r'.length < fu by omega, c2 hb, show r'.length < wl.length by omega, ZrD hs (by omega), s⟩, show r'.length + 1 < xs.length + 1 + 1 by omega⟩)))
   refine WP.mget (ck := cS) (cv := cI .i64) s 1 rfl (fun v hv => cont ?_) (fun h0 => cont ?_)
   ·exact ⟨fun _ => (hs.2 r.s).1 ⟨v, hv⟩, fun _ => hs.1 _ hv⟩
   ·refine ⟨fun h => absurd h (by decide), fun h => ?_⟩
    obtain ⟨v, hv⟩ := (hs.2 r.s).2 h
    exact absurd hv (h0 v)
theorem Zng {e : Int} {ws r : List Wd} {m : ZbN} (hh : Zh2 e ws = .ok (m, r)) : B255 (m.Set, m.Clear) ∧ r.length < ws.length := by
 cases ws with
 | nil => cases hh
 | cons x xs =>
  rw [show Zh2 e (x :: xs) = match idxT actN x.1 with
   | none => .error (160, x.2)
   | some a => match Ze2 e a xs with
    | .error f => .error f
    | .ok (c, r) => match ZgK e r with
     | .error f => .error f
     | .ok (k, r) => .ok ({ zRl with Act := (a : Int) + 1, Class := c, Kind := k.1, Proto := k.2 }, r) from rfl] at hh
  split at hh
  ·cases hh
  ·split at hh
   ·cases hh
   ·rename_i a ha c r1 h1
    split at hh
    ·cases hh
    ·rename_i k r3 h3
     cases hh
     refine ⟨⟨by simp [zRl], by simp [zRl]⟩, ?_⟩
     have c1 : r1.length ≤ xs.length := by
      unfold Ze2 at h1
      split at h1
      ·split at h1
       ·cases h1
        exact Nat.le_refl _
       ·rename_i r4 h4
        have := ZdE h4
        have := (Zkb h1).1
        omega
      ·cases h1
       exact Nat.le_refl _
     have c2 : r.length ≤ r1.length := by
      cases r1 with
      | nil => cases h3
      | cons y ys =>
       rw [ZhM] at h3
       have pl : ∀ {kd : Int} {v : Wd} {zs : List Wd} {n : Int} {u : List Wd}, Zfy e kd v zs = .ok (n, u) → u.length ≤ zs.length := by
        intro kd v zs n u hp
        unfold Zfy at hp
        split at hp
        ·cases hp
        ·split at hp
         ·cases hp
          exact Nat.le_refl _
         ·exact Nat.le_of_lt (Zkb hp).1
       split at h3
       ·cases h3
        simp
       ·split at h3
        ·split at h3
         ·split at h3
          ·cases h3
          ·rename_i h5
           have := pl h5
           cases h3
           simp
           omega
         ·cases h3
        ·unfold ZmK at h3
         split at h3
         ·cases h3
          simp
         ·split at h3
          ·split at h3
           ·cases h3
           ·rename_i h5
            have := pl h5
            cases h3
            simp
            omega
          ·cases h3
           simp
     simp only [List.length_cons]
     omega
theorem Znx (s : Ss W Hs w) (ia : Nat) (ea : nth Hs ia = some (NmP 0 actB)) (ik : Nat) (ek : nth Hs ik = some (NmP 1 Zmn)) (fi : Nat) (ef : nth Hs fi = some (NmP 2 Zh3)) (t : ByteArray) :
  WP (Zai t) w (fun r w' => ParR W Hs r w' (ZdI (strI t))) := by
 unfold Zai ZdI
 have hl := Zbq t
 refine WP.slot' s (fun _ w s => WP.ite (fun h => WP.ret ?_) (fun h => ?_))
 ·rw [if_pos (show (strI t).length > 1024 by omega)]
  exact ⟨rfl, by decide, s⟩
 rw [if_neg (show ¬ (strI t).length > 1024 by omega)]
 refine WP.step (Zro s t (by omega)) ?_
 intro r2 w h
 cases hx : lexM [] 0 (strI t) with
 | error p =>
  rw [hx] at h
  obtain ⟨h1, s⟩ := h
  have hp := Zml _ _ _ _ (by omega) hx
  refine WP.ite (fun _ => WP.ret ?_) (fun h => absurd (by omega) h)
  rw [h1]
  exact ⟨rfl, show (160 : Int) ≠ 0 by decide, s⟩
 | ok ws =>
  rw [hx] at h
  show WP _ w (fun r w' => ParR W Hs r w' (match Zh2 ((strI t).length : Int) ws with
   | .error f => .error f
   | .ok (m, r) => Zhf ((strI t).length : Int) (ws.length + 1) [] m r))
  obtain ⟨h1, wl, sp, hw, s⟩ := h
  obtain ⟨l1, l2, l3⟩ := ZiS _ _ _ _ hx
  refine WP.ite (fun h => absurd h (by omega)) (fun _ => ?_)
  have hrl := (s.vec_len (i := 0) rfl).1
  have hwl : wl.length = ws.length := by rw [← hw, List.length_map]
  have hok : WlOk wl := by
   refine ⟨by omega, fun r hr => ?_⟩
   have := l3 (wdOf r) (by rw [← hw]; exact List.mem_map.2 ⟨r, hr, rfl⟩)
   have h2 : (strI r.s).length ≤ 0 + (strI t).length := this
   rw [Zbq] at h2
   omega
  have s := s.vec_freeze
  refine WP.newv (c := Zbu) s (fun b w s => ?_)
  have s := (((s.mk0 (A := vec cRg Sl.nil [] []) Zch).mk0 (A := vec cPfx Sl.nil [] []) Zch))
  have s : Ss W (ZeJ ZaQ zSd :: (pts true (pt b 0) (cRr.enc ⟨r2.1, 0, (t.size : Int), Zax, 0, 0⟩) :: rdS cWd false r2.1 wl :: Hs)) w := Zh9 (j := ZaQ) (nt := false) (ns := []) (ps := []) (sp := []) (sp2 := []) rfl s
  have s := (((s.mk0 (A := vec cRg Sl.nil [] []) Zch).mk0 (A := vec cPfx Sl.nil [] []) Zch))
  have s : Ss W (ZeJ ZaQ zSd :: (ZeJ ZaQ zSd :: pts true (pt b 0) (cRr.enc ⟨r2.1, 0, (t.size : Int), Zax, 0, 0⟩) :: rdS cWd false r2.1 wl :: Hs)) w := Zh9 (j := ZaQ) (nt := false) (ns := []) (ps := []) (sp := []) (sp2 := []) rfl s
  have s : Ss W (RrHs b wl zRl ⟨r2.1, 0, (t.size : Int), Zax, 0, 0⟩ ++ Hs) w := by
   have s := s.use [2, 2, 0, 0] rfl
   exact s
  have s : Ss W (RrA b wl ((strI t).length : Int) zRl ws :: Hs) w := ZjQ (q := (⟨r2.1, 0, (t.size : Int), Zax, 0, 0⟩, 0)) ⟨rfl, by simp only; omega, rfl, Nat.zero_le _, hok, by rw [List.drop_zero]; exact hw.symm, Zkh⟩ s
  refine WP.step (Zte s ia ea ik ek) ?_
  intro _ w h
  cases hh : Zh2 ((strI t).length : Int) ws with
  | error f =>
   rw [hh] at h
   refine WP.mkMap (ck := cS) (cv := cI .i64) (show Ss W (RrD b f :: Hs) w from h) (fun b5 w s => ?_)
   have s : Ss W (RrD b f :: Zk9 b5 [] :: Hs) w := by
    have s := s.use [1] rfl
    exact s
   -- the loop ends at once
   refine WP.loopG (γ := Unit) (fun _ (_ : Unit) w => Ss W (RrD b f :: Zk9 b5 [] :: Hs) w) (fun _ _ => 0) () s ?_
   clear s
   rintro _ _ w s
   show WP (Zai.L1 r2 b b5) w _
   unfold Zai.L1
   refine errD s (fun h => ?_)
   refine WP.step (R := fun y w' => y = false ∧ w = w') (WP.ite (fun h' => absurd h' h) (fun _ => WP.ret ⟨rfl, rfl⟩)) ?_
   rintro _ _ ⟨rfl, rfl⟩
   refine WP.ite (fun h => by cases h) (fun _ => WP.step (Zhw s) (fun r w h => WP.done ?_))
   obtain ⟨q1, q2, s⟩ := h
   exact ⟨q1, q2, s.drop⟩
  | ok q =>
   obtain ⟨m, r⟩ := q
   rw [hh] at h
   have hb := Zng hh
   refine WP.mkMap (ck := cS) (cv := cI .i64) (show Ss W (RrA b wl ((strI t).length : Int) m r :: Hs) w from h) (fun b5 w s => ?_)
   have s : Ss W (RrA b wl ((strI t).length : Int) m r :: Zk9 b5 [] :: Hs) w := by
    have s := s.use [1] rfl
    exact s
   exact ZmY (by omega) fi ef (fuel := ws.length + 1) rfl (by omega) hb.1 (by omega) s
end
def Byts (l : List Zac) : Prop := ∀ p ∈ l, Byt p.IP.A.l
structure RdSd (L : List HP) (sd : Zap) (m : Zfb) : Prop where
 no : sd.Not = m.Not
 byts : Byts m.nets
 rn : ∃ i A, nth L i = some A ∧ Rdb A cPfx sd.Nets m.nets
 rp : ∃ i A, nth L i = some A ∧ Rdb A cRg sd.Ports m.ports
theorem RdSd.push {L : List HP} {sd : Zap} {m : Zfb} {A : HP} (r : RdSd L sd m) : RdSd (A :: L) sd m := by
 obtain ⟨h1, h2, ⟨i, B, e1, r1⟩, ⟨j, C, e2, r2⟩⟩ := r
 exact ⟨h1, h2, ⟨i + 1, B, e1, r1⟩, ⟨j + 1, C, e2, r2⟩⟩
structure RdR (L : List HP) (r : Zaz) (m : ZbN) : Prop where
 sc : RSc r m
 from_ : RdSd L r.From m.From
 to_ : RdSd L r.To m.To
theorem RdR.push {L : List HP} {r : Zaz} {m : ZbN} {A : HP} (h : RdR L r m) : RdR (A :: L) r m := ⟨h.sc, h.from_.push, h.to_.push⟩
section
variable {W w : World} {Hs : List HP}
theorem Ztk {sd : Zap} {m : Zfb} (s : Ss W Hs w) (hl : sd.Ports.len = m.ports.length) (proto : Int) :
  WP (Zal.K1 sd proto) w (fun y w' => y = (if m.ports ≠ [] ∧ Zel proto = false then 165 else 0) ∧ Ss W Hs w') := by
 unfold Zal.K1
 have hne : ((sd.Ports.len : Int) > 0) ↔ m.ports ≠ [] := by
  rw [hl]
  exact ⟨fun h h' => by rw [h'] at h; simp at h, fun h => by have := List.length_pos_iff.2 h; omega⟩
 refine WP.step (R := fun y w' => y = decide (m.ports ≠ [] ∧ Zel proto = false) ∧ w = w') (WP.ite (fun h => WP.step (ZmX proto) ?_) (fun h => WP.ret ⟨?_, rfl⟩)) ?_
 ·rintro _ _ ⟨rfl, rfl⟩
  refine WP.ret ⟨?_, rfl⟩
  have h1 := hne.1 h
  cases hp : Zel proto <;> simp [h1]
 ·exact (decide_eq_false (fun h' => h (hne.2 h'.1))).symm
 rintro _ _ ⟨rfl, rfl⟩
 refine WP.ite (fun h => WP.ret ⟨?_, s⟩) (fun h => WP.ret ⟨?_, s⟩)
 ·rw [if_pos (of_decide_eq_true h)]
 ·rw [if_neg (fun h' => h (decide_eq_true h'))]
theorem Ztj {sd : Zap} {m : Zfb} (s : Ss W Hs w) {j : Nat} {B : HP} (e2 : nth Hs j = some B) (rb : Rdb B cRg sd.Ports m.ports) (proto : Int) :
  WP (Zal.K2 sd proto) w (fun y w' => y = (if m.ports.length > 16 then 164 else if ¬ (∀ r ∈ m.ports, Zil r = true) then 164 else if m.ports ≠ [] ∧ Zel proto = false then 165 else 0) ∧ Ss W Hs w') := by
 unfold Zal.K2
 have hl := (s.rd_len e2 rb).1
 refine WP.ite (fun h => WP.ret ⟨by rw [if_pos (by omega)], s⟩) (fun h => ?_)
 rw [if_neg (by omega)]
 refine WP.loopG (γ := Nat) (fun k (x : Int) w => x = (k : Int) ∧ k ≤ m.ports.length ∧ (∀ r ∈ m.ports.take k, Zil r = true) ∧ Ss W Hs w) (fun k _ => m.ports.length - k) 0 ⟨rfl, Nat.zero_le _, by simp, s⟩ ?_
 clear s
 rintro k _ w ⟨rfl, hk, ha, s⟩
 show WP (Zal.L1 sd proto (k : Int)) w _
 unfold Zal.L1
 refine WP.ite (fun h => ?_) (fun h => ?_)
 ·have hk2 : k < m.ports.length := by omega
  have hx := List.getElem?_eq_getElem hk2
  have htake : m.ports.take (k + 1) = m.ports.take k ++ [m.ports[k]] := by
   rw [List.take_add_one, hx]
   rfl
  generalize m.ports[k] = x at hx htake
  refine WP.rdx s j e2 rb (by omega) (x := x) (by rw [Int.toNat_natCast]; exact hx) rfl (WP.slot' s (fun _ w s => ?_))
  refine WP.step (R := fun y w' => y = decide (x.Lo < 0 ∨ x.Hi > 65535) ∧ w = w') (WP.ite (fun h => WP.ret ⟨(decide_eq_true (.inl h)).symm, rfl⟩) (fun h => WP.ret ⟨decide_eq_decide.2 ⟨.inr, fun h' => h'.elim (fun h' => absurd h' h) id⟩, rfl⟩)) ?_
  rintro _ _ ⟨rfl, rfl⟩
  refine WP.step (R := fun y w' => y = !(Zil x) ∧ w = w') (WP.ite (fun h => WP.ret ⟨?_, rfl⟩) (fun h => WP.ret ⟨?_, rfl⟩)) ?_
  ·unfold Zil
   have h := of_decide_eq_true h
   rw [decide_eq_false (by omega)]
   rfl
  ·unfold Zil
   have h : ¬ (x.Lo < 0 ∨ x.Hi > 65535) := fun h' => h (decide_eq_true h')
   rw [← decide_not]
   exact decide_eq_decide.2 (by omega)
  rintro _ _ ⟨rfl, rfl⟩
  cases hr : Zil x with
  | false =>
   refine WP.ite (fun _ => WP.done ⟨?_, s⟩) (fun h => absurd rfl h)
   rw [if_pos (fun h' => by have := h' x (List.mem_of_getElem? hx); rw [hr] at this; cases this)]
  | true =>
   refine WP.ite (fun h => by cases h) (fun _ => WP.next ⟨k + 1, ⟨?_, hk2, ?_, s⟩, by omega⟩)
   ·rw [Zak (by omega) (by omega)]
    simp
   ·rw [htake]
    intro r hm
    rcases List.mem_append.1 hm with hm | hm
    ·exact ha r hm
    ·rw [List.mem_singleton.1 hm]
     exact hr
 ·have hk2 : k = m.ports.length := by omega
  rw [hk2, List.take_length] at ha
  refine WP.step (Ztk s hl proto) (fun y w h => WP.done ?_)
  rw [if_neg (fun h' => h' ha)]
  exact h
theorem ZjR {sd : Zap} {m : Zfb} (s : Ss W Hs w) (r : RdSd Hs sd m) (kind proto : Int) :
  WP (Zal sd kind proto) w (fun y w' => y = Zgg m kind proto ∧ Ss W Hs w') := by
 obtain ⟨hno, hb, ⟨i, A, e, ra⟩, ⟨j, B, e2, rb⟩⟩ := r
 unfold Zal
 have hl := (s.rd_len e ra).1
 have hne : ((sd.Nets.len : Int) == 0) = decide (m.nets = []) := by
  rw [Bool.eq_iff_iff, beq_iff_eq, decide_eq_true_iff, hl, ← List.length_eq_zero_iff]
  omega
 refine WP.slot' s (fun _ w s => ?_)
 refine WP.step (R := fun y w' => y = decide (m.nets.length > 16 ∨ (m.Not = true ∧ m.nets = [])) ∧ w = w') (WP.ite (fun h => WP.ret ⟨(decide_eq_true (.inl (by omega))).symm, rfl⟩) (fun h => ?_)) ?_
 ·refine WP.step (R := fun y w' => y = decide (m.nets.length > 16 ∨ (m.Not = true ∧ m.nets = [])) ∧ w = w') (WP.ite (fun h2 => WP.ret ⟨?_, rfl⟩) (fun h2 => WP.ret ⟨?_, rfl⟩)) (fun y w h => WP.ret h)
  ·rw [hne]
   rw [hno] at h2
   exact decide_eq_decide.2 ⟨fun h' => .inr ⟨h2, h'⟩, fun h' => h'.elim (fun h' => absurd h' (by omega)) (fun h' => h'.2)⟩
  ·rw [hno] at h2
   exact (decide_eq_false (fun h' => h'.elim (fun h' => absurd h' (by omega)) (fun h' => h2 h'.1))).symm
 rintro _ _ ⟨rfl, rfl⟩
 unfold Zgg
 refine WP.ite (fun h => WP.ret ⟨by rw [if_pos (of_decide_eq_true h)], s⟩) (fun h => ?_)
 have h16 : ¬ (m.nets.length > 16 ∨ (m.Not = true ∧ m.nets = [])) := fun h' => h (decide_eq_true h')
 rw [if_neg h16]
 refine WP.loopG (γ := Nat) (fun k (x : Int) w => x = (k : Int) ∧ k ≤ m.nets.length ∧ (∀ p ∈ m.nets.take k, Zg1 p kind = true) ∧ Ss W Hs w) (fun k _ => m.nets.length - k) 0 ⟨rfl, Nat.zero_le _, by simp, s⟩ ?_
 clear s
 rintro k _ w ⟨rfl, hk, ha, s⟩
 show WP (Zal.L2 sd kind proto (k : Int)) w _
 unfold Zal.L2
 refine WP.ite (fun h => ?_) (fun h => ?_)
 ·have hk2 : k < m.nets.length := by omega
  have hx := List.getElem?_eq_getElem hk2
  have htake : m.nets.take (k + 1) = m.nets.take k ++ [m.nets[k]] := by
   rw [List.take_add_one, hx]
   rfl
  generalize m.nets[k] = x at hx htake
  refine WP.rdx s i e ra (by omega) (x := x) (by rw [Int.toNat_natCast]; exact hx) rfl (WP.slot' s (fun _ w s => WP.step (ZqS s x (hb x (List.mem_of_getElem? hx)) kind) ?_))
  rintro _ w ⟨rfl, s⟩
  cases hr : Zg1 x kind with
  | false =>
   refine WP.ite (fun _ => WP.done ⟨?_, s⟩) (fun h => absurd (by decide) h)
   rw [if_pos (fun h' => by have := h' x (List.mem_of_getElem? hx); rw [hr] at this; cases this)]
  | true =>
   refine WP.ite (fun h => absurd rfl h) (fun _ => WP.next ⟨k + 1, ⟨?_, hk2, ?_, s⟩, by omega⟩)
   ·rw [Zak (by omega) (by omega)]
    simp
   ·rw [htake]
    intro r hm
    rcases List.mem_append.1 hm with hm | hm
    ·exact ha r hm
    ·rw [List.mem_singleton.1 hm]
     exact hr
 ·have hk2 : k = m.nets.length := by omega
  rw [hk2, List.take_length] at ha
  refine WP.step (Ztj s e2 rb proto) (fun y w h => WP.done ?_)
  rw [if_neg (fun h' => h' ha)]
  exact h
theorem ZmH (n lo hi : Int) : WP (Zca n lo hi) w (fun y w' => y = inR n lo hi ∧ w = w') := by
 unfold Zca inR
 refine WP.step (R := fun y w' => y = decide (lo ≤ n ∧ n ≤ hi) ∧ w = w') (WP.ite (fun h => WP.ret ⟨decide_eq_decide.2 ⟨fun h' => ⟨h, h'⟩, fun h' => h'.2⟩, rfl⟩) (fun h => WP.ret ⟨(decide_eq_false (fun h' => h h'.1)).symm, rfl⟩)) (fun y w h => WP.ret h)
theorem wand {β : Type} {a : Bool} {n lo hi : Int} {f : Bool → M β} {Q : β → World → Prop} (k : WP (f (a && inR n lo hi)) w Q) : WP ((if a = true then Zca n lo hi >>= fun r => pure r else pure false) >>= f) w Q := by
 refine WP.step (R := fun y w' => y = (a && inR n lo hi) ∧ w = w') (WP.ite (fun h => WP.step (ZmH n lo hi) ?_) (fun h => WP.ret ⟨?_, rfl⟩)) ?_
 ·rintro _ _ ⟨rfl, rfl⟩
  exact WP.ret ⟨by rw [h]; rfl, rfl⟩
 ·cases a
  ·rfl
  ·exact absurd rfl h
 rintro _ _ ⟨rfl, rfl⟩
 exact k
theorem ZlR {r : Zaz} {m : ZbN} (s : Ss W Hs w) (h : RdR Hs r m) (j : Bool) : WP (Zbf.K1 r j) w (fun y w' => y = (if j = true then 165 else if Zgg m.From m.Kind m.Proto ≠ 0 then Zgg m.From m.Kind m.Proto else Zgg m.To m.Kind m.Proto) ∧ Ss W Hs w') := by
 unfold Zbf.K1
 obtain ⟨⟨-, -, hk, hp, -⟩, hf, ht⟩ := h
 rw [hk, hp]
 refine WP.ite (fun h => WP.ret ⟨by rw [if_pos h], s⟩) (fun h => ?_)
 rw [if_neg h]
 refine WP.step (ZjR s hf m.Kind m.Proto) ?_
 rintro _ w ⟨rfl, s⟩
 refine WP.ite (fun h => WP.ret ⟨by rw [if_pos h], s⟩) (fun h => ?_)
 rw [if_neg h]
 refine WP.step (ZjR s ht m.Kind m.Proto) ?_
 rintro _ w ⟨rfl, s⟩
 exact WP.ret ⟨rfl, s⟩
theorem Zpy {r : Zaz} {m : ZbN} (s : Ss W Hs w) (h : RdR Hs r m) (hs : 0 ≤ m.Set ∧ m.Set ≤ 255) (hc : 0 ≤ m.Clear ∧ m.Clear ≤ 255) (j : Bool) : WP (Zbf.K2 r j) w (fun y w' => y = (if (j || decide (((m.Set ≠ 0 ∨ m.Clear ≠ 0) ∧ m.Proto ≠ 6) ∨ (m.Type_ ≠ 0 ∧ ZfS m.Proto = false))) = true then 165 else if Zgg m.From m.Kind m.Proto ≠ 0 then Zgg m.From m.Kind m.Proto else Zgg m.To m.Kind m.Proto) ∧ Ss W Hs w') := by
 have h0 := h
 obtain ⟨⟨-, -, -, hp, -, -, e1, e2, e3, -⟩, -, -⟩ := h
 unfold Zbf.K2
 rw [hp, e1, e2, e3]
 refine WP.ite (fun h => WP.ret ⟨by rw [h]; rfl, s⟩) (fun h => ?_)
 have hj : j = false := by cases j with
  | false => rfl
  | true => exact absurd rfl h
 subst hj
 rw [Bool.false_or]
 have hz := Zsf hs hc
 refine WP.step (R := fun y w' => y = decide ((m.Set ≠ 0 ∨ m.Clear ≠ 0) ∧ m.Proto ≠ 6) ∧ w = w') (WP.ite (fun h => WP.ret ⟨?_, rfl⟩) (fun h => WP.ret ⟨?_, rfl⟩)) ?_
 ·rw [Bool.eq_iff_iff, bne_iff_ne, decide_eq_true_iff]
  exact ⟨fun h' => ⟨hz.1 h, h'⟩, fun h' => h'.2⟩
 ·exact (decide_eq_false (fun h' => h (hz.2 h'.1))).symm
 rintro _ _ ⟨rfl, rfl⟩
 refine WP.ite (fun h => ?_) (fun h => ?_)
 ·have h' := of_decide_eq_true h
  refine (ZlR s h0 _).mono ?_
  rintro y w ⟨rfl, s⟩
  rw [if_pos h, if_pos (decide_eq_true (.inl h'))]
  exact ⟨rfl, s⟩
 ·have h' : ¬ ((m.Set ≠ 0 ∨ m.Clear ≠ 0) ∧ m.Proto ≠ 6) := fun h' => h (decide_eq_true h')
  refine WP.step (R := fun y w' => y = decide (((m.Set ≠ 0 ∨ m.Clear ≠ 0) ∧ m.Proto ≠ 6) ∨ (m.Type_ ≠ 0 ∧ ZfS m.Proto = false)) ∧ w = w') (WP.ite (fun h2 => WP.step (Zos m.Proto) ?_) (fun h2 => WP.ret ⟨?_, rfl⟩)) ?_
  ·rintro _ _ ⟨rfl, rfl⟩
   refine WP.ret ⟨?_, rfl⟩
   cases ht : ZfS m.Proto with
   | false => exact (decide_eq_true (.inr ⟨h2, rfl⟩)).symm
   | true => exact (decide_eq_false (fun h3 => h3.elim h' (fun h3 => by cases h3.2))).symm
  ·exact (decide_eq_false (fun h3 => h3.elim h' (fun h3 => h2 h3.1))).symm
  rintro _ _ ⟨rfl, rfl⟩
  exact ZlR s h0 _
theorem Zo6 {r : Zaz} {m : ZbN} (s : Ss W Hs w) (h : RdR Hs r m) : WP (Zbf r) w (fun y w' => y = ckM m ∧ Ss W Hs w') := by
 have h0 := h
 obtain ⟨⟨c1, c2, c3, c4, c5, c6, c7, c8, c9, c10⟩, -, -⟩ := h
 unfold Zbf
 rw [c1, c2, c3, c4, c5, c6, c7, c8, c9]
 refine WP.slot' s (fun _ w s => WP.step (ZmH m.Act 1 3) ?_)
 rintro _ _ ⟨rfl, rfl⟩
 refine wand (wand (wand (wand (wand (wand (wand (wand ?_)))))))
 have hf : ∀ {a : Bool}, (a = true → (0 ≤ m.Set ∧ m.Set ≤ 255) ∧ (0 ≤ m.Clear ∧ m.Clear ≤ 255)) → ((if a = true then pure (band .i64 m.Set m.Clear == 0) else pure false : M Bool)) = pure (a && !Zox m.Set m.Clear) := by
  intro a ha
  cases a with
  | false => rfl
  | true =>
   have := ZpD (ha rfl).1 (ha rfl).2
   rw [if_pos rfl, Bool.true_and]
   congr 1
   rw [Bool.eq_iff_iff, beq_iff_eq, this]
   simp
 rw [hf (fun h => by
  simp only [Bool.and_eq_true, inR, decide_eq_true_iff] at h
  exact ⟨h.1.1.2, h.1.2⟩)]
 refine WP.step (R := fun y w' => y = Zr7 m ∧ w = w') (WP.ret ⟨rfl, rfl⟩) ?_
 rintro _ _ ⟨rfl, rfl⟩
 unfold ckM
 cases hfm : Zr7 m with
 | false => exact WP.ite (fun _ => WP.ret ⟨rfl, s⟩) (fun h => absurd (by decide) h)
 | true =>
  rw [if_neg (show ¬ (true = false) by decide)]
  refine WP.ite (fun h => absurd rfl h) (fun _ => ?_)
  have hb : (0 ≤ m.Set ∧ m.Set ≤ 255) ∧ (0 ≤ m.Clear ∧ m.Clear ≤ 255) := by
   unfold Zr7 at hfm
   simp only [Bool.and_eq_true, inR, decide_eq_true_iff] at hfm
   exact ⟨hfm.1.1.1.2, hfm.1.1.2⟩
  have fin : ∀ {w : World} {j : Bool}, Ss W Hs w → (j = decide ((m.Class ≠ 0 ∧ m.Act ≠ 1) ∨ (m.Proto ≠ 0 ∧ m.Kind = 1))) → WP (Zbf.K2 r j) w (fun y w' => y = (if ZoZ m = true then 165 else if Zgg m.From m.Kind m.Proto ≠ 0 then Zgg m.From m.Kind m.Proto else Zgg m.To m.Kind m.Proto) ∧ Ss W Hs w') := by
   intro w j s hj
   have hcl : ZoZ m = (j || decide (((m.Set ≠ 0 ∨ m.Clear ≠ 0) ∧ m.Proto ≠ 6) ∨ (m.Type_ ≠ 0 ∧ ZfS m.Proto = false))) := by
    rw [hj]
    unfold ZoZ
    rw [Bool.eq_iff_iff]
    simp only [Bool.or_eq_true, decide_eq_true_iff]
    exact ⟨fun h => h.elim (fun h => .inl (.inl h)) (fun h => h.elim (fun h => .inl (.inr h)) .inr), fun h => h.elim (fun h => h.elim .inl (fun h => .inr (.inl h))) (fun h => .inr (.inr h))⟩
   rw [hcl]
   exact Zpy s h0 hb.1 hb.2 j
  refine WP.step (R := fun y w' => y = decide (m.Class ≠ 0 ∧ m.Act ≠ 1) ∧ w = w') (WP.ite (fun h => WP.ret ⟨?_, rfl⟩) (fun h => WP.ret ⟨?_, rfl⟩)) ?_
  ·rw [Bool.eq_iff_iff, bne_iff_ne, decide_eq_true_iff]
   exact ⟨fun h' => ⟨h, h'⟩, fun h' => h'.2⟩
  ·exact (decide_eq_false (fun h' => h h'.1)).symm
  rintro _ _ ⟨rfl, rfl⟩
  refine WP.ite (fun h => fin s ?_) (fun h => ?_)
  ·rw [h, decide_eq_true (.inl (of_decide_eq_true h))]
  ·have h' : ¬ (m.Class ≠ 0 ∧ m.Act ≠ 1) := fun h' => h (decide_eq_true h')
   refine WP.step (R := fun y w' => y = decide ((m.Class ≠ 0 ∧ m.Act ≠ 1) ∨ (m.Proto ≠ 0 ∧ m.Kind = 1)) ∧ w = w') (WP.ite (fun h => WP.ret ⟨?_, rfl⟩) (fun h => WP.ret ⟨?_, rfl⟩)) ?_
   ·rw [Bool.eq_iff_iff, beq_iff_eq, decide_eq_true_iff]
    exact ⟨fun h2 => .inr ⟨h, h2⟩, fun h2 => h2.elim (fun h2 => absurd h2 h') (fun h2 => h2.2)⟩
   ·exact (decide_eq_false (fun h2 => h2.elim h' (fun h2 => h h2.1))).symm
   rintro _ _ ⟨rfl, rfl⟩
   exact fin s rfl
end
section
variable {W w : World} {Hs : List HP}
theorem ZiI {α : Type} {l : List α} {k : Nat} {x : α} (hx : l[k]? = some x) : l.take (k + 1) = l.take k ++ [x] := by
 rw [List.take_add_one, hx]
 rfl
theorem ZsX {a b : Zap} {ma mb : Zfb} (s : Ss W Hs w) (i : Nat) {A B : HP} (e : nth Hs i = some A) (ra : Rdb A cRg a.Ports ma.ports) (j : Nat) (e2 : nth Hs j = some B) (rb : Rdb B cRg b.Ports mb.ports) (hl : ma.ports.length = mb.ports.length) (hm : ma.ports.length ≤ 9000000000000) :
  WP (Zah.K1 a b) w (fun y w' => y = decide (ma.ports = mb.ports) ∧ Ss W Hs w') := by
 unfold Zah.K1
 have h1 := (s.rd_len e ra).1
 refine WP.loopG (γ := Nat) (fun k (x : Int) w => x = (k : Int) ∧ k ≤ ma.ports.length ∧ ma.ports.take k = mb.ports.take k ∧ Ss W Hs w) (fun k _ => ma.ports.length - k) 0 ⟨rfl, Nat.zero_le _, rfl, s⟩ ?_
 clear s
 rintro k _ w ⟨rfl, hk, ha, s⟩
 show WP (Zah.L1 a b (k : Int)) w _
 unfold Zah.L1
 refine WP.ite (fun h => WP.draw' s (fun w s => ?_)) (fun h => ?_)
 ·have hk2 : k < ma.ports.length := by omega
  have hx := List.getElem?_eq_getElem hk2
  have hy := List.getElem?_eq_getElem (show k < mb.ports.length by omega)
  generalize ma.ports[k] = x at hx
  generalize mb.ports[k]'(show k < mb.ports.length by omega) = y at hy
  refine WP.rdx s i e ra (by omega) (x := x) (by rw [Int.toNat_natCast]; exact hx) rfl (WP.rdx s j e2 rb (by omega) (x := y) (by rw [Int.toNat_natCast]; exact hy) rfl (WP.ite (fun hn => WP.done ⟨?_, s⟩) (fun hn => ?_)))
  ·refine (decide_eq_false (fun h' => hn ?_)).symm
   rw [h', hy] at hx
   exact (Option.some.inj hx).symm
  ·refine WP.next ⟨k + 1, ⟨?_, hk2, ?_, s⟩, by omega⟩
   ·rw [Zak (by omega) (by omega)]
    simp
   ·rw [ZiI hx, ZiI hy, ha, Decidable.not_not.1 hn]
 ·have hk2 : k = ma.ports.length := by omega
  refine WP.done ⟨(decide_eq_true ?_).symm, s⟩
  rw [hk2, List.take_length, hl, List.take_length] at ha
  exact ha
theorem Zla {a b : Zap} {ma mb : Zfb} (s : Ss W Hs w) (r1 : RdSd Hs a ma) (r2 : RdSd Hs b mb) (hn6 : ma.nets.length ≤ 9000000000000) (hp6 : ma.ports.length ≤ 9000000000000) : WP (Zah a b) w (fun y w' => y = decide (ma = mb) ∧ Ss W Hs w') := by
 obtain ⟨no1, -, ⟨i1, A1, e1, n1⟩, ⟨j1, B1, f1, p1⟩⟩ := r1
 obtain ⟨no2, -, ⟨i2, A2, e2, n2⟩, ⟨j2, B2, f2, p2⟩⟩ := r2
 unfold Zah
 have l1 := (s.rd_len e1 n1).1
 have l2 := (s.rd_len e2 n2).1
 have l3 := (s.rd_len f1 p1).1
 have l4 := (s.rd_len f2 p2).1
 have hm : ma = mb ↔ ma.Not = mb.Not ∧ ma.nets = mb.nets ∧ ma.ports = mb.ports := by
  cases ma
  cases mb
  simp
 rw [no1, no2]
 refine WP.slot' s (fun _ w s => WP.slot' s (fun _ w s => ?_))
 refine WP.step (R := fun y w' => y = !decide (ma.Not = mb.Not ∧ ma.nets.length = mb.nets.length) ∧ w = w') (WP.ite (fun h => WP.ret ⟨?_, rfl⟩) (fun h => WP.ret ⟨?_, rfl⟩)) ?_
 ·rw [decide_eq_false (fun h' => h h'.1)]
  rfl
 ·have h := Decidable.not_not.1 h
  by_cases h2 : ma.nets.length = mb.nets.length
  ·rw [decide_eq_true ⟨h, h2⟩, l1, l2, h2]
   simp
  ·rw [decide_eq_false (fun h' => h2 h'.2), Bool.not_false, bne_iff_ne]
   omega
 rintro _ _ ⟨rfl, rfl⟩
 refine WP.step (R := fun y w' => y = !decide (ma.Not = mb.Not ∧ ma.nets.length = mb.nets.length ∧ ma.ports.length = mb.ports.length) ∧ w = w') (WP.ite (fun h => WP.ret ⟨?_, rfl⟩) (fun h => WP.ret ⟨?_, rfl⟩)) ?_
 ·have h : ¬ (ma.Not = mb.Not ∧ ma.nets.length = mb.nets.length) := fun h' => by
   rw [decide_eq_true h'] at h
   cases h
  rw [decide_eq_false (fun h' => h ⟨h'.1, h'.2.1⟩)]
  rfl
 ·have h : ma.Not = mb.Not ∧ ma.nets.length = mb.nets.length := Decidable.byContradiction fun h' => h (by rw [decide_eq_false h']; rfl)
  by_cases h2 : ma.ports.length = mb.ports.length
  ·rw [decide_eq_true ⟨h.1, h.2, h2⟩, l3, l4, h2]
   simp
  ·rw [decide_eq_false (fun h' => h2 h'.2.2), Bool.not_false, bne_iff_ne]
   omega
 rintro _ _ ⟨rfl, rfl⟩
 refine WP.ite (fun h => WP.ret ⟨?_, s⟩) (fun h => ?_)
 ·refine (decide_eq_false (fun h' => ?_)).symm
  rw [h', decide_eq_true ⟨rfl, rfl, rfl⟩] at h
  cases h
 have h : ma.Not = mb.Not ∧ ma.nets.length = mb.nets.length ∧ ma.ports.length = mb.ports.length := Decidable.byContradiction fun h' => h (by rw [decide_eq_false h']; rfl)
 obtain ⟨hn, hl, hp⟩ := h
 refine WP.loopG (γ := Nat) (fun k (x : Int) w => x = (k : Int) ∧ k ≤ ma.nets.length ∧ ma.nets.take k = mb.nets.take k ∧ Ss W Hs w) (fun k _ => ma.nets.length - k) 0 ⟨rfl, Nat.zero_le _, rfl, s⟩ ?_
 clear s
 rintro k _ w ⟨rfl, hk, ha, s⟩
 show WP (Zah.L2 a b (k : Int)) w _
 unfold Zah.L2
 refine WP.ite (fun h => WP.draw' s (fun w s => ?_)) (fun h => ?_)
 ·have hk2 : k < ma.nets.length := by omega
  have hx := List.getElem?_eq_getElem hk2
  have hy := List.getElem?_eq_getElem (show k < mb.nets.length by omega)
  generalize ma.nets[k] = x at hx
  generalize mb.nets[k]'(show k < mb.nets.length by omega) = y at hy
  refine WP.rdx s i1 e1 n1 (by omega) (x := x) (by rw [Int.toNat_natCast]; exact hx) rfl (WP.rdx s i2 e2 n2 (by omega) (x := y) (by rw [Int.toNat_natCast]; exact hy) rfl (WP.ite (fun hn => WP.done ⟨?_, s⟩) (fun hn => ?_)))
  ·refine (decide_eq_false (fun h' => hn ?_)).symm
   rw [h', hy] at hx
   exact (Option.some.inj hx).symm
  ·refine WP.next ⟨k + 1, ⟨?_, hk2, ?_, s⟩, by omega⟩
   ·rw [Zak (by omega) (by omega)]
    simp
   ·rw [ZiI hx, ZiI hy, ha, Decidable.not_not.1 hn]
 ·have hk2 : k = ma.nets.length := by omega
  rw [hk2, List.take_length, hl, List.take_length] at ha
  refine WP.step (ZsX s j1 f1 p1 j2 f2 p2 hp hp6) ?_
  rintro _ w ⟨rfl, s⟩
  refine WP.done ⟨decide_eq_decide.2 ?_, s⟩
  rw [hm]
  exact ⟨fun h => ⟨hn, ha, h⟩, fun h => h.2.2⟩
theorem ror {β : Type} {p : Prop} [Decidable p] {x y : Int} {f : Bool → M β} {Q : β → World → Prop} {a : Bool} (ha : (a = true) ↔ p) (k : WP (f (decide (p ∨ x ≠ y))) w Q) : WP ((if a = true then pure true else pure (x != y)) >>= f) w Q := by
 have : ((if a = true then pure true else pure (x != y)) : M Bool) = pure (decide (p ∨ x ≠ y)) := by
  by_cases h : a = true
  ·rw [if_pos h, decide_eq_true (.inl (ha.1 h))]
  ·rw [if_neg h]
   congr 1
   rw [Bool.eq_iff_iff, bne_iff_ne, decide_eq_true_iff]
   exact ⟨.inr, fun h' => h'.elim (fun h' => absurd (ha.2 h') h) id⟩
 rw [this]
 refine WP.step (R := fun y' w' => y' = decide (p ∨ x ≠ y) ∧ w = w') (WP.ret ⟨rfl, rfl⟩) ?_
 rintro _ _ ⟨rfl, rfl⟩
 exact k
theorem ror0 {β : Type} {x y u v : Int} {f : Bool → M β} {Q : β → World → Prop} (k : WP (f (decide (u ≠ v ∨ x ≠ y))) w Q) : WP ((if u ≠ v then pure true else pure (x != y)) >>= f) w Q := by
 have : ((if u ≠ v then pure true else pure (x != y)) : M Bool) = pure (decide (u ≠ v ∨ x ≠ y)) := by
  by_cases h : u ≠ v
  ·rw [if_pos h, decide_eq_true (.inl h)]
  ·rw [if_neg h]
   congr 1
   rw [Bool.eq_iff_iff, bne_iff_ne, decide_eq_true_iff]
   exact ⟨.inr, fun h' => h'.elim (fun h' => absurd h' h) id⟩
 rw [this]
 refine WP.step (R := fun y' w' => y' = decide (u ≠ v ∨ x ≠ y) ∧ w = w') (WP.ret ⟨rfl, rfl⟩) ?_
 rintro _ _ ⟨rfl, rfl⟩
 exact k
theorem Zog {a b : Zaz} {ma mb : ZbN} (s : Ss W Hs w) (r1 : RdR Hs a ma) (r2 : RdR Hs b mb) (hl : (ma.From.nets.length ≤ 9000000000000 ∧ ma.From.ports.length ≤ 9000000000000) ∧ ma.To.nets.length ≤ 9000000000000 ∧ ma.To.ports.length ≤ 9000000000000) : WP (Zc3 a b) w (fun y w' => y = decide (ma = mb) ∧ Ss W Hs w') := by
 obtain ⟨⟨c1, c2, c3, c4, c5, c6, c7, c8, c9, c10⟩, f1, t1⟩ := r1
 obtain ⟨⟨d1, d2, d3, d4, d5, d6, d7, d8, d9, d10⟩, f2, t2⟩ := r2
 have hm : ma = mb ↔ (ma.Act = mb.Act ∧ ma.Class = mb.Class ∧ ma.Kind = mb.Kind ∧ ma.Proto = mb.Proto ∧ ma.In = mb.In ∧ ma.Vid = mb.Vid) ∧ (ma.Set = mb.Set ∧ ma.Clear = mb.Clear ∧ ma.Type_ = mb.Type_ ∧ ma.Pieces = mb.Pieces) ∧ ma.From = mb.From ∧ ma.To = mb.To := by
  cases ma
  cases mb
  simp only [ZbN.mk.injEq]
  exact ⟨fun ⟨h1, h2, h3, h4, h5, h6, h7, h8, h9, h10, h11, h12⟩ => ⟨⟨h1, h2, h3, h4, h5, h6⟩, ⟨h9, h10, h11, h12⟩, h7, h8⟩, fun ⟨⟨h1, h2, h3, h4, h5, h6⟩, ⟨h9, h10, h11, h12⟩, h7, h8⟩ => ⟨h1, h2, h3, h4, h5, h6, h7, h8, h9, h10, h11, h12⟩⟩
 unfold Zc3
 rw [c1, c2, c3, c4, c5, c6, c7, c8, c9, c10, d1, d2, d3, d4, d5, d6, d7, d8, d9, d10]
 refine WP.slot' s (fun _ w s => WP.slot' s (fun _ w s => ror0 (ror decide_eq_true_iff (ror decide_eq_true_iff (ror decide_eq_true_iff (ror decide_eq_true_iff ?_))))))
 refine WP.ite (fun h => WP.ret ⟨?_, s⟩) (fun h => ror0 (ror decide_eq_true_iff ?_))
 ·have h := of_decide_eq_true h
  refine (decide_eq_false (fun h' => ?_)).symm
  obtain ⟨⟨a1, a2, a3, a4, a5, a6⟩, -, -⟩ := hm.1 h'
  rcases h with ((((h | h) | h) | h) | h) | h
  ·exact h a1
  ·exact h a2
  ·exact h a3
  ·exact h a4
  ·exact h a5
  ·exact h a6
 have h1 : ma.Act = mb.Act ∧ ma.Class = mb.Class ∧ ma.Kind = mb.Kind ∧ ma.Proto = mb.Proto ∧ ma.In = mb.In ∧ ma.Vid = mb.Vid := by
  have h : ¬ (((((ma.Act ≠ mb.Act ∨ ma.Class ≠ mb.Class) ∨ ma.Kind ≠ mb.Kind) ∨ ma.Proto ≠ mb.Proto) ∨ ma.In ≠ mb.In) ∨ ma.Vid ≠ mb.Vid) := fun h' => h (decide_eq_true h')
  omega
 refine WP.step (R := fun y w' => y = decide (((ma.Set ≠ mb.Set ∨ ma.Clear ≠ mb.Clear) ∨ ma.Type_ ≠ mb.Type_) ∨ ma.Pieces ≠ mb.Pieces) ∧ w = w') (WP.ite (fun h => WP.ret ⟨(decide_eq_true (.inl (of_decide_eq_true h))).symm, rfl⟩) (fun h => WP.ret ⟨?_, rfl⟩)) ?_
 ·have h : ¬ ((ma.Set ≠ mb.Set ∨ ma.Clear ≠ mb.Clear) ∨ ma.Type_ ≠ mb.Type_) := fun h' => h (decide_eq_true h')
  by_cases hp : ma.Pieces = mb.Pieces
  ·rw [decide_eq_false (fun h' => h'.elim h (fun h' => h' hp)), hp]
   simp
  ·rw [decide_eq_true (.inr hp)]
   simp [hp]
 rintro _ _ ⟨rfl, rfl⟩
 refine WP.ite (fun h => WP.ret ⟨?_, s⟩) (fun h => WP.step (Zla s f1 f2 hl.1.1 hl.1.2) ?_)
 ·have h := of_decide_eq_true h
  refine (decide_eq_false (fun h' => ?_)).symm
  obtain ⟨-, ⟨a1, a2, a3, a4⟩, -⟩ := hm.1 h'
  rcases h with ((h | h) | h) | h
  ·exact h a1
  ·exact h a2
  ·exact h a3
  ·exact h a4
 have h2 : ma.Set = mb.Set ∧ ma.Clear = mb.Clear ∧ ma.Type_ = mb.Type_ ∧ ma.Pieces = mb.Pieces := by
  have h : ¬ (((ma.Set ≠ mb.Set ∨ ma.Clear ≠ mb.Clear) ∨ ma.Type_ ≠ mb.Type_) ∨ ma.Pieces ≠ mb.Pieces) := fun h' => h (decide_eq_true h')
  refine ⟨by omega, by omega, by omega, ?_⟩
  exact Decidable.byContradiction fun h' => h (.inr h')
 rintro _ w ⟨rfl, s⟩
 refine WP.step (R := fun y w' => y = decide (ma = mb) ∧ Ss W Hs w') (WP.ite (fun h => WP.step (Zla s t1 t2 hl.2.1 hl.2.2) ?_) (fun h => WP.ret ⟨?_, s⟩)) (fun y w h => WP.ret h)
 ·rintro _ w ⟨rfl, s⟩
  refine WP.ret ⟨decide_eq_decide.2 ?_, s⟩
  rw [hm]
  exact ⟨fun h' => ⟨h1, h2, of_decide_eq_true h, h'⟩, fun h' => h'.2.2.2⟩
 ·exact (decide_eq_false (fun h' => h (decide_eq_true (hm.1 h').2.2.1))).symm
end
theorem Zns {l : List Int} (h : l.all (fun x => decide (0 ≤ x ∧ x ≤ 255)) = true) : Byt l := fun x hx => of_decide_eq_true (List.all_eq_true.1 h x hx)
theorem Zt8 {l : List (List Int)} (h : ∀ x ∈ l, Byt x) : (l.map bstr).map strI = l := by
 rw [List.map_map]
 conv => rhs; rw [← List.map_id l]
 exact List.map_congr_left (fun x hx => Zkv (h x hx))
theorem ZlH {l : List (List Int)} (hl : l.length ≤ 100) (h : ∀ x ∈ l, x.length ≤ 100) : (ZkQ [44] l).length ≤ 10100 := by
 have := Znc (sep := [44]) h
 simp only [List.length_cons, List.length_nil] at this
 have : l.length * 101 ≤ 100 * 101 := Nat.mul_le_mul_right _ hl
 omega
theorem Zsm {i : Nat} (h : i < 3) : actB[i]? = some (bstr (actN.getD i [])) := by
 unfold actB
 rw [List.getElem?_map]
 match i, h with
 | 0, _ => rfl
 | 1, _ => rfl
 | 2, _ => rfl
theorem ZuM : str1 = bstr (tx "tcp") := by decide +kernel
theorem Zun : Zkw = bstr (tx "from") := by decide +kernel
theorem c_to : Zl5 = bstr (tx "to") := by decide +kernel
theorem Ztm : ByteArray.empty = bstr [] := by decide +kernel
section
variable {W w : World} {Hs : List HP}
theorem Zt7 {β : Type} {g : Nat} {l : List ByteArray} {k : Int} {x : ByteArray} {F : ByteArray → M β} {Q : β → World → Prop} (s : Ss W Hs w) (i : Nat) (e : nth Hs i = some (NmP g l)) (h0 : 0 ≤ k) (hx : l[k.toNat]? = some x) (K : WP (F x) w Q) :
  WP (ld cL ⟨g, 0, none⟩ >>= fun y => idx y.a y.len k 1 >>= fun p => ld cS p >>= F) w Q := by
 obtain ⟨sl, -, s1⟩ := (s.dup e Ro.nmP).openx 0 rfl
 have s1 : Ss W (pts false ⟨g, 0, none⟩ (cL.enc sl) :: rdS cS false sl l :: Hs) w := Ss.split (l := [_, _]) s1
 exact WP.ld (x := sl) s1 0 rfl (o := 0) (by simp [Addr.add]) (At.whole _) (WP.rdx s1 1 rfl ZeY h0 hx rfl K)
theorem ZoP {sl : Sl} {ts : List (List Int)} {sp : List ByteArray} (s : Ss W Hs w) (i : Nat) (e : nth Hs i = some (vec cS sl (ts.map bstr) sp)) (hl : ts.length ≤ 100) (ht : ∀ x ∈ ts, x.length ≤ 100 ∧ Byt x) :
  WP (ZaA sl str0) w (fun y w' => y = bstr (ZkQ [44] ts) ∧ Ss W Hs w') := by
 have hv := s.vec_len (i := i) e
 refine (Zrf s i e ZbO (by omega) (by rw [List.length_map]; exact hl) (fun x hx => ?_) (by decide +kernel)).mono ?_
 ·obtain ⟨y, hy, rfl⟩ := List.mem_map.1 hx
  rw [ZfY]
  exact (ht y hy).1
 ·rintro y w ⟨rfl, s⟩
  rw [Zt8 (fun x hx => (ht x hx).2), show strI str0 = [44] by decide +kernel]
  exact ⟨rfl, s⟩
theorem chkb {β : Type} {a b : List Int} {f : Unit → M β} {Q : β → World → Prop} (ha : a.length ≤ 1000000) (hb : b.length ≤ 1000000) (k : WP (f ()) w Q) : WP (chk ((((bstr a).size + (bstr b).size : Nat) : Int) ≤ 9223372036854775807) >>= f) w Q :=
 WP.chk (by rw [ZfY, ZfY]; omega) k
theorem Zum : Zrw = bstr (tx " port ") := by decide +kernel
theorem c_sp : ZgS = bstr [32] := by decide +kernel
theorem Zuo : str7 = bstr (tx "any") := by decide +kernel
def Zqc (ts : List (List Int)) : List Int := if ts = [] then [] else tx " port " ++ ZkQ [44] ts
theorem Zlu {sl : Sl} {ts : List (List Int)} {sp : List ByteArray} {J : List Int} (s : Ss W Hs w) (i : Nat) (e : nth Hs i = some (vec cS sl (ts.map bstr) sp)) (hl : ts.length ≤ 16) (ht : ∀ x ∈ ts, x.length ≤ 100 ∧ Byt x) (hJ : J.length ≤ 100000) :
  WP (ZaF.K1 sl (bstr J)) w (fun y w' => y = bstr (J ++ Zqc ts) ∧ Ss W Hs w') := by
 unfold ZaF.K1 Zqc
 have hv := (s.vec_len (i := i) e).1
 rw [List.length_map] at hv
 refine WP.ite (fun h => ?_) (fun h => WP.ret ⟨?_, s⟩)
 ·rw [if_neg (fun h' => by rw [h'] at hv; simp only [List.length_nil] at hv; omega)]
  refine WP.step (ZoP s i e (by omega) ht) ?_
  rintro _ w ⟨rfl, s⟩
  have hj := ZlH (l := ts) (by omega) (fun x hx => (ht x hx).1)
  rw [Zum]
  refine chkb (by decide) (by omega) ?_
  rw [catb]
  refine chkb (by omega) (by rw [List.length_append]; have : (tx " port ").length = 6 := rfl; omega) (WP.ret ⟨?_, s⟩)
  rw [catb]
 ·rw [if_pos (List.length_eq_zero_iff.1 (by omega)), List.append_nil]
def netL : List Int := tx "10.0.0.0/8"
def Zqe : List Int := tx "80"
def netX : Zac := ⟨⟨4, ⟨[10, 0, 0, 0, 0, 0, 0, 0, 0, 0, 0, 0, 0, 0, 0, 0], rfl⟩⟩, 8⟩
structure One (m : Zfb) : Prop where
 nets : ∀ p ∈ m.nets, p = netX
 ports : ∀ r ∈ m.ports, r = ⟨80, 80⟩
 n1 : m.nets.length + m.ports.length = 1
 no : m.Not = false
def oneS (nm : List Int) (ns ts : List (List Int)) : List Int := [32] ++ nm ++ [32] ++ (if ns = [] then tx "any" else ZkQ [44] ns) ++ Zqc ts
theorem Zs4 : ∀ k : Nat, ∀ x ∈ List.replicate k netL, x.length ≤ 100 ∧ Byt x := fun k x hx => by
 rw [(List.mem_replicate.1 hx).2]
 exact ⟨by decide, Zns (by decide)⟩
theorem ZrI : ∀ k : Nat, ∀ x ∈ List.replicate k Zqe, x.length ≤ 100 ∧ Byt x := fun k x hx => by
 rw [(List.mem_replicate.1 hx).2]
 exact ⟨by decide, Zns (by decide)⟩
theorem ZrM {a1 : Zap} {nm : List Int} {s2 s18 : Sl} {ns ts : List (List Int)} {sp sp2 : List ByteArray} (s : Ss W Hs w) (hno : a1.Not = false) (i : Nat) (e : nth Hs i = some (vec cS s2 (ns.map bstr) sp)) (j : Nat) (e2 : nth Hs j = some (vec cS s18 (ts.map bstr) sp2))
  (hn : ns.length ≤ 16) (hl : ts.length ≤ 16) (hns : ∀ x ∈ ns, x.length ≤ 100 ∧ Byt x) (ht : ∀ x ∈ ts, x.length ≤ 100 ∧ Byt x) (hnm : nm.length ≤ 10) :
  WP (ZaF.K2 (bstr nm) a1 s2 s18) w (fun y w' => y = bstr (oneS nm ns ts) ∧ Ss W Hs w') := by
 unfold ZaF.K2 oneS
 have hv := (s.vec_len (i := i) e).1
 rw [List.length_map] at hv
 rw [c_sp]
 refine chkb (by decide) (by omega) ?_
 rw [catb]
 refine chkb (by rw [List.length_append]; simp only [List.length_cons, List.length_nil]; omega) (by decide) ?_
 rw [catb]
 have hh : ([32] ++ nm ++ [32]).length ≤ 12 := by simp only [List.length_append, List.length_cons, List.length_nil]; omega
 have hj := ZlH (l := ns) (by omega) (fun x hx => (hns x hx).1)
 refine WP.ite (fun h => ?_) (fun h => ?_)
 ·rw [if_pos (List.length_eq_zero_iff.1 (by omega)), Zuo]
  refine chkb (by omega) (by decide) ?_
  rw [catb]
  exact Zlu s j e2 hl ht (by rw [List.length_append]; have : (tx "any").length = 3 := rfl; omega)
 ·rw [if_neg (show ¬ ns = [] from fun h' => by rw [h'] at hv; simp only [List.length_nil] at hv; omega), hno]
  refine WP.ite (fun h2 => by cases h2) (fun h2 => WP.step (ZoP s i e (by omega) hns) ?_)
  rintro _ w ⟨rfl, s⟩
  refine chkb (by omega) (by omega) ?_
  rw [catb]
  exact Zlu s j e2 hl ht (by rw [List.length_append]; omega)
theorem ZrL {a1 : Zap} {m : Zfb} {nm : List Int} {s2 : Sl} {sp : List ByteArray} {n : Nat} (hn16 : n ≤ 16) (s : Ss W (vec cS s2 ((List.replicate n netL).map bstr) sp :: Hs) w) (r : RdSd Hs a1 m) (ok : One m) (hnm : nm.length ≤ 10) :
  WP (ZaF.K3 (bstr nm) a1 s2) w (fun y w' => y = bstr (oneS nm (List.replicate n netL) (List.replicate m.ports.length Zqe)) ∧ Ss W Hs w') := by
 obtain ⟨hno, hb, ⟨i, A, e, ra⟩, ⟨j, B, e2, rb⟩⟩ := r
 have hp := (s.rd_len (i := j + 1) e2 rb).1
 have h1 := ok.n1
 unfold ZaF.K3
 refine WP.loopG (γ := Nat × List ByteArray) (fun g (p : Sl × Int) w => p.2 = (g.1 : Int) ∧ g.1 ≤ m.ports.length ∧ Ss W (vec cS p.1 ((List.replicate g.1 Zqe).map bstr) g.2 :: vec cS s2 ((List.replicate n netL).map bstr) sp :: Hs) w) (fun g _ => m.ports.length - g.1) (0, []) ⟨rfl, by simp, s.mk0 (A := vec cS Sl.nil [] []) Zch⟩ ?_
 clear s
 rintro ⟨k, sp2⟩ ⟨sl, _⟩ w ⟨rfl, hk, s⟩
 simp only at hk s
 show WP (ZaF.L1 (bstr nm) a1 s2 sl (k : Int)) w _
 unfold ZaF.L1
 refine WP.ite (fun h => ?_) (fun h => ?_)
 ·have hk2 : k < m.ports.length := by omega
  have hx : m.ports[(k : Int).toNat]? = some ⟨80, 80⟩ := by
   rw [Int.toNat_natCast, List.getElem?_eq_getElem hk2, ok.ports _ (List.getElem_mem hk2)]
  refine WP.rdx s (j + 2) e2 rb (by omega) hx rfl (WP.slot' s (fun _ w s => WP.step (Zoh s (n := 80) (by decide)) ?_))
  rintro _ w ⟨rfl, s⟩
  refine WP.ite (fun h => absurd rfl h) (fun h => WP.slot' s (fun _ w s => ?_))
  rw [show dec3 80 = Zqe by decide]
  refine WP.appl s 0 rfl (by simp only [List.length_map, List.length_replicate, List.length_cons, List.length_nil]; omega) (by decide) (fun sl' w sp' s => WP.next ⟨(k + 1, sp'), ⟨?_, by simp only; omega, ?_⟩, by simp only; omega⟩)
  ·rw [Zak (by omega) (by omega)]
   simp
  ·simp only
   rw [List.replicate_succ', List.map_append]
   exact s
 ·have hk2 : k = m.ports.length := by omega
  subst hk2
  refine WP.step (ZrM s (hno.trans ok.no) 1 rfl 0 rfl (by rw [List.length_replicate]; exact hn16) (by rw [List.length_replicate]; omega) (Zs4 _) (ZrI _) hnm) (fun y w h => WP.done ?_)
  exact ⟨h.1, h.2.drop.drop⟩
theorem ZlC {a1 : Zap} {m : Zfb} {nm : List Int} (s : Ss W Hs w) (r : RdSd Hs a1 m) (ok : One m) (hnm : nm.length ≤ 10) :
  WP (ZaF (bstr nm) a1) w (fun y w' => y = bstr (oneS nm (List.replicate m.nets.length netL) (List.replicate m.ports.length Zqe)) ∧ Ss W Hs w') := by
 have r0 := r
 obtain ⟨hno, hb, ⟨i, A, e, ra⟩, ⟨j, B, e2, rb⟩⟩ := r
 have hn := (s.rd_len e ra).1
 have hp := (s.rd_len e2 rb).1
 have h1 := ok.n1
 unfold ZaF
 refine WP.slot' s (fun _ w s => ?_)
 rw [Zak (by omega) (by omega)]
 refine WP.ite (fun h => absurd h (by omega)) (fun h => ?_)
 refine WP.loopG (γ := Nat × List ByteArray) (fun g (p : Sl × Int) w => p.2 = (g.1 : Int) ∧ g.1 ≤ m.nets.length ∧ Ss W (vec cS p.1 ((List.replicate g.1 netL).map bstr) g.2 :: Hs) w) (fun g _ => m.nets.length - g.1) (0, []) ⟨rfl, by simp, s.mk0 (A := vec cS Sl.nil [] []) Zch⟩ ?_
 clear s
 rintro ⟨k, sp⟩ ⟨sl, _⟩ w ⟨rfl, hk, s⟩
 simp only at hk s
 show WP (ZaF.L2 (bstr nm) a1 sl (k : Int)) w _
 unfold ZaF.L2
 refine WP.ite (fun h => ?_) (fun h => ?_)
 ·have hk2 : k < m.nets.length := by omega
  have hx : m.nets[(k : Int).toNat]? = some netX := by
   rw [Int.toNat_natCast, List.getElem?_eq_getElem hk2, ok.nets _ (List.getElem_mem hk2)]
  refine WP.rdx s (i + 1) e ra (by omega) hx rfl (WP.slot' s (fun _ w s => WP.step (Zln s netX rfl (by decide) (Zns (by decide)) (by decide)) ?_))
  rintro _ w ⟨rfl, s⟩
  refine WP.step (R := fun y w' => y = false ∧ w = w') (WP.ite (fun h => absurd h (by decide)) (fun _ => WP.ret ⟨rfl, rfl⟩)) ?_
  rintro _ _ ⟨rfl, rfl⟩
  refine WP.step (R := fun y w' => y = false ∧ w = w') (WP.ite (fun h => by cases h) (fun _ => WP.ret ⟨by decide, rfl⟩)) ?_
  rintro _ _ ⟨rfl, rfl⟩
  refine WP.ite (fun h => by cases h) (fun _ => WP.slot' s (fun _ w s => ?_))
  dsimp only
  rw [show dotM (netX.IP.A.l.take 4) ++ 47 :: dec3 netX.Len.toNat = netL by decide]
  refine WP.appl s 0 rfl (by simp only [List.length_map, List.length_replicate, List.length_cons, List.length_nil]; omega) (by decide) (fun sl' w sp' s => WP.next ⟨(k + 1, sp'), ⟨?_, by simp only; omega, ?_⟩, by simp only; omega⟩)
  ·rw [Zak (by omega) (by omega)]
   simp
  ·simp only
   rw [List.replicate_succ', List.map_append]
   exact s
 ·have hk2 : k = m.nets.length := by omega
  subst hk2
  exact WP.step (ZrL (by omega) s r0 ok hnm) (fun y w h => WP.done h)
theorem Zpm {r : Zaz} (s : Ss W Hs w) (sc : RSc r ZkA) : WP (Zfj r) w (fun y w' => y = bstr (tx " tcp") ∧ Ss W Hs w') := by
 unfold Zfj
 have h3 : r.Kind = 0 := sc.2.2.1
 have h4 : r.Proto = 6 := sc.2.2.2.1
 refine WP.slot' s (fun _ w s => WP.ite (fun h => absurd h (by omega)) (fun _ => ?_))
 rw [h4]
 unfold ZdV
 refine WP.step (R := fun y w' => y = bstr (tx "tcp") ∧ w = w') (WP.ite (fun _ => WP.ret ⟨ZuM, rfl⟩) (fun h => absurd rfl h)) ?_
 rintro _ _ ⟨rfl, rfl⟩
 refine WP.ite (fun _ => ?_) (fun h => absurd (fun h' => ?_) h)
 ·rw [c_sp]
  refine chkb (by decide) (by decide) ?_
  rw [catb, Ztm]
  refine chkb (by decide) (by decide) ?_
  rw [catb]
  exact WP.ret ⟨rfl, s⟩
 ·have := congrArg List.length h'
  rw [show (bstr (tx "tcp")).toList.length = 3 by decide +kernel] at this
  rw [show ByteArray.empty.toList.length = 0 by decide +kernel] at this
  cases this
theorem ZnX {r : Zaz} (s : Ss W Hs w) (rr : RdR Hs r ZkA) (ia : Nat) (ea : nth Hs ia = some (NmP 0 actB)) (fi : Nat) (ef : nth Hs fi = some (NmP 2 Zh3)) :
  WP (Zbn r) w (fun y w' => y = bstr Zmk ∧ Ss W Hs w') := by
 obtain ⟨c1, c2, c3, c4, c5, c6, c7, c8, c9, c10⟩ := rr.sc
 have o1 : One ZkA.From := ⟨fun p hp => List.mem_singleton.1 hp, fun p hp => (by cases hp), rfl, rfl⟩
 have o2 : One ZkA.To := ⟨fun p hp => (by cases hp), fun p hp => List.mem_singleton.1 hp, rfl, rfl⟩
 unfold Zbn
 have e1 : IntKind.wrap .i64 (r.Act - 1) = 0 := by
  rw [c1]
  decide
 rw [e1]
 refine WP.slot' s (fun _ w s => Zt7 s ia ea (by decide) (Zsm (i := 0) (by decide)) (WP.ite (fun h => absurd h (by rw [c2]; decide)) (fun _ => WP.step (Zpm s rr.sc) ?_)))
 rintro _ w ⟨rfl, s⟩
 refine chkb (by decide) (by decide) (WP.ite (fun h => absurd h (by rw [c5]; decide)) (fun _ => WP.ite (fun h => absurd h (by rw [c6]; decide)) (fun _ => WP.draw' s (fun w s => ?_))))
 rw [catb, Zun, c_to]
 refine WP.step (ZlC s rr.from_ o1 (by decide)) ?_
 rintro _ w ⟨rfl, s⟩
 refine WP.step (ZlC s rr.to_ o2 (by decide)) ?_
 rintro _ w ⟨rfl, s⟩
 refine chkb (by decide) (by decide) ?_
 rw [catb]
 refine chkb (by decide) (by decide) ?_
 obtain ⟨sl, -, s1⟩ := (s.dup ef Ro.nmP).openx 0 rfl
 have s1 : Ss W (pts false ⟨2, 0, none⟩ (cL.enc sl) :: rdS cS false sl Zh3 :: Hs) w := Ss.split (l := [_, _]) s1
 refine WP.ld (x := sl) s1 0 rfl (o := 0) (by simp [Addr.add]) (At.whole _) ?_
 have hl := (s1.rd_len (i := 1) rfl ZeY).1
 have h8 : Zh3.length = 8 := rfl
 refine WP.loopG (γ := Nat) (fun k (p : Sl × Int) w => p = (Sl.nil, (k : Int)) ∧ k ≤ 8 ∧ Ss W (pts false ⟨2, 0, none⟩ (cL.enc sl) :: rdS cS false sl Zh3 :: Hs) w) (fun k _ => 8 - k) 0 ⟨rfl, by decide, s1⟩ ?_
 clear s s1
 rintro k _ w ⟨rfl, hk, s⟩
 show WP (Zbn.L1 r _ _ _ _ sl Sl.nil (k : Int)) w _
 unfold Zbn.L1
 have hu : (0 : Int) ≤ IntKind.wrap .u64 (k : Int) := by rw [Zj7 (by omega) (by omega)]; omega
 refine WP.ite (fun h => ?_) (fun h => ?_)
 ·have hk8 : k < Zh3.length := by omega
  have hz : ∀ n : Nat, ¬ (band .i64 (Int.fdiv 0 (2 ^ n)) 1) = 1 := fun n => by
   rw [Int.zero_fdiv]
   decide
  refine WP.rdx s 1 rfl ZeY (by omega) (by rw [Int.toNat_natCast]; exact List.getElem?_eq_getElem hk8) rfl (WP.chk hu (WP.ite (fun h => absurd h ?_) (fun _ => WP.chk hu (WP.ite (fun h => absurd h ?_) (fun _ => WP.next ⟨k + 1, ⟨?_, by omega, s⟩, by omega⟩)))))
  ·rw [show r.Set = 0 from c7]
   exact hz _
  ·rw [show r.Clear = 0 from c8]
   exact hz _
  ·rw [Zak (by omega) (by omega)]
   rfl
 ·refine WP.step (R := fun y w' => y = bstr Zmk ∧ Ss W Hs w') ?_ (fun y w h => WP.done h)
  unfold Zbn.K1
  refine WP.ite (fun h => absurd h (by decide)) (fun _ => WP.ite (fun h => absurd h (by rw [c9]; decide)) (fun _ => WP.ite (fun h => absurd h (by rw [c10]; decide)) (fun _ => WP.ret ⟨?_, s.drop.drop⟩)))
  rw [catb]
  decide +kernel
theorem Zpn {r : Zaz} (s : Ss W Hs w) (rr : RdR Hs r ZkA) (ia : Nat) (ea : nth Hs ia = some (NmP 0 actB)) (fi : Nat) (ef : nth Hs fi = some (NmP 2 Zh3)) :
  WP (Zc8 r) w (fun y w' => y = (bstr Zmk, 0) ∧ Ss W Hs w') := by
 unfold Zc8
 refine WP.slot' s (fun _ w s => WP.step (Zo6 s rr) ?_)
 rintro _ w ⟨rfl, s⟩
 refine WP.ite (fun h => absurd ck_x h) (fun h => WP.step (ZnX s rr ia ea fi ef) ?_)
 rintro _ w ⟨rfl, s⟩
 exact WP.ret ⟨rfl, s⟩
end
structure RTab (L : List HP) : Prop where
 n : ∃ i, nth L i = some TabN
 a : ∃ i, nth L i = some (NmP 0 actB)
 k : ∃ i, nth L i = some (NmP 1 Zmn)
 f : ∃ i, nth L i = some (NmP 2 Zh3)
theorem RTab.push {L : List HP} {A : HP} (h : RTab L) : RTab (A :: L) := by
 obtain ⟨⟨a, ha⟩, ⟨b, hb⟩, ⟨c, hc⟩, ⟨d, hd⟩⟩ := h
 exact ⟨⟨a + 1, ha⟩, ⟨b + 1, hb⟩, ⟨c + 1, hc⟩, ⟨d + 1, hd⟩⟩
def BytR (m : ZbN) : Prop := Byts m.From.nets ∧ Byts m.To.nets
section
variable {W w : World} {Hs : List HP}
theorem ZkI (s : Ss W Hs w) (T : RTab Hs) (t : ByteArray) : WP (Zai t) w (fun r w' => ParR W Hs r w' (ZdI (strI t))) := by
 obtain ⟨⟨a, ha⟩, ⟨b, hb⟩, ⟨c, hc⟩, ⟨d, hd⟩⟩ := T
 exact Znx s b hb c hc d hd t
theorem Zqa {r : Zaz} (s : Ss W Hs w) (T : RTab Hs) (rr : RdR Hs r ZkA) : WP (Zc8 r) w (fun y w' => y = (bstr Zmk, 0) ∧ Ss W Hs w') := by
 obtain ⟨-, ⟨b, hb⟩, -, ⟨d, hd⟩⟩ := T
 exact Zpn s rr b hb d hd
theorem ZkO (n : Int) : WP (Zc4 n) w (fun y w' => y = n ∧ w = w') := WP.ret ⟨rfl, rfl⟩
theorem ZrK {r : Zaz} {m : ZbN} (s : Ss W (Zsq r m :: Hs) w) (hb : BytR m) : ∃ A B C D : HP, Ss W (A :: B :: C :: D :: Hs) w ∧ RdR (A :: B :: C :: D :: Hs) r m := by
 obtain ⟨h, hh⟩ := s.has (i := 0) rfl
 have sc := hh.1
 have s := Ss.split (s.first (B := seps [ZeJ r.From m.From, ZeJ r.To m.To]) (fun h hh => hh.2))
 obtain ⟨q1, n1, s⟩ := s.openx 0 rfl
 have s := Ss.split (l := [vec cPfx r.From.Nets m.From.nets q1.1, vec cRg r.From.Ports m.From.ports q1.2]) s
 obtain ⟨q2, n2, s⟩ := s.openx 2 rfl
 have s := s.use [2] rfl
 have s := Ss.split (l := [vec cPfx r.To.Nets m.To.nets q2.1, vec cRg r.To.Ports m.To.ports q2.2]) s
 exact ⟨_, _, _, _, s, sc, ⟨n1, hb.1, ⟨2, _, rfl, ZbO⟩, ⟨3, _, rfl, ZbO⟩⟩, ⟨n2, hb.2, ⟨0, _, rfl, ZbO⟩, ⟨1, _, rfl, ZbO⟩⟩⟩
theorem Zq3 : BytR ZkA := ⟨fun p hp => by
 rw [List.mem_singleton.1 hp]
 exact Zns (by decide), fun p hp => by cases hp⟩
theorem arr1 {α : Type} {c : Cod α} {x : α} {b : Nat} (s : Ss W (pts true (pt b 0) ((c.arr 1).enc ⟨[x], rfl⟩) :: Hs) w) : Ss W (vec c ⟨some (pt b 0), 1, 1⟩ [x] [] :: Hs) w := by
 refine s.first (fun h hh => ?_)
 rw [Cod.arr_enc] at hh
 exact ZtA (l := [x]) (sp := []) hh
theorem Zs8 (s : Ss W Hs w) : WP Zc5 w (fun r w' => r.1 = bstr Zmk ∧ ∃ A B C D : HP, Ss W (A :: B :: C :: D :: Hs) w' ∧ RdR (A :: B :: C :: D :: Hs) r.2 ZkA) := by
 unfold Zc5
 have e : ZsT = bstr Zmk := by decide +kernel
 rw [e]
 have s := s.mk0 (A := vec cPfx Sl.nil [] []) Zch
 have s := s.mk0 (A := vec cRg Sl.nil [] []) Zch
 have sc : ∀ {f t : Zap}, RSc (⟨1, Zax.Class, Zax.Kind, 6, Zax.In, Zax.Vid, f, t, Zax.Set, Zax.Clear, Zax.Type_, Zax.Pieces⟩ : Zaz) ZkA := ⟨rfl, rfl, rfl, rfl, rfl, rfl, rfl, rfl, rfl, rfl⟩
 refine WP.slot' s (fun _ w s => WP.slot' s (fun _ w s => WP.draws s (fun σ w s => WP.ite (fun _ => ?_) (fun _ => ?_))))
 ·refine WP.newv s (fun b1 w s => ?_)
  have s := arr1 (c := cPfx) (x := netX) s
  refine WP.newv s (fun b2 w s => ?_)
  have s := arr1 (c := cRg) (x := ⟨80, 80⟩) s
  exact WP.ret ⟨rfl, _, _, _, _, s, sc, ⟨rfl, Zq3.1, ⟨1, _, rfl, ZbO⟩, ⟨2, _, rfl, ZbO⟩⟩, ⟨rfl, Zq3.2, ⟨3, _, rfl, ZbO⟩, ⟨0, _, rfl, ZbO⟩⟩⟩
 ·refine WP.newv s (fun b1 w s => ?_)
  have s := arr1 (c := cRg) (x := ⟨80, 80⟩) s
  refine WP.newv s (fun b2 w s => ?_)
  have s := arr1 (c := cPfx) (x := netX) s
  exact WP.ret ⟨rfl, _, _, _, _, s, sc, ⟨rfl, Zq3.1, ⟨0, _, rfl, ZbO⟩, ⟨2, _, rfl, ZbO⟩⟩, ⟨rfl, Zq3.2, ⟨3, _, rfl, ZbO⟩, ⟨1, _, rfl, ZbO⟩⟩⟩
theorem Zq4 : Byt Zmk := Zns (by decide +kernel)
theorem ZpN {β : Type} {p : Prop} [Decidable p] {f : Bool → M β} {Q : β → World → Prop} (hp : p) {X : M Bool} {R : World → Prop} (hX : WP X w (fun y w' => y = true ∧ R w')) (k : ∀ w', R w' → WP (f true) w' Q) : WP ((if p then X else pure false) >>= f) w Q := by
 refine WP.step (R := fun y w' => y = true ∧ R w') (WP.ite (fun _ => hX) (fun h => absurd hp h)) ?_
 rintro _ w ⟨rfl, r⟩
 exact k w r
theorem Zpf (s : Ss W Hs w) (T : RTab Hs) : WP ZcV w (fun y w' => y = true ∧ Ss W Hs w') := by
 unfold ZcV
 refine WP.step (Zs8 s) ?_
 rintro ⟨t, r⟩ w ⟨ht, A, B, C, D, s, rr⟩
 dsimp only at ht rr ⊢
 generalize hbs : bstr Zmk = bs at ht
 subst ht
 have T4 := T.push (A := D) |>.push (A := C) |>.push (A := B) |>.push (A := A)
 refine WP.slot' s (fun _ w s => WP.step (ZkI s T4 t) ?_)
 rintro ⟨q1, q2⟩ w h
 rw [← hbs, Zkv Zq4, Zt1] at h
 obtain ⟨h1, s1⟩ := h
 dsimp only at h1 s1 ⊢
 subst h1
 clear s
 obtain ⟨A', B', C', D', s, rq⟩ := ZrK s1 Zq3
 clear s1
 have T8 := T4.push (A := D') |>.push (A := C') |>.push (A := B') |>.push (A := A')
 have rr8 := rr.push (A := D') |>.push (A := C') |>.push (A := B') |>.push (A := A')
 refine WP.slot' s (fun _ w s => WP.step (Zqa s T8 rr8) ?_)
 rintro _ w ⟨rfl, s⟩
 rw [hbs]
 dsimp only
 refine WP.step (ZkO _) ?_
 rintro _ _ ⟨rfl, rfl⟩
 refine ZpN (R := fun w' => w = w') rfl (WP.ret ⟨rfl, rfl⟩) ?_
 rintro _ rfl
 refine ZpN (R := fun w' => Ss W (A' :: B' :: C' :: D' :: A :: B :: C :: D :: Hs) w') rfl (WP.step (Zog s rq rr8 (by decide)) (fun y w h => WP.ret ⟨h.1.trans (decide_eq_true rfl), h.2⟩)) ?_
 intro w s
 refine ZpN (R := fun w' => w = w') rfl (WP.step (ZkO _) ?_) ?_
 ·rintro _ _ ⟨rfl, rfl⟩
  exact WP.ret ⟨rfl, rfl⟩
 rintro _ rfl
 refine ZpN (R := fun w' => w = w') rfl (WP.ret ⟨beq_self_eq_true _, rfl⟩) ?_
 rintro _ rfl
 refine ZpN (R := fun w' => Ss W (A' :: B' :: C' :: D' :: A :: B :: C :: D :: Hs) w') rfl (WP.step (Zo6 s rr8) ?_) ?_
 ·rintro _ w ⟨rfl, s⟩
  rw [ck_x]
  refine WP.step (ZkO _) ?_
  rintro _ _ ⟨rfl, rfl⟩
  exact WP.ret ⟨rfl, s⟩
 intro w s
 exact WP.ret ⟨rfl, s.drop.drop.drop.drop.drop.drop.drop.drop⟩
end
theorem Zs5 {k : IntKind} {a b : List Int} (h : a.map (fun x => (DataW.lit (.int k x) : DataW Unit)) = b.map fun x => DataW.lit (.int k x)) : a = b := by
 refine (List.map_inj_right (f := fun x => (DataW.lit (.int k x) : DataW Unit)) ?_).1 h
 intro x y e
 cases e
 rfl
theorem Zra {k : IntKind} {n : Nat} {a b : Vec Int n} (h : (DataW.agg (a.l.map (fun x => DataW.lit (.int k x))) : DataW Unit) = DataW.agg (b.l.map fun x => DataW.lit (.int k x))) : a = b := by
 obtain ⟨a, ha⟩ := a
 obtain ⟨b, hb⟩ := b
 have : a = b := Zs5 (DataW.agg.inj h)
 subst this
 rfl
def strD (l : List ByteArray) : DataW Unit := .slice (l.map fun s => .lit (.string s.data.toList)) []
theorem ZrW : (Rows.laid_weir_rules_acts : DataW Unit) = strD actB := by
 unfold Rows.laid_weir_rules_acts strD
 rw [show (actB.map fun s => (DataW.lit (.string s.data.toList) : DataW Unit)) = ([[112, 101, 114, 109, 105, 116], [100, 101, 110, 121], [114, 101, 106, 101, 99, 116]] : List (List UInt8)).map (fun l => .lit (.string l)) from by
  rw [show ([[112, 101, 114, 109, 105, 116], [100, 101, 110, 121], [114, 101, 106, 101, 99, 116]] : List (List UInt8)) = actB.map (fun s => s.data.toList) by decide +kernel, List.map_map]
  rfl]
 rfl
theorem Zqy : (Rows.laid_weir_rules_kinds : DataW Unit) = strD Zmn := by
 unfold Rows.laid_weir_rules_kinds strD
 rw [show (Zmn.map fun s => (DataW.lit (.string s.data.toList) : DataW Unit)) = ([[97, 114, 112], [105, 112, 52], [105, 112, 54]] : List (List UInt8)).map (fun l => .lit (.string l)) from by
  rw [show ([[97, 114, 112], [105, 112, 52], [105, 112, 54]] : List (List UInt8)) = Zmn.map (fun s => s.data.toList) by decide +kernel, List.map_map]
  rfl]
 rfl
theorem Zqz : (Rows.laid_weir_rules_flags : DataW Unit) = strD Zh3 := by
 unfold Rows.laid_weir_rules_flags strD
 rw [show (Zh3.map fun s => (DataW.lit (.string s.data.toList) : DataW Unit)) = ([[102, 105, 110], [115, 121, 110], [114, 115, 116], [112, 115, 104], [97, 99, 107], [117, 114, 103], [101, 99, 101], [99, 119, 114]] : List (List UInt8)).map (fun l => .lit (.string l)) from by
  rw [show ([[102, 105, 110], [115, 121, 110], [114, 115, 116], [112, 115, 104], [97, 99, 107], [117, 114, 103], [101, 99, 101], [99, 119, 114]] : List (List UInt8)) = Zh3.map (fun s => s.data.toList) by decide +kernel, List.map_map]
  rfl]
 rfl
theorem Ss.nm {W : World} {Hs : List HP} {u : Sl} {g : Nat} {l : List ByteArray} (s : Ss W (pts false ⟨g, 0, none⟩ (cL.enc u) :: rdS cS false u l :: Hs) W) : Ss W (NmP g l :: Hs) W :=
 (Ss.group (l := [pts false ⟨g, 0, none⟩ (cL.enc u), rdS cS false u l]) s).first (fun h hh => ⟨u, trivial, hh⟩)
theorem ZuG {W : World} (h : Laid W) : ∃ Hs, Ss W Hs W ∧ RTab Hs := by
 obtain ⟨u0, u1, u2, u3, u4, u5, _, ⟨d1, c1⟩, ⟨d2, c2⟩, ⟨d3, c3⟩, ⟨d4, c4⟩, ⟨d5, c5⟩⟩ := Zs9 h
 obtain rfl : u1 = dbV := Zra (d1.symm.trans (by rfl))
 obtain rfl : u2 = Zqb := Zra (d2.symm.trans (by rfl))
 have s0 : Ss W [] W := Ss.start W
 have s := (s0.tab (by decide) c1).tab (by decide) c2
 have s2 := Ss.group (l := [pts false ⟨4, 0, none⟩ (((cI .u64).arr 20).enc Zqb), pts false ⟨6, 0, none⟩ (((cI .u8).arr 64).enc dbV)]) s
 have s3 : Ss W (TabN :: _) W := s2.first (fun h hh => by
  obtain ⟨h1, h2, _, l1, l2, a, h3, h4, _, l3, _, b, _⟩ := hh
  exact ⟨⟨a.1, fun i x e => l1 _ _ _ (a.2 i x e)⟩, ⟨b.1, fun i x e => l2 _ _ _ (l3 _ _ _ (b.2 i x e))⟩⟩)
 have s4 := (s3.strs d3 Zqy c3).nm
 have s5 := (s4.strs d4 ZrW c4).nm
 have s6 := (s5.strs d5 Zqz c5).nm
 exact ⟨_, s6, ⟨3, rfl⟩, ⟨1, rfl⟩, ⟨2, rfl⟩, ⟨0, rfl⟩⟩
section
variable {α β : Type} {c : Cod α} {W w : World} {R Hs : List HP}
noncomputable def Ztg (c : Cod α) (n : Nat) (me : α) (A : Sl) (i : Int) (D : M (LS Int β)) (k : Int) : M (LS Int β) :=
 idx A.a A.len i 1 >>= fun p => ld cL p >>= fun x => if k < (x.len : Int) then idx A.a A.len i 1 >>= fun p => ld cL p >>= fun y => idx y.a y.len k n >>= fun p => st c p me >>= fun _ => pure (LS.next (IntKind.wrap .i64 (k + 1))) else D
theorem ZqU {n : Nat} {me : α} {A : Sl} {l1 : List Sl} {es : List (Ls α)} {i : Nat} {e : Ls α} {D : M (LS Int β)} {Q : β → World → Prop} (hc : n = c.n) (he : es[i]? = some e) (hel : e.x.length ≤ 1000000) (s : Ss W ([vec cL A (es.map Ls.s) l1, seps (es.map (lsH c))] ++ R) w)
  (hD : ∀ w (I : Int → World → Prop), Ss W ([vec cL A (es.map Ls.s) l1, seps ((es.set i ⟨e.s, List.replicate e.x.length me, e.sp⟩).map (lsH c))] ++ R) w → WP D w (WP.Rd I Q)) : WP (Zci (fun k => Ztg c n me A (i : Int) D k) 0) w Q := by
 obtain ⟨hil, heq⟩ := List.getElem?_eq_some_iff.1 he
 have hsl : (es.map Ls.s)[(i : Int).toNat]? = some e.s := by rw [Int.toNat_natCast, List.getElem?_map, he]; rfl
 refine WP.loopG (γ := Nat × Ls α) (fun g (x : Int) w => x = (g.1 : Int) ∧ g.1 ≤ e.x.length ∧ g.2.s = e.s ∧ g.2.sp = e.sp ∧ g.2.x.length = e.x.length ∧ (∀ q : Nat, q < g.1 → g.2.x[q]? = some me) ∧ Ss W ([vec cL A (es.map Ls.s) l1, seps ((es.set i g.2).map (lsH c))] ++ R) w)
  (fun g _ => e.x.length - g.1) (0, e) ⟨rfl, by omega, rfl, rfl, rfl, fun q h => absurd h (by simp), by rw [← heq, List.set_getElem_self]; exact s⟩ ?_
 clear s
 rintro ⟨k, d⟩ _ w ⟨rfl, hk', hds, hdp, hdl, hq, s⟩
 simp only at hk' hds hdp hdl hq s
 show WP (Ztg c n me A (i : Int) D (k : Int)) w _
 unfold Ztg
 have hd : (es.set i d)[i]? = some d := List.getElem?_set_self hil
 have hdl2 := (s.rd_len (i := 1) rfl (ZrT (P := lsH c) hd ZbO)).1
 rw [hds, hdl] at hdl2
 refine WP.rdx s 0 rfl ZbO (by omega) (x := e.s) hsl rfl (WP.ite (fun h => ?_) (fun h => ?_))
 ·refine WP.rdx s 0 rfl ZbO (by omega) (x := e.s) hsl rfl ?_
  have s := s.out 1 rfl (Zkd (P := lsH c) hd)
  rw [← hds]
  refine WP.stx (l := d.x) (sp := d.sp) (c := c) (x := me) s 0 rfl (by omega) (by omega) hc (fun w s => WP.next ?_)
  rw [Int.toNat_natCast] at s
  have s : Ss W (lsH c ⟨d.s, d.x.set k me, d.sp⟩ :: (up ([vec cL A (es.map Ls.s) l1, seps ((es.set i d).map (lsH c))] ++ R) 1 (seps (wo ((es.set i d).map (lsH c)) i)))) w := s
  have s := Ss.back (B := lsH c ⟨d.s, d.x.set k me, d.sp⟩) s 1 rfl (Zkd (P := lsH c) hd)
  rw [Zqv (by rw [List.length_set]; exact hil), List.set_set] at s
  refine ⟨(k + 1, ⟨d.s, d.x.set k me, d.sp⟩), ⟨by rw [Zak (by omega) (by omega)]; simp, by simp only; omega, rfl, hdp, by simp only [List.length_set]; exact hdl, fun q hq' => ?_, s⟩, by simp only; omega⟩
  show (d.x.set k me)[q]? = some me
  by_cases eq : q = k
  ·subst eq
   exact List.getElem?_set_self (by omega)
  ·rw [List.getElem?_set_ne (fun h => eq h.symm)]
   exact hq q (by simp only at hq'; omega)
 ·obtain ⟨ds, dx, dp⟩ := d
  simp only at hds hdp hdl hq s
  subst hds
  subst hdp
  have : dx = List.replicate e.x.length me := ZuL hdl (fun q hq' => hq q (by omega))
  subst this
  exact hD w _ s
theorem AllM.put {me : Int → α} {i : Nat} {es : List (Ls α)} {e : Ls α} (h : AllM me i es) (he : es[i]? = some e) : AllM me (i + 1) (es.set i ⟨e.s, List.replicate e.x.length (me i), e.sp⟩) := by
 have hil := (List.getElem?_eq_some_iff.1 he).1
 intro j y hj
 by_cases ej : j = i
 ·subst ej
  rw [List.getElem?_set_self hil] at hj
  cases hj
  exact ⟨by simp only [List.length_replicate]; exact (h j e he).1, fun _ => by simp⟩
 ·rw [List.getElem?_set_ne (fun h => ej h.symm)] at hj
  obtain ⟨z1, z2⟩ := h j y hj
  exact ⟨z1, fun h => z2 (by omega)⟩
theorem ZtY {es : List (Ls α)} {i : Nat} {e d : Ls α} (he : es[i]? = some e) (hd : d.s = e.s) : (es.set i d).map Ls.s = es.map Ls.s := by
 rw [List.map_set]
 refine ZtZ ?_
 rw [List.getElem?_map, he, hd]
 rfl
def twoL (a q : Nat) (p r : α) : List α := List.replicate a p ++ List.replicate q r
theorem ZpW {a q k : Nat} {p r : α} (h : k < a + q) : (twoL a q p r)[k]? = some (if k < a then p else r) := by
 unfold twoL
 by_cases hk : k < a
 ·rw [if_pos hk, List.getElem?_append_left (by simpa using hk)]
  exact List.getElem?_replicate.trans (if_pos hk)
 ·rw [if_neg hk, List.getElem?_append_right (by simpa using hk)]
  exact List.getElem?_replicate.trans (if_pos (by simp only [List.length_replicate]; omega))
theorem ZkR {A : HP} {x : Sl} {a q : Nat} {p r : Zac} {a2 a3 : Int} (s : Ss W Hs w) (j : Nat) (e : nth Hs j = some A) (rb : Rdb A cPfx x (twoL a q p r)) (ha : a + q ≤ 1000000000) (hp : p.Len = a2) (hr : q = 0 ∨ r.Len = a3) : WP (Za5 x (a : Int) a2 a3) w (fun y w' => y = true ∧ w = w') := by
 unfold Za5
 have hl := (s.rd_len e rb).1
 have htl : (twoL a q p r).length = a + q := by simp [twoL]
 rw [htl] at hl
 refine WP.loopG (γ := Nat) (fun k (x : Int) w' => x = (k : Int) ∧ k ≤ a + q ∧ w = w') (fun k _ => a + q - k) 0 ⟨rfl, Nat.zero_le _, rfl⟩ ?_
 rintro k _ _ ⟨rfl, hk, rfl⟩
 show WP (Za5.L1 x (a : Int) a2 a3 (k : Int)) w _
 unfold Za5.L1
 refine WP.ite (fun h => ?_) (fun h => WP.done ⟨rfl, rfl⟩)
 have hk2 : k < a + q := by omega
 have hx : (twoL a q p r)[(k : Int).toNat]? = some (if k < a then p else r) := by rw [Int.toNat_natCast]; exact ZpW hk2
 refine WP.step (R := fun y w' => y = false ∧ w = w') (WP.ite (fun h2 => WP.rdxp s j e rb (by omega) hx rfl (Zb2 _) (WP.ret ⟨?_, rfl⟩)) (fun _ => WP.ret ⟨rfl, rfl⟩)) ?_
 ·rw [if_pos (by omega), hp]
  simp
 rintro _ _ ⟨rfl, rfl⟩
 refine WP.step (R := fun y w' => y = false ∧ w = w') (WP.ite (fun h => by cases h) (fun _ => ?_)) ?_
 ·refine WP.step (R := fun y w' => y = false ∧ w = w') (WP.ite (fun h2 => WP.rdxp s j e rb (by omega) hx rfl (Zb2 _) (WP.ret ⟨?_, rfl⟩)) (fun _ => WP.ret ⟨rfl, rfl⟩)) (fun y w h => WP.ret h)
  rw [if_neg (by omega), hr.elim (fun h => by omega) id]
  simp
 rintro _ _ ⟨rfl, rfl⟩
 exact WP.ite (fun h => by cases h) (fun _ => WP.next ⟨k + 1, ⟨by rw [Zak (by omega) (by omega)]; simp, by omega, rfl⟩, by omega⟩)
theorem ZjN {A : HP} {x : Sl} {a q : Nat} {p r : ZaD} {a2 a3 : Int} (s : Ss W Hs w) (j : Nat) (e : nth Hs j = some A) (rb : Rdb A cRg x (twoL a q p r)) (ha : a + q ≤ 1000000000) (hp : p.Lo = a2) (hr : q = 0 ∨ r.Lo = a3) : WP (Za0 x (a : Int) a2 a3) w (fun y w' => y = true ∧ w = w') := by
 unfold Za0
 have hl := (s.rd_len e rb).1
 have htl : (twoL a q p r).length = a + q := by simp [twoL]
 rw [htl] at hl
 refine WP.loopG (γ := Nat) (fun k (x : Int) w' => x = (k : Int) ∧ k ≤ a + q ∧ w = w') (fun k _ => a + q - k) 0 ⟨rfl, Nat.zero_le _, rfl⟩ ?_
 rintro k _ _ ⟨rfl, hk, rfl⟩
 show WP (Za0.L1 x (a : Int) a2 a3 (k : Int)) w _
 unfold Za0.L1
 refine WP.ite (fun h => ?_) (fun h => WP.done ⟨rfl, rfl⟩)
 have hk2 : k < a + q := by omega
 have hx : (twoL a q p r)[(k : Int).toNat]? = some (if k < a then p else r) := by rw [Int.toNat_natCast]; exact ZpW hk2
 refine WP.step (R := fun y w' => y = false ∧ w = w') (WP.ite (fun h2 => WP.rdxp0 s j e rb (by omega) hx rfl (Zda _) (WP.ret ⟨?_, rfl⟩)) (fun _ => WP.ret ⟨rfl, rfl⟩)) ?_
 ·rw [if_pos (by omega), hp]
  simp
 rintro _ _ ⟨rfl, rfl⟩
 refine WP.step (R := fun y w' => y = false ∧ w = w') (WP.ite (fun h => by cases h) (fun _ => ?_)) ?_
 ·refine WP.step (R := fun y w' => y = false ∧ w = w') (WP.ite (fun h2 => WP.rdxp0 s j e rb (by omega) hx rfl (Zda _) (WP.ret ⟨?_, rfl⟩)) (fun _ => WP.ret ⟨rfl, rfl⟩)) (fun y w h => WP.ret h)
  rw [if_neg (by omega), hr.elim (fun h => by omega) id]
  simp
 rintro _ _ ⟨rfl, rfl⟩
 exact WP.ite (fun h => by cases h) (fun _ => WP.next ⟨k + 1, ⟨by rw [Zak (by omega) (by omega)]; simp, by omega, rfl⟩, by omega⟩)
end
def meN (i : Int) : Zac := ⟨ZaU.IP, IntKind.wrap .i64 ((-1000) - i)⟩
def meP (i : Int) : ZaD := ⟨IntKind.wrap .i64 ((-1000) - i), Zcv.Hi⟩
def moN (i : Int) : Zac := ⟨ZaU.IP, IntKind.wrap .i64 ((-5000) - i)⟩
def moP (i : Int) : ZaD := ⟨IntKind.wrap .i64 ((-5000) - i), Zcv.Hi⟩
abbrev WrHs (A P : Sl) (l1 l2 : List Sl) (es : List (Ls Zac)) (ps : List (Ls ZaD)) : List HP := [vec cL A (es.map Ls.s) l1, seps (es.map (lsH cPfx)), vec cL P (ps.map Ls.s) l2, seps (ps.map (lsH cRg))]
abbrev DnHs (V Z A P : Sl) (gsp hsp l1 l2 : List Sl) (zg zs : List (Sl × List Zac)) (zh zp : List (Sl × List ZaD)) : List HP := [vec cL V (zg.map (·.1)) gsp, Held cPfx zg, vec cL Z (zh.map (·.1)) hsp, Held cRg zh, vec cL A (zs.map (·.1)) l1, Held cPfx zs, vec cL P (zp.map (·.1)) l2, Held cRg zp]
abbrev GwHs (V Z A P : Sl) (gsp hsp ls lp l1 l2 : List Sl) (es : List (Ls Zac)) (ps : List (Ls ZaD)) (i : Nat) (zg : List (Sl × List Zac)) (zh : List (Sl × List ZaD)) : List HP := [vec cL V (zg.map (·.1)) gsp, Held cPfx zg, vec cL Z (zh.map (·.1)) hsp, Held cRg zh, vec cL A ls l1, Held cPfx ((es.take i).map lsZ), vec cL P lp l2, Held cRg ((ps.take i).map lsZ), seps ((es.drop i).map (lsH cPfx)), seps ((ps.drop i).map (lsH cRg))]
def Long {α : Type} (mo : Int → α) (es : List (Ls α)) (zg : List (Sl × List α)) : Prop := ∀ (j : Nat) g, zg[j]? = some g → ∃ e, es[j]? = some e ∧ g.2 = e.x ++ List.replicate 70 (mo j)
theorem Long.snoc {α : Type} {mo : Int → α} {es : List (Ls α)} {zg : List (Sl × List α)} {e : Ls α} {g : Sl} (h : Long mo es zg) (he : es[zg.length]? = some e) : Long mo es (zg ++ [(g, e.x ++ List.replicate 70 (mo (zg.length : Nat)))]) := by
 intro j p hp
 by_cases hj : j < zg.length
 ·rw [List.getElem?_append_left hj] at hp
  exact h j p hp
 ·have hj2 := (List.getElem?_eq_some_iff.1 hp).1
  simp only [List.length_append, List.length_singleton] at hj2
  have : j = zg.length := by omega
  subst this
  rw [List.getElem?_append_right (Nat.le_refl _), Nat.sub_self] at hp
  cases hp
  exact ⟨e, he, rfl⟩
theorem ZqZ {α : Type} {l : List α} {i : Nat} {e : α} (he : l[i]? = some e) : l.drop i = e :: l.drop (i + 1) := by
 obtain ⟨h, rfl⟩ := List.getElem?_eq_some_iff.1 he
 exact List.drop_eq_getElem_cons h
theorem Zks {α : Type} {es : List (Ls α)} {i : Nat} {e : Ls α} (he : es[i]? = some e) : (es.take i).map lsZ ++ [lsZ e] = (es.take (i + 1)).map lsZ := by
 rw [List.take_add_one, he]
 simp
section
variable {W w : World} {R : List HP}
theorem Zui {α : Type} {c : Cod α} {z1 z2 : List (Sl × List α)} {p g : Sl × List α} (s : Ss W (Held c [p, g] :: Held c z1 :: Held c z2 :: R) w) : Ss W (Held c (z1 ++ [g]) :: Held c (z2 ++ [p]) :: R) w := by
 have s := s.dup (i := 0) rfl Ro.held
 have s := Held.less (y := [p]) s (fun q hq => by
  rw [List.mem_singleton] at hq
  subst hq
  exact List.mem_cons_self ..)
 have s := Held.less (y := [g]) (s.use [1] (s := [_]) (r := _ :: _ :: _ :: R) rfl) (fun q hq => List.mem_cons_of_mem _ hq)
 have s : Ss W (Held c z1 :: Held c [g] :: (Held c [p] :: Held c z2 :: R)) w := s.use [2] rfl
 have s := Held.app s
 have s : Ss W (Held c z2 :: Held c [p] :: (Held c (z1 ++ [g]) :: R)) w := s.use [2, 1] rfl
 have s := Held.app s
 exact s.use [1] (s := [_]) (r := _ :: R) rfl
variable {r1 : Zaw} {V Z : Sl} {gsp hsp l1 l2 : List Sl}
theorem Zqu {es : List (Ls Zac)} {ps : List (Ls ZaD)} {zg : List (Sl × List Zac)} {zh : List (Sl × List ZaD)} (e1 : es.length = 2) (e2 : ps.length = 2) (g1 : zg.length = 2) (g2 : zh.length = 2) (hm : AllM meN 2 es) (hp : AllM meP 2 ps) (hg : Long moN es zg) (hh : Long moP ps zh)
  (s : Ss W (DnHs V Z r1.nets r1.ports gsp hsp l1 l2 zg (es.map lsZ) zh (ps.map lsZ) ++ R) w) : WP (Zaa.K1 r1 V Z) w (fun y w' => y = true ∧ Ss W R w') := by
 unfold Zaa.K1
 refine WP.loopG (γ := Nat) (fun i (x : Int) w => x = (i : Int) ∧ i ≤ 2 ∧ Ss W (DnHs V Z r1.nets r1.ports gsp hsp l1 l2 zg (es.map lsZ) zh (ps.map lsZ) ++ R) w) (fun i _ => 2 - i) 0 ⟨rfl, by omega, s⟩ ?_
 clear s
 rintro i _ w ⟨rfl, hi, s⟩
 show WP (Zaa.L1 r1 V Z (i : Int)) w _
 unfold Zaa.L1
 have hA := (s.vec_len (i := 4) rfl).1
 rw [List.length_map, List.length_map, e1] at hA
 refine WP.ite (fun h => WP.draw' s (fun w s => ?_)) (fun h => WP.done ⟨rfl, s.weak (l := [_, _, _, _, _, _, _, _])⟩)
 have hi2 : i < 2 := by omega
 obtain ⟨e, he⟩ : ∃ e, es[i]? = some e := ⟨_, List.getElem?_eq_getElem (by omega)⟩
 obtain ⟨d, hd⟩ : ∃ e, ps[i]? = some e := ⟨_, List.getElem?_eq_getElem (by omega)⟩
 obtain ⟨g, hg'⟩ : ∃ e, zg[i]? = some e := ⟨_, List.getElem?_eq_getElem (by omega)⟩
 obtain ⟨k, hk'⟩ : ∃ e, zh[i]? = some e := ⟨_, List.getElem?_eq_getElem (by omega)⟩
 obtain ⟨q1, q2⟩ := hm i e he
 have q2 := q2 hi2
 obtain ⟨p1, p2⟩ := hp i d hd
 have p2 := p2 hi2
 obtain ⟨e', he', gx⟩ := hg i g hg'
 rw [he] at he'
 cases he'
 obtain ⟨d', hd', kx⟩ := hh i k hk'
 rw [hd] at hd'
 cases hd'
 generalize ha : e.x.length = a at q1 q2
 generalize hb : d.x.length = b at p1 p2
 have z1 : e.x = twoL a 0 (meN i) (meN i) := by rw [q2]; simp [twoL]
 have z2 : d.x = twoL b 0 (meP i) (meP i) := by rw [p2]; simp [twoL]
 have z3 : g.2 = twoL a 70 (meN i) (moN i) := by rw [gx, q2]; rfl
 have z4 : k.2 = twoL b 70 (meP i) (moP i) := by rw [kx, p2]; rfl
 have re : Rdb (Held cPfx (es.map lsZ)) cPfx e.s (twoL a 0 (meN i) (meN i)) := by
  rw [← z1]
  exact Held.rdb (p := lsZ e) (List.mem_of_getElem? (i := i) (by rw [List.getElem?_map, he]; rfl))
 have rd : Rdb (Held cRg (ps.map lsZ)) cRg d.s (twoL b 0 (meP i) (meP i)) := by
  rw [← z2]
  exact Held.rdb (p := lsZ d) (List.mem_of_getElem? (i := i) (by rw [List.getElem?_map, hd]; rfl))
 have rg : Rdb (Held cPfx zg) cPfx g.1 (twoL a 70 (meN i) (moN i)) := by
  rw [← z3]
  exact Held.rdb (List.mem_of_getElem? hg')
 have rk : Rdb (Held cRg zh) cRg k.1 (twoL b 70 (meP i) (moP i)) := by
  rw [← z4]
  exact Held.rdb (List.mem_of_getElem? hk')
 have x1 : ((es.map lsZ).map (·.1))[(i : Int).toNat]? = some e.s := by rw [Int.toNat_natCast, List.getElem?_map, List.getElem?_map, he]; rfl
 have x2 : ((ps.map lsZ).map (·.1))[(i : Int).toNat]? = some d.s := by rw [Int.toNat_natCast, List.getElem?_map, List.getElem?_map, hd]; rfl
 have x3 : (zg.map (·.1))[(i : Int).toNat]? = some g.1 := by rw [Int.toNat_natCast, List.getElem?_map, hg']; rfl
 have x4 : (zh.map (·.1))[(i : Int).toNat]? = some k.1 := by rw [Int.toNat_natCast, List.getElem?_map, hk']; rfl
 have le : e.s.len = a := by
  have := (s.rd_len (i := 5) rfl re).1
  rw [this]
  simp [twoL]
 have ld : d.s.len = b := by
  have := (s.rd_len (i := 7) rfl rd).1
  rw [this]
  simp [twoL]
 have h0 : (0 : Int) ≤ (i : Int) := by omega
 refine WP.rdx s 4 rfl ZbO h0 x1 rfl (WP.rdx s 4 rfl ZbO h0 x1 rfl ?_)
 rw [le]
 refine WP.step (ZkR s 5 rfl re (by omega) rfl (.inl rfl)) ?_
 rintro _ _ ⟨rfl, rfl⟩
 refine WP.step (R := fun y w' => y = false ∧ w = w') (WP.ite (fun h => absurd rfl h) (fun _ => WP.rdx s 0 rfl ZbO h0 x3 rfl (WP.rdx s 4 rfl ZbO h0 x1 rfl ?_))) ?_
 ·rw [le]
  refine WP.step (ZkR s 1 rfl rg (by omega) rfl (.inr rfl)) ?_
  rintro _ _ ⟨rfl, rfl⟩
  exact WP.ret ⟨rfl, rfl⟩
 rintro _ _ ⟨rfl, rfl⟩
 refine WP.ite (fun h => by cases h) (fun _ => WP.draw' s (fun w s => ?_))
 refine WP.rdx s 6 rfl ZbO h0 x2 rfl (WP.rdx s 6 rfl ZbO h0 x2 rfl ?_)
 rw [ld]
 refine WP.step (ZjN s 7 rfl rd (by omega) rfl (.inl rfl)) ?_
 rintro _ _ ⟨rfl, rfl⟩
 refine WP.step (R := fun y w' => y = false ∧ w = w') (WP.ite (fun h => absurd rfl h) (fun _ => WP.rdx s 2 rfl ZbO h0 x4 rfl (WP.rdx s 6 rfl ZbO h0 x2 rfl ?_))) ?_
 ·rw [ld]
  refine WP.step (ZjN s 3 rfl rk (by omega) rfl (.inr rfl)) ?_
  rintro _ _ ⟨rfl, rfl⟩
  exact WP.ret ⟨rfl, rfl⟩
 rintro _ _ ⟨rfl, rfl⟩
 exact WP.ite (fun h => by cases h) (fun _ => WP.next ⟨i + 1, ⟨by rw [Zak (by omega) (by omega)]; simp, by omega, s⟩, by omega⟩)
theorem Zqt {u : Sl} {x : Zaz} {es : List (Ls Zac)} {ps : List (Ls ZaD)} {zg : List (Sl × List Zac)} {zh : List (Sl × List ZaD)} (e1 : es.length = 2) (e2 : ps.length = 2) (g1 : zg.length = 2) (g2 : zh.length = 2) (hm : AllM meN 2 es) (hp : AllM meP 2 ps) (hg : Long moN es zg) (hh : Long moP ps zh)
  (s : Ss W (DnHs V Z r1.nets r1.ports gsp hsp l1 l2 zg (es.map lsZ) zh (ps.map lsZ) ++ (vec Zaj u [x] [] :: R)) w) : WP (Zaa.K2 u r1 V Z) w (fun y w' => y = true ∧ Ss W R w') := by
 unfold Zaa.K2
 refine WP.loopG (γ := Nat × List Zaz) (fun g (x : Int) w => x = (g.1 : Int) ∧ g.1 ≤ 1 ∧ g.2.length = 1 ∧ Ss W (DnHs V Z r1.nets r1.ports gsp hsp l1 l2 zg (es.map lsZ) zh (ps.map lsZ) ++ (vec Zaj u g.2 [] :: R)) w) (fun g _ => 1 - g.1) (0, [x]) ⟨rfl, by omega, rfl, s⟩ ?_
 clear s
 rintro ⟨i, L⟩ _ w ⟨rfl, hi, hL, s⟩
 simp only at hi hL s
 show WP (Zaa.L2 u r1 V Z (i : Int)) w _
 unfold Zaa.L2
 have hA := (s.vec_len (i := 8) rfl).1
 rw [hL] at hA
 refine WP.ite (fun h => ?_) (fun h => WP.step (Zqu e1 e2 g1 g2 hm hp hg hh s) (fun y w h => WP.done ⟨h.1, h.2.drop⟩))
 refine WP.stx s 8 rfl (by omega) (by omega) rfl (fun w s => WP.next ⟨(i + 1, _), ⟨by rw [Zak (by omega) (by omega)]; simp, by simp only; omega, ?_, s⟩, by simp only; omega⟩)
 simp only [List.length_set]
 exact hL
theorem Zqs {u : Sl} {x : Zaz} {es : List (Ls Zac)} {ps : List (Ls ZaD)} (e1 : es.length = 2) (e2 : ps.length = 2) (hm : AllM meN 2 es) (hp : AllM meP 2 ps)
  (s : Ss W (WrHs r1.nets r1.ports l1 l2 es ps ++ (vec Zaj u [x] [] :: R)) w) : WP (Zaa.K4 u r1) w (fun y w' => y = true ∧ Ss W R w') := by
 unfold Zaa.K4
 have s : Ss W (GwHs Sl.nil Sl.nil r1.nets r1.ports [] [] (es.map Ls.s) (ps.map Ls.s) l1 l2 es ps 0 [] [] ++ (vec Zaj u [x] [] :: R)) w := by
  have s := s.mk0 (A := Held cRg ((ps.take 0).map lsZ)) (by intro p hp; cases hp)
  have s := s.mk0 (A := Held cPfx ((es.take 0).map lsZ)) (by intro p hp; cases hp)
  have s := s.mk0 (A := Held cRg []) (by intro p hp; cases hp)
  have s := s.mk0 (A := vec cL Sl.nil [] []) Zch
  have s := s.mk0 (A := Held cPfx []) (by intro p hp; cases hp)
  have s := s.mk0 (A := vec cL Sl.nil [] []) Zch
  -- V zg Z zh ses sps A es P ps
  have s := s.use [0, 0, 0, 0, 2, 0, 2, 0, 0] rfl
  exact s
 refine WP.loopG (γ := Nat × (List Sl × List Sl) × List (Sl × List Zac) × List (Sl × List ZaD)) (fun g (y : Sl × Sl × Int) w => y.2.2 = (g.1 : Int) ∧ g.1 ≤ 2 ∧ g.2.2.1.length = g.1 ∧ g.2.2.2.length = g.1 ∧ Long moN es g.2.2.1 ∧ Long moP ps g.2.2.2 ∧ Ss W (GwHs y.1 y.2.1 r1.nets r1.ports g.2.1.1 g.2.1.2 (es.map Ls.s) (ps.map Ls.s) l1 l2 es ps g.1 g.2.2.1 g.2.2.2 ++ (vec Zaj u [x] [] :: R)) w) (fun g _ => 2 - g.1) (0, ([], []), [], []) ⟨rfl, by omega, rfl, rfl, fun j p hj => by simp at hj, fun j p hj => by simp at hj, s⟩ ?_
 clear s
 rintro ⟨i, ⟨gsp, hsp⟩, zg, zh⟩ ⟨V, Z, _⟩ w ⟨rfl, hi, hg1, hg2, hlg, hlh, s⟩
 simp only at hi hg1 hg2 hlg hlh s
 show WP (Zaa.L3 u r1 V Z (i : Int)) w _
 unfold Zaa.L3
 have hA := (s.vec_len (i := 4) rfl).1
 rw [List.length_map, e1] at hA
 refine WP.ite (fun h => ?_) (fun h => ?_)
 rotate_left
 ·have hi2 : i = 2 := by omega
  subst hi2
  unfold GwHs at s
  rw [List.take_of_length_le (show es.length ≤ 2 by omega), List.take_of_length_le (show ps.length ≤ 2 by omega)] at s
  have s : Ss W (DnHs V Z r1.nets r1.ports gsp hsp l1 l2 zg (es.map lsZ) zh (ps.map lsZ) ++ (vec Zaj u [x] [] :: R)) w := by
   unfold DnHs
   rw [List.map_map, List.map_map]
   exact ((s.use [8] rfl).drop.use [8] rfl).drop
  exact WP.step (Zqt e1 e2 hg1 hg2 hm hp hlg hlh s) (fun y w h => WP.done h)
 have hlt : i < 2 := by omega
 obtain ⟨e, he⟩ : ∃ e, es[i]? = some e := ⟨_, List.getElem?_eq_getElem (by omega)⟩
 obtain ⟨d, hd⟩ : ∃ e, ps[i]? = some e := ⟨_, List.getElem?_eq_getElem (by omega)⟩
 have x1 : (es.map Ls.s)[(i : Int).toNat]? = some e.s := by rw [Int.toNat_natCast, List.getElem?_map, he]; rfl
 have x2 : (ps.map Ls.s)[(i : Int).toNat]? = some d.s := by rw [Int.toNat_natCast, List.getElem?_map, hd]; rfl
 have q1 := (hm i e he).1
 have q2 := (hp i d hd).1
 refine WP.rdx s 4 rfl ZbO (by omega) x1 rfl (WP.rdx s 6 rfl ZbO (by omega) x2 rfl ?_)
 unfold GwHs at s
 rw [ZqZ he, ZqZ hd] at s
 have s := s.out 8 rfl (j := 0) (A := lsH cPfx e) rfl
 have s := s.out 10 rfl (j := 0) (A := lsH cRg d) rfl
 have s : Ss W (vec cRg d.s d.x d.sp :: vec cPfx e.s e.x e.sp :: (vec cL V (zg.map (·.1)) gsp :: Held cPfx zg :: vec cL Z (zh.map (·.1)) hsp :: Held cRg zh :: vec cL r1.nets (es.map Ls.s) l1 :: Held cPfx ((es.take i).map lsZ) :: vec cL r1.ports (ps.map Ls.s) l2 :: Held cRg ((ps.take i).map lsZ) :: seps ((es.drop (i + 1)).map (lsH cPfx)) :: seps ((ps.drop (i + 1)).map (lsH cRg)) :: vec Zaj u [x] [] :: R)) w := s
 have s := ZlJ s (moP (i : Int))
 have s := ZlJ (s.use [1] (s := [_]) (r := _ :: _ :: _ :: _ :: _ :: _ :: _ :: _ :: _ :: _ :: _ :: _ :: R) rfl) (moN (i : Int))
 refine WP.loopG (γ := Nat) (fun q (y : Sl × Sl × Int) w => y.2.2 = (q : Int) ∧ q ≤ 70 ∧ Ss W (Zid cPfx e.s e.x y.1 (moN (i : Int)) q :: Zid cRg d.s d.x y.2.1 (moP (i : Int)) q :: (vec cL V (zg.map (·.1)) gsp :: Held cPfx zg :: vec cL Z (zh.map (·.1)) hsp :: Held cRg zh :: vec cL r1.nets (es.map Ls.s) l1 :: Held cPfx ((es.take i).map lsZ) :: vec cL r1.ports (ps.map Ls.s) l2 :: Held cRg ((ps.take i).map lsZ) :: seps ((es.drop (i + 1)).map (lsH cPfx)) :: seps ((ps.drop (i + 1)).map (lsH cRg)) :: vec Zaj u [x] [] :: R)) w) (fun q _ => 70 - q) 0 ⟨rfl, by omega, s⟩ ?_
 clear s
 rintro q ⟨g, k, _⟩ w ⟨rfl, hq, s⟩
 simp only at hq s
 show WP (Zaa.L4 V Z (i : Int) g k (q : Int)) w _
 unfold Zaa.L4
 refine WP.ite (fun h => WP.slot' s (fun _ w s => Znh s (by omega) (by decide) (by decide) (fun r w s => ?_))) (fun h => ?_)
 ·have s : Ss W (Zid cRg d.s d.x k (moP (i : Int)) q :: Zid cPfx e.s e.x r (moN (i : Int)) (q + 1) :: (vec cL V (zg.map (·.1)) gsp :: Held cPfx zg :: vec cL Z (zh.map (·.1)) hsp :: Held cRg zh :: vec cL r1.nets (es.map Ls.s) l1 :: Held cPfx ((es.take i).map lsZ) :: vec cL r1.ports (ps.map Ls.s) l2 :: Held cRg ((ps.take i).map lsZ) :: seps ((es.drop (i + 1)).map (lsH cPfx)) :: seps ((ps.drop (i + 1)).map (lsH cRg)) :: vec Zaj u [x] [] :: R)) w := s.use [1] rfl
  refine WP.slot' s (fun _ w s => Znh s (by omega) (by decide) (by decide) (fun r2 w s => WP.next ⟨q + 1, ⟨by simp only; rw [Zak (by omega) (by omega)]; simp, by omega, ?_⟩, by omega⟩))
  have s := s.use [1] rfl
  exact s
 have hq70 : q = 70 := by omega
 subst hq70
 refine WP.step ?_ (fun y w h => WP.done h)
 unfold Zaa.K3
 refine WP.slot' s (fun _ w s => WP.appl s 2 rfl (by simp only [List.length_singleton, List.length_map]; omega) (by decide) (fun V' w gsp' s => ?_))
 refine WP.slot' s (fun _ w s => WP.appl s 4 rfl (by simp only [List.length_singleton, List.length_map]; omega) (by decide) (fun Z' w hsp' s => WP.ret ?_))
 have s : Ss W (Zid cPfx e.s e.x g (moN (i : Int)) 70 :: Zid cRg d.s d.x k (moP (i : Int)) 70 :: (vec cL V' (zg.map (·.1) ++ [g]) gsp' :: Held cPfx zg :: vec cL Z' (zh.map (·.1) ++ [k]) hsp' :: Held cRg zh :: vec cL r1.nets (es.map Ls.s) l1 :: Held cPfx ((es.take i).map lsZ) :: vec cL r1.ports (ps.map Ls.s) l2 :: Held cRg ((ps.take i).map lsZ) :: seps ((es.drop (i + 1)).map (lsH cPfx)) :: seps ((ps.drop (i + 1)).map (lsH cRg)) :: vec Zaj u [x] [] :: R)) w := s
 have s := ZoT s
 have s := ZoT (s.use [1] (s := [_]) (r := _ :: _ :: _ :: _ :: _ :: _ :: _ :: _ :: _ :: _ :: _ :: _ :: R) rfl)
 have s := Zui (s.use [1, 2, 5] (s := [_, _, _]) (r := _ :: _ :: _ :: _ :: _ :: _ :: _ :: _ :: _ :: _ :: R) rfl)
 have s := Zui (s.use [2, 4, 6] (s := [_, _, _]) (r := _ :: _ :: _ :: _ :: _ :: _ :: _ :: _ :: _ :: R) rfl)
 have s := s.use [4, 2, 3, 0, 2, 1, 1] rfl
 have f1 := Zks he
 have f2 := Zks hd
 rw [← hg1] at he
 rw [← hg2] at hd
 have k1 := hlg.snoc (g := g) he
 have k2 := hlh.snoc (g := k) hd
 rw [hg1] at k1
 rw [hg2] at k2
 refine ⟨(i + 1, (gsp', hsp'), zg ++ [(g, e.x ++ List.replicate 70 (moN (i : Int)))], zh ++ [(k, d.x ++ List.replicate 70 (moP (i : Int)))]), ⟨by simp only; rw [Zak (by omega) (by omega)]; simp, by simp only; omega, by simp [hg1], by simp [hg2], k1, k2, ?_⟩, by simp only; omega⟩
 unfold GwHs
 simp only
 rw [← f1, ← f2, List.map_append, List.map_append]
 exact s
theorem Zqr {u : Sl} {x : Zaz} {es : List (Ls Zac)} {ps : List (Ls ZaD)} (e1 : es.length = 2) (e2 : ps.length = 2) (hm : AllM meN 0 es) (hp : AllM meP 0 ps)
  (s : Ss W (WrHs r1.nets r1.ports l1 l2 es ps ++ (vec Zaj u [x] [] :: R)) w) : WP (Zci (fun s_ : Int => Zaa.L5 u r1 s_) 0) w (fun y w' => y = true ∧ Ss W R w') := by
 refine WP.loopG (γ := Nat × List (Ls Zac) × List (Ls ZaD)) (fun g (y : Int) w => y = (g.1 : Int) ∧ g.1 ≤ 2 ∧ g.2.1.length = 2 ∧ g.2.2.length = 2 ∧ AllM meN g.1 g.2.1 ∧ AllM meP g.1 g.2.2 ∧ Ss W (WrHs r1.nets r1.ports l1 l2 g.2.1 g.2.2 ++ (vec Zaj u [x] [] :: R)) w) (fun g _ => 2 - g.1) (0, es, ps) ⟨rfl, by omega, e1, e2, hm, hp, s⟩ ?_
 clear s e1 e2 hm hp
 rintro ⟨i, es, ps⟩ _ w ⟨rfl, hi, e1, e2, hm, hp, s⟩
 simp only at hi e1 e2 hm hp s
 show WP (Zaa.L5 u r1 (i : Int)) w _
 unfold Zaa.L5
 have hA := (s.vec_len (i := 0) rfl).1
 rw [List.length_map, e1] at hA
 refine WP.ite (fun h => ?_) (fun h => ?_)
 rotate_left
 ·have hi2 : i = 2 := by omega
  subst hi2
  exact WP.step (Zqs e1 e2 hm hp s) (fun y w h => WP.done h)
 have hlt : i < 2 := by omega
 obtain ⟨e, he⟩ : ∃ e, es[i]? = some e := ⟨_, List.getElem?_eq_getElem (by omega)⟩
 obtain ⟨d, hd⟩ : ∃ e, ps[i]? = some e := ⟨_, List.getElem?_eq_getElem (by omega)⟩
 refine ZqU (me := meN (i : Int)) (R := [vec cL r1.ports (ps.map Ls.s) l2, seps (ps.map (lsH cRg))] ++ (vec Zaj u [x] [] :: R)) (c := cPfx) rfl he (hm i e he).1 s (fun w I s => ?_)
 refine WP.step (Q := _) ?_ (fun y w h => WP.done h)
 unfold Zaa.K5
 have s := s.use [2, 2] rfl
 refine ZqU (me := meP (i : Int)) (R := [vec cL r1.nets (es.map Ls.s) l1, seps ((es.set i ⟨e.s, List.replicate e.x.length (meN (i : Int)), e.sp⟩).map (lsH cPfx))] ++ (vec Zaj u [x] [] :: R)) (c := cRg) rfl hd (hp i d hd).1 s (fun w I s => WP.done ?_)
 have s := s.use [2, 2] rfl
 refine ⟨(i + 1, es.set i ⟨e.s, List.replicate e.x.length (meN (i : Int)), e.sp⟩, ps.set i ⟨d.s, List.replicate d.x.length (meP (i : Int)), d.sp⟩), ⟨by rw [Zak (by omega) (by omega)]; simp, by simp only; omega, by simp only [List.length_set]; exact e1, by simp only [List.length_set]; exact e2, hm.put he, hp.put hd, ?_⟩, by simp only; omega⟩
 unfold WrHs
 simp only
 rw [ZtY (d := ⟨e.s, List.replicate e.x.length (meN (i : Int)), e.sp⟩) he rfl, ZtY (d := ⟨d.s, List.replicate d.x.length (meP (i : Int)), d.sp⟩) hd rfl]
 exact s
end
def FitS (s : Zfb) : Prop := (s.nets.length ≤ 16 ∧ ∀ p ∈ s.nets, Byt p.IP.A.l) ∧ s.ports.length ≤ 16
theorem ZrP {e kind : Int} {n : Nat} {ws r : List Wd} {p : Zac} (h : net1 e kind n ws = .ok (p, r)) : Byt p.IP.A.l := by
 cases ws with
 | nil => cases h
 | cons w ws =>
  rw [ZiR] at h
  split at h
  ·cases h
  ·split at h
   ·cases h
   ·rename_i q hq
    split at h
    ·cases h
    ·cases h
     exact ZoK hq
theorem Zm2 {e kind : Int} : ∀ (k : Nat) {acc : List Zac} {ws r : List Wd} {l : List Zac}, ws.length ≤ k → acc.length ≤ 16 → (∀ p ∈ acc, Byt p.IP.A.l) → ZgD e kind acc ws = .ok (l, r) → l.length ≤ 16 ∧ ∀ p ∈ l, Byt p.IP.A.l
 | 0, acc, ws, r, l, hk, ha, hb, h => by
  have : ws = [] := List.length_eq_zero_iff.1 (by omega)
  subst this
  cases h
 | k + 1, acc, ws, r, l, hk, ha, hb, h => by
  rw [ZhP] at h
  split at h
  ·cases h
  ·rename_i p r1 h1
   obtain ⟨n1, n2⟩ := Zmg h1
   have hb2 : ∀ q ∈ acc ++ [p], Byt q.IP.A.l := fun q hq => by
    rcases List.mem_append.1 hq with hq | hq
    ·exact hb q hq
    ·rw [List.mem_singleton.1 hq]
     exact ZrP h1
   split at h
   ·cases h
    exact ⟨by rw [List.length_append, List.length_singleton]; omega, hb2⟩
   ·rename_i r2 h2
    have := ZdE h2
    exact Zm2 k (by omega) (by rw [List.length_append, List.length_singleton]; omega) hb2 h
theorem ZlA {e : Int} : ∀ (k : Nat) {acc : List ZaD} {ws r : List Wd} {l : List ZaD}, ws.length ≤ k → acc.length ≤ 16 → ZeD e acc ws = .ok (l, r) → l.length ≤ 16
 | 0, acc, ws, r, l, hk, ha, h => by
  have : ws = [] := List.length_eq_zero_iff.1 (by omega)
  subst this
  cases h
 | k + 1, acc, ws, r, l, hk, ha, h => by
  rw [ZgU] at h
  split at h
  ·cases h
  ·rename_i p r1 h1
   obtain ⟨n1, n2⟩ := Zjl h1
   split at h
   ·cases h
    rw [List.length_append, List.length_singleton]
    omega
   ·rename_i r2 h2
    have := ZdE h2
    exact ZlA k (by omega) (by rw [List.length_append, List.length_singleton]; omega) h
theorem Zkz {e proto : Int} {ws r : List Wd} {l : List ZaD} (h : Zek e proto ws = .ok (l, r)) : l.length ≤ 16 := by
 cases ws with
 | nil =>
  cases h
  exact Nat.zero_le _
 | cons x xs =>
  rw [Zf9] at h
  split at h
  ·split at h
   ·exact ZlA _ (Nat.le_refl _) (Nat.zero_le _) h
   ·cases h
  ·cases h
   exact Nat.zero_le _
theorem ZmO {e kind proto : Int} {ws r : List Wd} {s : Zfb} (h : Zjh e kind proto ws = .ok (s, r)) : FitS s := by
 rw [Zl7] at h
 unfold ZmI at h
 split at h
 ·split at h
  ·cases h
  ·rename_i h2
   have := Zkz h2
   cases h
   exact ⟨⟨Nat.zero_le _, fun p hp => (by cases hp)⟩, this⟩
 ·split at h
  ·cases h
  ·rename_i l r1 h1
   have hn := Zm2 _ (Nat.le_refl _) (Nat.zero_le _) (fun p hp => (by cases hp)) h1
   split at h
   ·cases h
   ·rename_i h2
    have := Zkz h2
    cases h
    exact ⟨hn, this⟩
def FitR (m : ZbN) : Prop := FitS m.From ∧ FitS m.To
theorem Zod {e : Int} {t : List Int} {m m' : ZbN} {ws r : List Wd} (hm : FitR m) (h : Zea e t m ws = some (.ok (m', r))) : FitR m' := by
 unfold Zea at h
 split at h
 ·split at h
  ·cases h
  ·cases h
   exact hm
 ·split at h
  ·split at h
   ·cases h
   ·cases h
    exact hm
  ·split at h
   ·split at h
    ·cases h
    ·rename_i h1
     cases h
     exact ⟨ZmO h1, hm.2⟩
   ·split at h
    ·split at h
     ·cases h
     ·rename_i h1
      cases h
      exact ⟨hm.1, ZmO h1⟩
    ·split at h
     ·split at h
      ·cases h
      ·cases h
       exact hm
     ·split at h
      ·split at h
       ·cases h
       ·cases h
        exact hm
      ·split at h
       ·cases h
        exact hm
       ·cases h
theorem Zm9 {e : Int} : ∀ (f : Nat) {S : List (List Int)} {m m' : ZbN} {ws : List Wd}, FitR m → Zhf e f S m ws = .ok m' → FitR m'
 | 0, S, m, m', ws, hm, h => by
  cases h
  exact hm
 | f + 1, S, m, m', [], hm, h => by
  cases h
  exact hm
 | f + 1, S, m, m', x :: xs, hm, h => by
  rw [show Zhf e (f + 1) S m (x :: xs) = if mayM S m x.1 = false then .error (165, x.2) else match Zea e x.1 m xs with
    | none => .error (160, x.2)
    | some (.error q) => .error q
    | some (.ok (m', r')) => Zhf e f (x.1 :: S) m' r' from rfl] at h
  split at h
  ·cases h
  ·split at h
   ·cases h
   ·cases h
   ·rename_i h1
    exact Zm9 f (Zod hm h1) h
theorem zFit : FitR zRl := ⟨⟨⟨Nat.zero_le _, fun p hp => (by cases hp)⟩, Nat.zero_le _⟩, ⟨Nat.zero_le _, fun p hp => (by cases hp)⟩, Nat.zero_le _⟩
theorem ZqJ {e : Int} {ws r : List Wd} {m : ZbN} (h1 : Zh2 e ws = .ok (m, r)) : FitR m := by
 cases ws with
 | nil => cases h1
 | cons x xs =>
  rw [show Zh2 e (x :: xs) = match idxT actN x.1 with
   | none => .error (160, x.2)
   | some a => match Ze2 e a xs with
    | .error f => .error f
    | .ok (c, r) => match ZgK e r with
     | .error f => .error f
     | .ok (k, r) => .ok ({ zRl with Act := (a : Int) + 1, Class := c, Kind := k.1, Proto := k.2 }, r) from rfl] at h1
  split at h1
  ·cases h1
  ·split at h1
   ·cases h1
   ·split at h1
    ·cases h1
    ·cases h1
     exact zFit
theorem Zp4 {t : List Int} {m : ZbN} (h : ZdI t = .ok m) : FitR m := by
 unfold ZdI at h
 split at h
 ·cases h
 ·split at h
  ·cases h
  ·split at h
   ·cases h
   ·rename_i m1 r h1
    exact Zm9 _ (ZqJ h1) h
abbrev cWr := Zb3
def wrOf (w : Zba) : Wd := (strI w.Text, w.At)
section
variable {W w : World} {Hs : List HP}
theorem Zsg (c : Int) : WP (Zdq c) w (fun y w' => y = decide (c = 32 ∨ c = 9) ∧ w = w') := by
 unfold Zdq
 refine WP.step (R := fun y w' => y = decide (c = 32 ∨ c = 9) ∧ w = w') (WP.ite (fun h => WP.ret ⟨(decide_eq_true (.inl h)).symm, rfl⟩) (fun h => WP.ret ⟨?_, rfl⟩)) (fun y w h => WP.ret h)
 rw [Bool.eq_iff_iff, beq_iff_eq, decide_eq_true_iff]
 exact ⟨.inr, fun h' => h'.elim (fun h' => absurd h' h) id⟩
def Zmx (W : World) (Hs : List HP) (X : Except Int (List Wd)) (r : Sl × Int × Int) (w : World) : Prop := match X with
 | .ok ws => r.2.1 = 0 ∧ ∃ wl sp, wl.map wrOf = ws ∧ Ss W (vec cWr r.1 wl sp :: Hs) w
 | .error p => r.2.1 = 160 ∧ r.2.2 = p ∧ Ss W Hs w
theorem ZpH (s : Ss W Hs w) (t : ByteArray) (ht : t.size ≤ 1024) : WP (Zat t) w (Zmx W Hs (lexM [] 0 (strI t))) := by
 unfold Zat
 have hl := Zbq t
 have s := s.mk0 (A := vec cWr Sl.nil [] []) Zch
 refine WP.loopG (γ := Nat × List Zba × List Zba) (fun g (z : Sl × Int) w => z.2 = (g.1 : Int) ∧ g.1 ≤ (strI t).length ∧ g.2.1.length ≤ g.1 ∧ Zi8 (g.2.1.map wrOf) (lexM [] 0 (strI t)) (lexM [] g.1 ((strI t).drop g.1)) ∧ Ss W (vec cWr z.1 g.2.1 g.2.2 :: Hs) w) (fun g _ => (strI t).length - g.1) (0, [], []) ⟨rfl, by simp, by simp, ?_, s⟩ ?_
 ·unfold Zi8
  have e0 : ((0 : Nat) : Int) = 0 := rfl
  simp only [List.map_nil, List.nil_append, List.drop_zero, e0]
  cases lexM [] 0 (strI t) <;> rfl
 clear s
 rintro ⟨k, wl, sp⟩ ⟨a, _⟩ w ⟨rfl, hk, hlen, ha, s⟩
 simp only at hk hlen ha s
 show WP (Zat.L1 t a (k : Int)) w _
 unfold Zat.L1
 refine WP.ite (fun h => ?_) (fun h => ?_)
 rotate_left
 ·have : k = (strI t).length := by omega
  subst this
  rw [List.drop_length] at ha
  refine WP.done ?_
  unfold Zi8 at ha
  simp only [lexM, if_true, List.append_nil] at ha
  unfold Zmx
  rw [ha]
  exact ⟨rfl, wl, sp, rfl, s⟩
 have hk1 : k < (strI t).length := by omega
 refine WP.loopG (γ := Nat) (fun q (z : Int) w => z = (q : Int) ∧ k ≤ q ∧ q ≤ (strI t).length ∧ lexM [] k ((strI t).drop k) = lexM (((strI t).drop k).take (q - k)) q ((strI t).drop q) ∧ Ss W (vec cWr a wl sp :: Hs) w) (fun q _ => (strI t).length - q) k ⟨rfl, Nat.le_refl _, hk, by simp, s⟩ ?_
 clear s
 rintro q _ w ⟨rfl, hq1, hq2, hq, s⟩
 show WP (Zat.L2 t a (k : Int) (q : Int)) w _
 unfold Zat.L2
 refine WP.step (R := fun y w' => y = decide (q < (strI t).length ∧ (strI t).getD q 0 > 32) ∧ w = w') (WP.ite (fun h => WP.chk ⟨by omega, h⟩ (WP.ret ⟨?_, rfl⟩)) (fun h => WP.ret ⟨(decide_eq_false (by omega)).symm, rfl⟩)) ?_
 ·rw [Zct]
  exact decide_eq_decide.2 ⟨fun h' => ⟨by omega, h'⟩, fun h' => h'.2⟩
 rintro _ _ ⟨rfl, rfl⟩
 refine WP.step (R := fun y w' => y = decide (q < (strI t).length ∧ (strI t).getD q 0 > 32 ∧ (strI t).getD q 0 < 127) ∧ w = w') (WP.ite (fun h => WP.chk ⟨by omega, by have := of_decide_eq_true h; omega⟩ (WP.ret ⟨?_, rfl⟩)) (fun h => WP.ret ⟨(decide_eq_false (fun h' => h (decide_eq_true ⟨h'.1, h'.2.1⟩))).symm, rfl⟩)) ?_
 ·rw [Zct]
  have := of_decide_eq_true h
  exact decide_eq_decide.2 ⟨fun h' => ⟨this.1, this.2, h'⟩, fun h' => h'.2.2⟩
 rintro _ _ ⟨rfl, rfl⟩
 refine WP.step (R := fun y w' => y = decide (q < (strI t).length ∧ Zhh ((strI t).getD q 0) = true) ∧ w = w') (WP.ite (fun h => WP.chk ⟨by omega, by have := of_decide_eq_true h; omega⟩ (WP.ret ⟨?_, rfl⟩)) (fun h => WP.ret ⟨(decide_eq_false (fun h' => h (decide_eq_true ?_))).symm, rfl⟩)) ?_
 ·rw [Zct]
  have := of_decide_eq_true h
  unfold Zhh
  rw [Bool.eq_iff_iff, bne_iff_ne]
  simp only [decide_eq_true_iff]
  exact ⟨fun h' => ⟨this.1, by omega, by omega, h'⟩, fun h' => h'.2.2.2⟩
 ·have := h'.2
  unfold Zhh at this
  have := of_decide_eq_true this
  exact ⟨h'.1, by omega, by omega⟩
 rintro _ _ ⟨rfl, rfl⟩
 have hd : q < (strI t).length → (strI t).drop q = (strI t).getD q 0 :: (strI t).drop (q + 1) := fun h => by
  rw [List.drop_eq_getElem_cons h, List.getD, List.getElem?_eq_getElem h]
  rfl
 refine WP.ite (fun h => ?_) (fun h => ?_)
 ·obtain ⟨h1, h2⟩ := of_decide_eq_true h
  refine WP.next ⟨q + 1, ⟨?_, by omega, h1, ?_, s⟩, by omega⟩
  ·rw [Zak (by omega) (by omega)]
   omega
  ·rw [hq, hd h1, Zke h2]
   have e : ((strI t).drop k).take (q + 1 - k) = ((strI t).drop k).take (q - k) ++ [(strI t).getD q 0] := by
    rw [show q + 1 - k = (q - k) + 1 by omega, List.take_add_one, List.getElem?_drop, show k + (q - k) = q by omega, List.getD, List.getElem?_eq_getElem h1]
    rfl
   rw [e]
   rfl
 refine WP.step (R := WP.Rd (fun (z : Sl × Int) w => ∃ g : Nat × List Zba × List Zba, (z.2 = (g.1 : Int) ∧ g.1 ≤ (strI t).length ∧ g.2.1.length ≤ g.1 ∧ Zi8 (g.2.1.map wrOf) (lexM [] 0 (strI t)) (lexM [] g.1 ((strI t).drop g.1)) ∧ Ss W (vec cWr z.1 g.2.1 g.2.2 :: Hs) w) ∧ (strI t).length - g.1 < (strI t).length - k) (Zmx W Hs (lexM [] 0 (strI t)))) ?_ (fun r w h => WP.done h)
 have hnb : ∀ c cs, (strI t).drop q = c :: cs → Zhh c = false := fun c cs e => by
  have h1 : q < (strI t).length := Decidable.byContradiction fun hn => by
   rw [List.drop_of_length_le (by omega)] at e
   cases e
  rw [hd h1] at e
  cases e
  cases hb : Zhh ((strI t).getD q 0) with
  | false => rfl
  | true => exact absurd (decide_eq_true ⟨h1, hb⟩) h
 have hx : ∀ {j : Nat}, k ≤ j → j ≤ (strI t).length → strI (ByteArray.extract t k j) = ((strI t).drop k).take (j - k) := fun h1 h2 => Zcm _ _ _
 unfold Zat.K1
 refine WP.ite (fun h2 => ?_) (fun h2 => WP.chk ⟨by omega, by omega⟩ ?_)
 ·refine WP.chk ⟨by omega, by omega, by omega⟩ (WP.slot' s (fun _ w s => WP.appl s 0 rfl (by simp only [List.length_singleton]; omega) (by decide) (fun a' w sp' s => ?_)))
  have hcur : ((strI t).drop k).take (q - k) ≠ [] := fun e => by
   have := congrArg List.length e
   simp at this
   omega
  refine WP.next ⟨(q, _, sp'), ⟨rfl, hq2, ?_, ?_, s⟩, by simp only; omega⟩
  ·simp only [List.length_append, List.length_singleton]
   omega
  ·unfold Zi8 at ha ⊢
   rw [ha, hq, Znb hcur hnb]
   have el : ((((strI t).drop k).take (q - k)).length : Int) = q - k := by
    rw [List.length_take, List.length_drop]
    omega
   cases lexM [] (q : Int) ((strI t).drop q) with
   | error p => rfl
   | ok r =>
    simp only [List.map_append, List.map_cons, List.map_nil, List.append_assoc, List.cons_append, List.nil_append, wrOf, Int.toNat_natCast]
    rw [hx hq1 hq2, el]
    simp only [Except.ok.injEq, List.append_cancel_left_eq, List.cons.injEq, Prod.mk.injEq, true_and, and_true]
    omega
 have hqk : q = k := by omega
 subst hqk
 have hc := hnb _ _ (hd hk1)
 have ha' := ha
 rw [hd hk1, ZsC hc] at ha'
 refine WP.ite (fun h3 => ?_) (fun h3 => ?_)
 ·rw [Zct] at h3
  rw [if_pos h3] at ha'
  have hw : IntKind.wrap .i64 ((q : Int) + 1) = ((q + 1 : Nat) : Int) := by
   rw [Zak (by omega) (by omega)]
   omega
  rw [hw]
  refine WP.chk ⟨by omega, by omega, by omega⟩ (WP.slot' s (fun _ w s => WP.appl s 0 rfl (by simp only [List.length_singleton]; omega) (by decide) (fun a' w sp' s => ?_)))
  refine WP.next ⟨(q + 1, _, sp'), ⟨rfl, by simp only; omega, ?_, ?_, s⟩, by simp only; omega⟩
  ·simp only [List.length_append, List.length_singleton]
   omega
  ·unfold Zi8 at ha' ⊢
   rw [ha']
   have e : ((q + 1 : Nat) : Int) = (q : Int) + 1 := by omega
   simp only [e]
   have e2 : strI (ByteArray.extract t q (q + 1)) = [44] := by
    rw [hx (by omega) (by omega), show q + 1 - q = 0 + 1 by omega, hd hk1, h3]
    rfl
   cases lexM [] ((q : Int) + 1) ((strI t).drop (q + 1)) with
   | error p => rfl
   | ok r =>
    simp only [List.map_append, List.map_cons, List.map_nil, List.append_assoc, List.cons_append, List.nil_append, wrOf, Int.toNat_natCast]
    rw [show ((q : Int) + 1).toNat = q + 1 by omega, e2]
 ·rw [Zct] at h3
  rw [if_neg h3] at ha'
  refine WP.chk ⟨by omega, by omega⟩ (WP.step (Zsg _) ?_)
  rw [Zct]
  rintro _ _ ⟨rfl, rfl⟩
  refine WP.ite (fun h4 => ?_) (fun h4 => ?_)
  ·rw [if_pos (of_decide_eq_true h4)] at ha'
   refine WP.next ⟨(q + 1, wl, sp), ⟨?_, by simp only; omega, by simp only; omega, ?_, s⟩, by simp only; omega⟩
   ·simp only
    rw [Zak (by omega) (by omega)]
    omega
   ·have e : ((q + 1 : Nat) : Int) = (q : Int) + 1 := by omega
    simp only [e]
    exact ha'
  ·rw [if_neg (fun h => h4 (decide_eq_true h))] at ha'
   refine WP.done ?_
   unfold Zi8 at ha'
   simp only at ha'
   unfold Zmx
   rw [ha']
   exact ⟨rfl, rfl, s.drop⟩
theorem ZsP : ∀ (k : Nat) (l : List Int), l.length = k + 1 → (∀ c ∈ l, ZcT c = true) → l.getD 0 0 ≠ 48 → 10 ^ k ≤ valD l := by
 intro k
 induction k with
 | zero =>
  intro l hl hd h0
  match l, hl with
  | [c], _ =>
   have := of_decide_eq_true (hd c (by simp))
   simp only [List.getD_cons_zero] at h0
   simp only [valD, List.foldl_cons, List.foldl_nil]
   omega
 | succ k ih =>
  intro l hl hd h0
  obtain ⟨l', c, rfl⟩ : ∃ l' c, l = l' ++ [c] := ⟨l.dropLast, l.getLast (by intro h; rw [h] at hl; simp at hl), (List.dropLast_concat_getLast _).symm⟩
  rw [List.length_append, List.length_singleton] at hl
  have h1 := ih l' (by omega) (fun c hc => hd c (List.mem_append_left _ hc)) (by
   rw [List.getD, List.getElem?_append_left (by omega)] at h0
   exact h0)
  rw [Zgy, Nat.pow_succ]
  omega
theorem Zqi {t : List Int} {lo hi : Int} (h : t.length > 5) (hh : hi ≤ 65535) : numR t lo hi = none := by
 unfold numR
 split
 ·rfl
 ·rename_i hn
  rw [if_neg]
  rintro ⟨-, h2⟩
  have hd : ∀ c ∈ t, ZcT c = true := by
   intro c hc
   cases hx : ZcT c with
   | true => rfl
   | false =>
    exfalso
    refine hn (.inr (.inr (.inr ?_)))
    rw [← Bool.not_eq_true, List.all_eq_true]
    intro hall
    rw [hall c hc] at hx
    cases hx
  have h0 : t.getD 0 0 ≠ 48 := fun h0 => hn (.inr (.inr (.inl ⟨h0, by omega⟩)))
  have := ZsP (t.length - 1) t (by omega) hd h0
  have h5 : 10 ^ 5 ≤ 10 ^ (t.length - 1) := Nat.pow_le_pow_right (by omega) (by omega)
  omega
def numX (t : List Int) (lo hi : Int) : Int := match numR t lo hi with
 | some n => n
 | none => -1
theorem Zja (t : ByteArray) {lo hi : Int} (h0 : 0 ≤ lo) (hh : hi ≤ 65535) : WP (Za8 t lo hi) w (fun r w' => r = numX (strI t) lo hi ∧ w = w') := by
 unfold Za8
 have hl := Zbq t
 refine WP.step (R := fun y w' => y = decide (strI t = [] ∨ (strI t).length > 5) ∧ w = w') (WP.ite (fun h => WP.ret ⟨?_, rfl⟩) (fun h => WP.ret ⟨?_, rfl⟩)) ?_
 ·rw [Zbl] at h
  exact (decide_eq_true (.inl h)).symm
 ·rw [Zbl] at h
  exact decide_eq_decide.2 ⟨fun h' => .inr (by omega), fun h' => h'.elim (fun h' => absurd h' h) (fun h' => by omega)⟩
 rintro _ _ ⟨rfl, rfl⟩
 have hs0 : sb t 0 = (strI t).getD 0 0 := Zct (i := 0)
 refine WP.step (R := fun y w' => y = decide (strI t = [] ∨ (strI t).length > 5 ∨ ((strI t).getD 0 0 = 48 ∧ (strI t).length > 1)) ∧ w = w') (WP.ite (fun h => WP.ret ⟨?_, rfl⟩) (fun h => ?_)) ?_
 ·have := of_decide_eq_true h
  exact (decide_eq_true (this.elim .inl (fun h => .inr (.inl h)))).symm
 ·have hn : ¬ (strI t = [] ∨ (strI t).length > 5) := fun h' => h (decide_eq_true h')
  refine WP.step (R := fun y w' => y = decide ((strI t).getD 0 0 = 48 ∧ (strI t).length > 1) ∧ w = w') (WP.ite (fun h2 => WP.chk ⟨by omega, by omega⟩ (WP.ret ⟨?_, rfl⟩)) (fun h2 => WP.ret ⟨(decide_eq_false (fun h' => h2 (by omega))).symm, rfl⟩)) ?_
  ·rw [hs0, Bool.eq_iff_iff, beq_iff_eq, decide_eq_true_iff]
   exact ⟨fun h' => ⟨h', by omega⟩, fun h' => h'.1⟩
  rintro _ _ ⟨rfl, rfl⟩
  exact WP.ret ⟨decide_eq_decide.2 ⟨fun h' => .inr (.inr h'), fun h' => by
   rcases h' with h' | h' | h'
   ·exact absurd (.inl h') hn
   ·exact absurd (.inr h') hn
   ·exact h'⟩, rfl⟩
 rintro _ _ ⟨rfl, rfl⟩
 refine WP.ite (fun h => WP.ret ⟨?_, rfl⟩) (fun h => ?_)
 ·have h' := of_decide_eq_true h
  have e : numR (strI t) lo hi = none := by
   rcases h' with h' | h' | h'
   ·unfold numR
    rw [if_pos (.inl h')]
   ·exact Zqi h' hh
   ·unfold numR
    rw [if_pos (.inr (.inr (.inl h')))]
  unfold numX
  rw [e]
 have hn : ¬ (strI t = [] ∨ (strI t).length > 5 ∨ ((strI t).getD 0 0 = 48 ∧ (strI t).length > 1)) := fun h' => h (decide_eq_true h')
 have h9 : (strI t).length ≤ 5 := Decidable.byContradiction fun h' => hn (.inr (.inl (by omega)))
 refine WP.loopG (γ := Nat) (fun k (z : Int × Int) w' => z = ((valD ((strI t).take k) : Int), (k : Int)) ∧ k ≤ (strI t).length ∧ (∀ c ∈ (strI t).take k, ZcT c = true) ∧ w = w') (fun k _ => (strI t).length - k) 0 ⟨rfl, Nat.zero_le _, by simp, rfl⟩ ?_
 rintro k _ _ ⟨rfl, hk, hd, rfl⟩
 show WP (Za8.L1 t lo hi (valD ((strI t).take k) : Int) (k : Int)) w _
 unfold Za8.L1
 have hb : ∀ j, 0 ≤ (strI t).getD j 0 ∧ (strI t).getD j 0 ≤ 255 := fun j => by
  have := ZoA t j
  rw [Zct] at this
  exact this
 have hv := Zl2 9 ((strI t).take k) (by rw [List.length_take]; omega) hd
 refine WP.ite (fun h1 => ?_) (fun h1 => ?_)
 ·have hk1 : k < (strI t).length := by omega
  refine WP.chk ⟨by omega, h1⟩ ?_
  rw [Zct]
  have ht : (strI t).take (k + 1) = (strI t).take k ++ [(strI t).getD k 0] := by
   rw [List.take_add_one, List.getD, List.getElem?_eq_getElem hk1]
   rfl
  refine WP.step (R := fun y w' => y = !ZcT ((strI t).getD k 0) ∧ w = w') (WP.ite (fun h2 => WP.ret ⟨?_, rfl⟩) (fun h2 => WP.chk ⟨by omega, h1⟩ (WP.ret ⟨?_, rfl⟩))) ?_
  ·unfold ZcT
   rw [decide_eq_false (by omega)]
   rfl
  ·unfold ZcT
   rw [Bool.eq_iff_iff, Bool.not_eq_true', decide_eq_true_iff, decide_eq_false_iff_not]
   omega
  rintro _ _ ⟨rfl, rfl⟩
  refine WP.ite (fun h2 => WP.done ⟨?_, rfl⟩) (fun h2 => WP.chk ⟨by omega, h1⟩ (WP.next ⟨k + 1, ⟨?_, hk1, ?_, rfl⟩, by omega⟩))
  ·have e : numR (strI t) lo hi = none := by
    unfold numR
    rw [if_pos]
    refine .inr (.inr (.inr ?_))
    rw [← Bool.not_eq_true, List.all_eq_true]
    intro hall
    have := hall ((strI t).getD k 0) (by rw [List.getD, List.getElem?_eq_getElem hk1]; exact List.getElem_mem hk1)
    rw [this] at h2
    cases h2
   unfold numX
   rw [e]
  ·have hdg : 48 ≤ (strI t).getD k 0 ∧ (strI t).getD k 0 ≤ 57 := by
    have : ZcT ((strI t).getD k 0) = true := by simpa using h2
    exact of_decide_eq_true this
   rw [ht, Zgy, ZeS (by omega) (by omega), Zak (n := 10 * (valD ((strI t).take k) : Int)) (by omega) (by omega), Zak (n := (strI t).getD k 0 - 48) (by omega) (by omega), Zak (by omega) (by omega), Zak (by omega) (by omega)]
   refine Prod.ext ?_ ?_
   ·simp only
    omega
   ·simp only
    omega
  ·intro c hc
   rw [ht] at hc
   rcases List.mem_append.1 hc with hc | hc
   ·exact hd c hc
   ·rw [List.mem_singleton.1 hc]
    simpa using h2
 ·have : k = (strI t).length := by omega
  subst this
  rw [List.take_length] at hd ⊢
  have e : numR (strI t) lo hi = if lo ≤ (valD (strI t) : Int) ∧ (valD (strI t) : Int) ≤ hi then some (valD (strI t) : Int) else none := by
   unfold numR
   rw [if_neg]
   rintro (h' | h' | h' | h')
   ·exact hn (.inl h')
   ·omega
   ·exact hn (.inr (.inr h'))
   ·rw [← Bool.not_eq_true, List.all_eq_true] at h'
    exact h' hd
  refine WP.step (R := fun y w' => y = decide (¬ (lo ≤ (valD (strI t) : Int) ∧ (valD (strI t) : Int) ≤ hi)) ∧ w = w') (WP.ite (fun h2 => WP.ret ⟨(decide_eq_true (by omega)).symm, rfl⟩) (fun h2 => WP.ret ⟨decide_eq_decide.2 (by omega), rfl⟩)) ?_
  rintro _ _ ⟨rfl, rfl⟩
  unfold numX
  rw [e]
  refine WP.ite (fun h2 => WP.done ⟨?_, rfl⟩) (fun h2 => WP.done ⟨?_, rfl⟩)
  ·rw [if_neg (of_decide_eq_true h2)]
  ·rw [if_pos (Decidable.not_not.1 fun h' => h2 (decide_eq_true h'))]
end
abbrev cXr := Za9
abbrev XG := Zbd × (List Zba × List Zba) × List ByteArray × List ByteArray
structure XrFs (e : Int) (m : ZbN) (ws : List Wd) (seen : List (List Int)) (q : XG) : Prop where
 end_ : q.1.end_ = e
 err : q.1.err = 0
 ws_ : ws = q.2.1.1.map wrOf
 ne : ∀ x ∈ ws, x.1 ≠ [] ∧ x.1.length ≤ 1024
 seen_ : q.2.2.1.map strI = seen
 sc : RSc q.1.r m
def XrHs (b : Nat) (m : ZbN) (q : XG) : List HP := [pts true (pt b 0) (cXr.enc q.1), vec cWr q.1.l q.2.1.1 q.2.1.2, vec cS q.1.seen q.2.2.1 q.2.2.2, ZeJ q.1.r.From m.From, ZeJ q.1.r.To m.To]
def XrA (b : Nat) (e : Int) (m : ZbN) (ws : List Wd) (seen : List (List Int)) : HP := ex (XrFs e m ws seen) (fun q => seps (XrHs b m q))
def XrD (b : Nat) (f : PF) : HP := ex (fun rr : Zbd => rr.err = f.1 ∧ rr.at_ = f.2 ∧ f.1 ≠ 0 ∧ rr.l = Sl.nil) (fun rr => pts true (pt b 0) (cXr.enc rr))
section
variable {W w : World} {Hs : List HP} {b : Nat} {e : Int} {m : ZbN} {ws : List Wd} {sn : List (List Int)} {f : PF}
theorem Zhg (s : Ss W (XrA b e m ws sn :: Hs) w) : ∃ q, XrFs e m ws sn q ∧ Ss W (XrHs b m q ++ Hs) w := by
 obtain ⟨q, hq, s⟩ := s.openx 0 rfl
 exact ⟨q, hq, Ss.split s⟩
theorem Zlo {q : XG} (hq : XrFs e m ws sn q) (s : Ss W (XrHs b m q ++ Hs) w) : Ss W (XrA b e m ws sn :: Hs) w := s.group.first (fun h hh => ⟨q, hq, hh⟩)
theorem ZpI {rr : Zbd} (h1 : rr.err = f.1) (h2 : rr.at_ = f.2) (h3 : f.1 ≠ 0) (h4 : rr.l = Sl.nil) (s : Ss W (pts true (pt b 0) (cXr.enc rr) :: Hs) w) : Ss W (XrD b f :: Hs) w := s.first (fun h hh => ⟨rr, ⟨h1, h2, h3, h4⟩, hh⟩)
theorem ZlZ {β : Type} {g : Int → M β} {Q : β → World → Prop} (s : Ss W (XrA b e m ws sn :: Hs) w) (k : WP (g 0) w Q) : WP (ld (cI .i64) (Addr.add (pt b 0) 19) >>= g) w Q := by
 obtain ⟨q, hq, s1⟩ := Zhg s
 refine WP.ld (x := q.1.err) s1 0 rfl (o := 19) rfl (ZcP _) ?_
 rw [hq.err]
 exact k
theorem ZmC {β : Type} {g : Int → M β} {Q : β → World → Prop} (s : Ss W (XrD b f :: Hs) w) (k : f.1 ≠ 0 → WP (g f.1) w Q) : WP (ld (cI .i64) (Addr.add (pt b 0) 19) >>= g) w Q := by
 obtain ⟨rr, hq, s1⟩ := s.openx 0 rfl
 refine WP.ld (x := rr.err) s1 0 rfl (o := 19) rfl (ZcP _) ?_
 rw [hq.1]
 exact k hq.2.2.1
theorem ZsI {β : Type} {g : Int → M β} {Q : β → World → Prop} (s : Ss W (XrA b e m ws sn :: Hs) w) (k : WP (g e) w Q) : WP (ld (cI .i64) (Addr.add (pt b 0) 1) >>= g) w Q := by
 obtain ⟨q, hq, s1⟩ := Zhg s
 refine WP.ld (x := q.1.end_) s1 0 rfl (o := 1) rfl (ZeQ _) ?_
 rw [hq.end_]
 exact k
theorem ZuC {β : Type} {g : Int → M β} {Q : β → World → Prop} (s : Ss W (XrD b f :: Hs) w) (k : ∀ x, WP (g x) w Q) : WP (ld (cI .i64) (Addr.add (pt b 0) 1) >>= g) w Q := by
 obtain ⟨rr, hq, s1⟩ := s.openx 0 rfl
 exact WP.ld (x := rr.end_) s1 0 rfl (o := 1) rfl (ZeQ _) (k _)
theorem xldA {β α : Type} {c : Cod α} {o : Nat} {v : α} {F : α → M β} {Q : β → World → Prop} (s : Ss W (XrA b e m ws sn :: Hs) w) (g : Zaz → α) (ha : ∀ r, At (Zaj.enc r) o (c.enc (g r))) (hv : ∀ r, RSc r m → g r = v) (k : WP (F v) w Q) : WP (ld c (Addr.add (Addr.add (pt b 0) 2) o) >>= F) w Q := by
 obtain ⟨q, hq, s1⟩ := Zhg s
 refine WP.ld (x := g q.1.r) s1 0 rfl (o := 2 + o) (by rw [Zeo]) ((ZcK _).trans (ha q.1.r)) ?_
 rw [hv q.1.r hq.sc]
 exact k
theorem Zsr {β : Type} {g : Int → M β} {Q : β → World → Prop} (s : Ss W (XrA b e m ws sn :: Hs) w) (k : WP (g m.Kind) w Q) : WP (ld (cI .i64) (Addr.add (Addr.add (pt b 0) 2) 2) >>= g) w Q := xldA s (fun r => r.Kind) (fun r => ZcD r) (fun r h => h.2.2.1) k
theorem Zki {β : Type} {g : Int → M β} {Q : β → World → Prop} (s : Ss W (XrA b e m ws sn :: Hs) w) (k : WP (g m.Proto) w Q) : WP (ld (cI .i64) (Addr.add (Addr.add (pt b 0) 2) 3) >>= g) w Q := xldA s (fun r => r.Proto) (fun r => Zcd r) (fun r h => h.2.2.2.1) k
theorem Zlc {β α : Type} {c : Cod α} {v : α} {o : Nat} {m' : ZbN} {g : Unit → M β} {Q : β → World → Prop} (s : Ss W (XrA b e m ws sn :: Hs) w) (r' : Zaz → Zaz) (up : ∀ r, Upd (Zaj.enc r) o (c.enc v) (Zaj.enc (r' r))) (hs : ∀ r, RSc r m → RSc (r' r) m') (hf : ∀ r, (r' r).From = r.From ∧ (r' r).To = r.To)
  (hm : m'.From = m.From ∧ m'.To = m.To) (k : ∀ w, Ss W (XrA b e m' ws sn :: Hs) w → WP (g ()) w Q) : WP (st c (Addr.add (Addr.add (pt b 0) 2) o) v >>= g) w Q := by
 obtain ⟨⟨rr, q⟩, hq, s⟩ := Zhg s
 refine WP.st s 0 rfl (o := 2 + o) (by rw [Zeo]) ((ZcK rr).trans' (up rr.r) (ZdM rr _)) (fun w s => k w ?_)
 refine Zlo (q := (⟨rr.l, rr.end_, r' rr.r, rr.seen, rr.err, rr.at_⟩, q)) ⟨hq.end_, hq.err, hq.ws_, hq.ne, hq.seen_, hs _ hq.sc⟩ ?_
 unfold XrHs
 simp only
 rw [(hf rr.r).1, (hf rr.r).2, hm.1, hm.2]
 exact s
theorem ZnB {β α : Type} {c : Cod α} {v : α} {o : Nat} {g : Unit → M β} {Q : β → World → Prop} (s : Ss W (XrD b f :: Hs) w) (r' : Zaz → Zaz) (up : ∀ r, Upd (Zaj.enc r) o (c.enc v) (Zaj.enc (r' r))) (k : ∀ w, Ss W (XrD b f :: Hs) w → WP (g ()) w Q) : WP (st c (Addr.add (Addr.add (pt b 0) 2) o) v >>= g) w Q := by
 obtain ⟨rr, hq, s⟩ := s.openx 0 rfl
 refine WP.st s 0 rfl (o := 2 + o) (by rw [Zeo]) ((ZcK rr).trans' (up rr.r) (ZdM rr _)) (fun w s => k w ?_)
 exact ZpI (rr := ⟨rr.l, rr.end_, r' rr.r, rr.seen, rr.err, rr.at_⟩) hq.1 hq.2.1 hq.2.2.1 hq.2.2.2 s
theorem ZdQ (s : Ss W (XrA b e m ws sn :: Hs) w) {e' : Int} (he : e' ≠ 0) (a' : Int) : WP (Za1 (some (pt b 0)) e' a') w (fun _ w' => Ss W (XrD b (e', a') :: Hs) w') := by
 unfold Za1
 refine WP.nilck (ZlZ s (WP.ite (fun _ => ?_) (fun h => absurd rfl h)))
 obtain ⟨q, hq, s⟩ := Zhg s
 have s : Ss W (pts true (pt b 0) (cXr.enc q.1) :: Hs) w := by
  have s := (s.use [1, 1, 1, 1] rfl).drop.drop.drop.drop
  exact s
 refine WP.nilck (WP.st s 0 rfl (o := 19) rfl (Zg2 _ _) (fun w s => WP.nilck (WP.st s 0 rfl (o := 20) rfl (Zg3 _ _) (fun w s => WP.nilck (WP.st s 0 rfl (o := 0) (by simp [Addr.add]) (Zep _ _) (fun w s => WP.ret ?_))))))
 exact ZpI rfl rfl he rfl s
theorem ZfO (s : Ss W (XrD b f :: Hs) w) (e' a' : Int) : WP (Za1 (some (pt b 0)) e' a') w (fun _ w' => Ss W (XrD b f :: Hs) w') := by
 unfold Za1
 exact WP.nilck (ZmC s (fun h => WP.ite (fun h' => absurd h' h) (fun _ => WP.ret s)))
theorem Ziz (s : Ss W (XrA b e m ws sn :: Hs) w) : WP (Zbv (some (pt b 0))) w (fun r w' => wrOf r = ws.headD ([], e) ∧ Ss W (XrA b e m ws sn :: Hs) w') := by
 unfold Zbv
 refine WP.slot' s (fun _ w s => WP.nilck ?_)
 obtain ⟨q, hq, s1⟩ := Zhg s
 have hl := (s1.vec_len (i := 1) rfl).1
 have hw := hq.ws_
 refine WP.ld (x := q.1.l) s1 0 rfl (o := 0) (by simp [Addr.add]) (Zcg _) (WP.ite (fun h => ?_) (fun h => ?_))
 ·have h0 : q.2.1.1 = [] := List.length_eq_zero_iff.1 (by omega)
  refine WP.nilck (ZsI s (WP.ret ⟨?_, s⟩))
  rw [hw, h0]
  rfl
 ·refine WP.nilck (WP.ld (x := q.1.l) s1 0 rfl (o := 0) (by simp [Addr.add]) (Zcg _) ?_)
  cases hc : q.2.1.1 with
  | nil => rw [hc] at hl; exact absurd (by rw [hl]; rfl) h
  | cons x xs =>
   refine WP.rdx s1 1 rfl ZbO (by omega) (x := x) (by rw [hc]; rfl) rfl (WP.ret ⟨?_, s⟩)
   rw [hw, hc]
   rfl
theorem Zo8 (s : Ss W (XrD b f :: Hs) w) : WP (Zbv (some (pt b 0))) w (fun r w' => strI r.Text = [] ∧ Ss W (XrD b f :: Hs) w') := by
 unfold Zbv
 refine WP.slot' s (fun _ w s => WP.nilck ?_)
 obtain ⟨rr, hq, s1⟩ := s.openx 0 rfl
 refine WP.ld (x := rr.l) s1 0 rfl (o := 0) (by simp [Addr.add]) (Zcg _) ?_
 rw [hq.2.2.2]
 exact WP.ite (fun _ => WP.nilck (ZuC s (fun x => WP.ret ⟨rfl, s⟩))) (fun h => absurd rfl h)
theorem ZsJ {β : Type} {x : Wd} {xs : List Wd} {F : M β} {Q : β → World → Prop} (s : Ss W (XrA b e m (x :: xs) sn :: Hs) w) (k : ∀ w, Ss W (XrA b e m xs sn :: Hs) w → WP F w Q) :
  WP (nilck (some (pt b 0)) >>= fun p8 => ld cL p8 >>= fun x9 => cut 2 x9 (some 1) none none >>= fun r10 => nilck (some (pt b 0)) >>= fun p11 => st cL p11 r10 >>= fun _ => F) w Q := by
 refine WP.nilck ?_
 obtain ⟨⟨rr, ⟨wl, sp⟩, q⟩, hq, s1⟩ := Zhg s
 have hw := hq.ws_
 simp only at hw
 cases wl with
 | nil => cases hw
 | cons y ys =>
  rw [List.map_cons] at hw
  obtain ⟨h1, h2⟩ := List.cons.inj hw
  refine WP.ld (x := rr.l) s1 0 rfl (o := 0) (by simp [Addr.add]) (Zcg _) (WP.cuttail s1 1 rfl rfl (fun r s1 => WP.nilck (WP.st s1 0 rfl (o := 0) (by simp [Addr.add]) (Zep _ _) (fun w s1 => k w ?_))))
  exact Zlo (q := (⟨r, rr.end_, rr.r, rr.seen, rr.err, rr.at_⟩, (ys, sp), q)) ⟨hq.end_, hq.err, h2, fun x hx => hq.ne x (List.mem_cons_of_mem _ hx), hq.seen_, hq.sc⟩ s1
def XIsR (W : World) (Hs : List HP) (b : Nat) (e : Int) (m : ZbN) (ws : List Wd) (sn : List (List Int)) (r : Bool) (w : World) : Option (List Wd) → Prop
 | some xs => r = true ∧ Ss W (XrA b e m xs sn :: Hs) w
 | none => r = false ∧ Ss W (XrA b e m ws sn :: Hs) w
theorem Zei (s : Ss W (XrA b e m ws sn :: Hs) w) {t : ByteArray} {t' : List Int} (ht : strI t = t') : WP (ZaE (some (pt b 0)) t) w (fun r w' => XIsR W Hs b e m ws sn r w' (Zcs t' ws)) := by
 subst ht
 unfold ZaE
 refine WP.nilck ?_
 obtain ⟨q, hq, s1⟩ := Zhg s
 have hl := (s1.vec_len (i := 1) rfl).1
 have hw := hq.ws_
 refine WP.ld (x := q.1.l) s1 0 rfl (o := 0) (by simp [Addr.add]) (Zcg _) ?_
 cases hc : q.2.1.1 with
 | nil =>
  rw [hc] at hw hl
  subst hw
  refine WP.step (R := fun y w' => y = true ∧ w = w') (WP.ite (fun _ => WP.ret ⟨rfl, rfl⟩) (fun h => absurd (by rw [hl]; rfl) h)) ?_
  rintro _ _ ⟨rfl, rfl⟩
  exact WP.ite (fun _ => WP.ret ⟨rfl, s⟩) (fun h => absurd rfl h)
 | cons x xs =>
  rw [hc] at hw hl
  rw [List.length_cons] at hl
  refine WP.step (R := fun y w' => y = !decide (strI x.Text = strI t) ∧ w = w') (WP.ite (fun h => absurd h (by omega)) (fun _ => ?_)) ?_
  ·refine WP.nilck (WP.ld (x := q.1.l) s1 0 rfl (o := 0) (by simp [Addr.add]) (Zcg _) (WP.rdxp0 s1 1 rfl ZbO (by omega) (x := x) (by rw [hc]; rfl) rfl (Za4 _) (WP.ret ⟨?_, rfl⟩)))
   congr 1
   rw [Bool.eq_iff_iff, beq_iff_eq, decide_eq_true_iff, Zbl]
  rintro _ _ ⟨rfl, rfl⟩
  rw [List.map_cons] at hw
  subst hw
  rw [show Zcs (strI t) (wrOf x :: xs.map wrOf) = if strI x.Text = strI t then some (xs.map wrOf) else none from rfl]
  by_cases hh : strI x.Text = strI t
  ·rw [if_pos hh]
   refine WP.ite (fun h => by simp [hh] at h) (fun _ => ZsJ s (fun w s => WP.ret ⟨rfl, s⟩))
  ·rw [if_neg hh]
   exact WP.ite (fun _ => WP.ret ⟨rfl, s⟩) (fun h => by simp [hh] at h)
theorem Zom (s : Ss W (XrD b f :: Hs) w) (t : ByteArray) : WP (ZaE (some (pt b 0)) t) w (fun r w' => r = false ∧ Ss W (XrD b f :: Hs) w') := by
 unfold ZaE
 refine WP.nilck ?_
 obtain ⟨rr, hq, s1⟩ := s.openx 0 rfl
 refine WP.ld (x := rr.l) s1 0 rfl (o := 0) (by simp [Addr.add]) (Zcg _) ?_
 rw [hq.2.2.2]
 refine WP.step (R := fun y w' => y = true ∧ w = w') (WP.ite (fun _ => WP.ret ⟨rfl, rfl⟩) (fun h => absurd rfl h)) ?_
 rintro _ _ ⟨rfl, rfl⟩
 exact WP.ite (fun _ => WP.ret ⟨rfl, s⟩) (fun h => absurd rfl h)
def Zuv (W : World) (Hs : List HP) (b : Nat) (e : Int) (m : ZbN) (sn : List (List Int)) (r : Zba) (w : World) : List Wd → Prop
 | [] => strI r.Text = [] ∧ Ss W (XrD b (161, e) :: Hs) w
 | x :: xs => wrOf r = x ∧ Ss W ((if x.1 = Zcu then XrD b (160, x.2) else XrA b e m xs sn) :: Hs) w
theorem Zol (s : Ss W (XrA b e m ws sn :: Hs) w) : WP (ZbH (some (pt b 0))) w (fun r w' => Zuv W Hs b e m sn r w' ws) := by
 unfold ZbH
 refine WP.slot' s (fun _ w s => WP.step (Ziz s) ?_)
 rintro r w ⟨hr, s⟩
 have hne : ∀ x ∈ ws, x.1 ≠ [] := by
  obtain ⟨q, hq, -⟩ := Zhg s
  exact fun x hx => (hq.ne x hx).1
 have hT : (wrOf r).1 = strI r.Text := rfl
 have hA : (wrOf r).2 = r.At := rfl
 refine WP.slot' s (fun _ w s => ?_)
 cases ws with
 | nil =>
  rw [List.headD_nil] at hr
  rw [hr] at hT
  refine WP.ite (fun _ => WP.nilck (ZsI s (WP.step (ZdQ s (by decide) e) (fun _ w s => WP.ret ⟨hT.symm, s⟩)))) (fun h => absurd ?_ h)
  rw [Zbl]
  exact hT.symm
 | cons x xs =>
  rw [List.headD_cons] at hr
  have hx := hne x List.mem_cons_self
  rw [← hr, hT] at hx
  refine WP.ite (fun h => ?_) (fun _ => WP.ite (fun h => ?_) (fun h => ?_))
  ·rw [Zbl] at h
   exact absurd h hx
  ·rw [Zbl, ZeU] at h
   refine WP.step (ZdQ s (by decide) r.At) (fun _ w s => WP.ret ⟨hr, ?_⟩)
   rw [← hr, hT, if_pos h]
   exact s
  ·rw [Zbl, ZeU] at h
   refine ZsJ s (fun w s => WP.ret ⟨hr, ?_⟩)
   rw [← hr, hT, if_neg h]
   exact s
def ZuO {α : Type} (W : World) (Hs : List HP) (b : Nat) (e : Int) (m : ZbN) (sn : List (List Int)) (r : α) (w : World) : PE (α × List Wd) → Prop
 | .ok q => r = q.1 ∧ Ss W (XrA b e m q.2 sn :: Hs) w
 | .error f => Ss W (XrD b f :: Hs) w
def Zll (W : World) (Hs : List HP) (b : Nat) (e : Int) (sn : List (List Int)) (w : World) : PE (ZbN × List Wd) → Prop
 | .ok q => Ss W (XrA b e q.1 q.2 sn :: Hs) w
 | .error f => Ss W (XrD b f :: Hs) w
theorem ZrN (lo hi : Int) : numX [] lo hi = -1 := rfl
theorem ZiP {t : List Int} {lo hi n : Int} (h : numR t lo hi = some n) : numX t lo hi = n := by
 unfold numX
 rw [h]
theorem ZiQ {t : List Int} {lo hi : Int} (h : numR t lo hi = none) : numX t lo hi = -1 := by
 unfold numX
 rw [h]
theorem Zmd {t : List Int} {lo hi n : Int} (h : numR t lo hi = some n) : lo ≤ n ∧ n ≤ hi := by
 unfold numR at h
 split at h
 ·cases h
 ·split at h
  ·rename_i h2
   simp only [Option.some.injEq] at h
   omega
  ·cases h
theorem ZiB (s : Ss W (XrA b e m ws sn :: Hs) w) {lo hi : Int} (h0 : 0 ≤ lo) (hh : hi ≤ 65535) : WP (ZbT (some (pt b 0)) lo hi) w (fun r w' => ZuO W Hs b e m sn r w' (numP e lo hi ws)) := by
 unfold ZbT
 refine WP.step (Zol s) ?_
 intro r w h
 cases ws with
 | nil =>
  obtain ⟨hr, s⟩ := h
  refine WP.slot' s (fun _ w s => WP.step (Zja r.Text h0 hh) ?_)
  rintro _ _ ⟨rfl, rfl⟩
  rw [hr, ZrN]
  exact WP.ite (fun _ => WP.step (ZfO s _ _) (fun _ w s => WP.ret s)) (fun h => absurd (by decide) h)
 | cons x xs =>
  obtain ⟨hr, s1⟩ := h
  clear s
  subst hr
  have hT : (wrOf r).1 = strI r.Text := rfl
  rw [show numP e lo hi (wrOf r :: xs) = if (wrOf r).1 = Zcu then .error (160, (wrOf r).2) else match numR (wrOf r).1 lo hi with
   | none => .error (162, (wrOf r).2)
   | some n => .ok (n, xs) from rfl]
  by_cases hc : (wrOf r).1 = Zcu
  ·rw [if_pos hc] at s1 ⊢
   refine WP.slot' s1 (fun _ w s => WP.step (Zja r.Text h0 hh) ?_)
   rintro n _ ⟨-, rfl⟩
   exact WP.ite (fun _ => WP.step (ZfO s _ _) (fun _ w s => WP.ret s)) (fun _ => WP.ret s)
  ·rw [if_neg hc] at s1 ⊢
   refine WP.slot' s1 (fun _ w s => WP.step (Zja r.Text h0 hh) ?_)
   rintro _ _ ⟨rfl, rfl⟩
   rw [hT]
   cases hn : numR (strI r.Text) lo hi with
   | none =>
    rw [ZiQ hn]
    exact WP.ite (fun _ => WP.step (ZdQ s (by decide) r.At) (fun _ w s => WP.ret s)) (fun h => absurd (by decide) h)
   | some v =>
    rw [ZiP hn]
    have := Zmd hn
    exact WP.ite (fun h => absurd h (by omega)) (fun _ => WP.ret ⟨rfl, s⟩)
def ZpL (e : Int) : List Wd → PF
 | [] => (161, e)
 | x :: _ => (160, x.2)
theorem ZmD (s : Ss W (XrA b e m ws sn :: Hs) w) : WP (Zb9 (some (pt b 0))) w (fun _ w' => Ss W (XrD b (ZpL e ws) :: Hs) w') := by
 unfold Zb9
 refine WP.step (Ziz s) ?_
 rintro r w ⟨hr, s⟩
 have hne : ∀ x ∈ ws, x.1 ≠ [] := by
  obtain ⟨q, hq, -⟩ := Zhg s
  exact fun x hx => (hq.ne x hx).1
 have hT : (wrOf r).1 = strI r.Text := rfl
 have hA : (wrOf r).2 = r.At := rfl
 refine WP.slot' s (fun _ w s => ?_)
 cases ws with
 | nil =>
  rw [List.headD_nil] at hr
  rw [hr] at hT
  refine WP.ite (fun _ => WP.nilck (ZsI s (WP.step (ZdQ s (by decide) e) (fun _ w s => WP.ret s)))) (fun h => absurd ?_ h)
  rw [Zbl]
  exact hT.symm
 | cons x xs =>
  rw [List.headD_cons] at hr
  have hx := hne x List.mem_cons_self
  rw [← hr, hT] at hx
  refine WP.ite (fun h => ?_) (fun _ => WP.step (ZdQ s (by decide) r.At) (fun _ w s => WP.ret ?_))
  ·rw [Zbl] at h
   exact absurd h hx
  ·rw [← hA, hr] at s
   exact s
end
theorem ZpS : strI ZtU = tx "permit" := by decide +kernel
theorem ZsQ : strI ZtT = tx "deny" := by decide +kernel
theorem ZpR : strI ZtS = tx "reject" := by decide +kernel
theorem ZtF : strI ZtR = tx "arp" := by decide +kernel
theorem ZtE : strI ZtQ = tx "ip4" := by decide +kernel
theorem ZtD : strI ZtP = tx "ip6" := by decide +kernel
def Ztz (m : ZbN) (X : PE (Int × List Wd)) : PE (ZbN × List Wd) := match X with
 | .error f => .error f
 | .ok (n, r) => .ok ({ m with Proto := n }, r)
def ZnS (e k : Int) : List Wd → Option (PE (Int × List Wd))
 | [] => none
 | v :: r => if ZcO v.1 = true then some (Zfy e k v r) else none
def ZrZ (ws : List Wd) : Int × List Wd := match Zcs (tx "arp") ws with
 | some r => (1, r)
 | none => match Zcs (tx "ip4") ws with
  | some r => (2, r)
  | none => match Zcs (tx "ip6") ws with
   | some r => (3, r)
   | none => (0, ws)
def ZhD (e k : Int) (ws : List Wd) : PE ((Int × Int) × List Wd) := match ZnS e k ws with
 | none => if k = 0 then .error (ZpL e ws) else .ok ((k, 0), ws)
 | some (.error f) => .error f
 | some (.ok (n, r)) => .ok ((k, n), r)
def ZsN (e : Int) (ws : List Wd) : PE ((Int × Int) × List Wd) := match Zcs (tx "any") ws with
 | some r => .ok ((0, 0), r)
 | none => ZhD e (ZrZ ws).1 (ZrZ ws).2
theorem Zrp (e : Int) (ws : List Wd) : ZsN e ws = ZgK e ws := by
 cases ws with
 | nil => rfl
 | cons w ws =>
  have hk : idxT Zmm w.1 = if tx "arp" = w.1 then some 0 else if tx "ip4" = w.1 then some 1 else if tx "ip6" = w.1 then some 2 else none := by
   unfold Zmm
   rw [Zfz, Zfz, Zfz]
   split
   ·rfl
   ·split
    ·rfl
    ·split
     ·rfl
     ·rfl
  have e1 : ∀ t, Zcs t (w :: ws) = if w.1 = t then some ws else none := fun t => rfl
  have beh : ∀ k : Nat, ZhD e ((k : Int) + 1) ws = ZmK e k ws := by
   intro k
   unfold ZhD ZmK ZnS
   cases ws with
   | nil =>
    simp only
    rw [if_neg (by omega)]
   | cons v r =>
    simp only
    by_cases hb : ZcO v.1 = true
    ·rw [if_pos hb, if_pos hb]
     cases Zfy e ((k : Int) + 1) v r with
     | error f => rfl
     | ok q => rfl
    ·rw [if_neg hb, if_neg hb]
     simp only
     rw [if_neg (by omega)]
  unfold ZsN ZrZ
  rw [ZhM, hk]
  simp only [e1]
  by_cases h0 : w.1 = tx "any"
  ·simp only [if_pos h0]
  by_cases h1 : w.1 = tx "arp"
  ·simp only [if_neg h0, if_pos h1, if_pos h1.symm]
   exact beh 0
  have g1 : ¬ tx "arp" = w.1 := fun h => h1 h.symm
  by_cases h2 : w.1 = tx "ip4"
  ·simp only [if_neg h0, if_neg h1, if_neg g1, if_pos h2, if_pos h2.symm]
   exact beh 1
  have g2 : ¬ tx "ip4" = w.1 := fun h => h2 h.symm
  by_cases h3 : w.1 = tx "ip6"
  ·simp only [if_neg h0, if_neg h1, if_neg g1, if_neg h2, if_neg g2, if_pos h3, if_pos h3.symm]
   exact beh 2
  have g3 : ¬ tx "ip6" = w.1 := fun h => h3 h.symm
  simp only [if_neg h0, if_neg h1, if_neg g1, if_neg h2, if_neg g2, if_neg h3, if_neg g3]
  by_cases hb : ZcO w.1 = true
  ·have hp : ZnS e 0 (w :: ws) = some (Zfy e 0 w ws) := if_pos hb
   unfold ZhD
   rw [hp, if_pos hb]
   cases Zfy e 0 w ws with
   | error f => rfl
   | ok q => rfl
  ·have hp : ZnS e 0 (w :: ws) = none := if_neg hb
   unfold ZhD
   rw [hp, if_neg hb]
   rfl
def actX (e : Int) (ws : List Wd) : PE (ZbN × List Wd) := match Zcs (tx "permit") ws with
 | some r => (match Ze2 e 0 r with
  | .error f => .error f
  | .ok (c, r) => .ok ({ zRl with Act := 1, Class := c }, r))
 | none => match Zcs (tx "deny") ws with
  | some r => .ok ({ zRl with Act := 2 }, r)
  | none => match Zcs (tx "reject") ws with
   | some r => .ok ({ zRl with Act := 3 }, r)
   | none => .error (ZpL e ws)
theorem Ztf (e : Int) (ws : List Wd) : Zh2 e ws = match actX e ws with
  | .error f => .error f
  | .ok (m, r) => Zjb m (ZgK e r) := by
 cases ws with
 | nil => rfl
 | cons w ws =>
  have hk : idxT actN w.1 = if tx "permit" = w.1 then some 0 else if tx "deny" = w.1 then some 1 else if tx "reject" = w.1 then some 2 else none := by
   unfold actN
   rw [Zfz, Zfz, Zfz]
   split
   ·rfl
   ·split
    ·rfl
    ·split
     ·rfl
     ·rfl
  have e1 : ∀ t, Zcs t (w :: ws) = if w.1 = t then some ws else none := fun t => rfl
  have hh : Zh2 e (w :: ws) = match idxT actN w.1 with
   | none => .error (160, w.2)
   | some a => match Ze2 e a ws with
    | .error f => .error f
    | .ok (c, r) => match ZgK e r with
     | .error f => .error f
     | .ok (k, r) => .ok ({ zRl with Act := (a : Int) + 1, Class := c, Kind := k.1, Proto := k.2 }, r) := rfl
  have c1 : Ze2 e 1 ws = .ok (0, ws) := by unfold Ze2; rw [if_neg (by decide)]
  have c2 : Ze2 e 2 ws = .ok (0, ws) := by unfold Ze2; rw [if_neg (by decide)]
  rw [hh, hk]
  unfold actX
  simp only [e1]
  by_cases h1 : w.1 = tx "permit"
  ·simp only [if_pos h1, if_pos h1.symm]
   cases Ze2 e 0 ws with
   | error f => rfl
   | ok q =>
    simp only
    unfold Zjb
    cases ZgK e q.2 with
    | error f => rfl
    | ok q2 => rfl
  have g1 : ¬ tx "permit" = w.1 := fun h => h1 h.symm
  by_cases h2 : w.1 = tx "deny"
  ·simp only [if_neg h1, if_neg g1, if_pos h2, if_pos h2.symm, c1]
   unfold Zjb
   cases ZgK e ws with
   | error f => rfl
   | ok q2 => rfl
  have g2 : ¬ tx "deny" = w.1 := fun h => h2 h.symm
  by_cases h3 : w.1 = tx "reject"
  ·simp only [if_neg h1, if_neg g1, if_neg h2, if_neg g2, if_pos h3, if_pos h3.symm, c2]
   unfold Zjb
   cases ZgK e ws with
   | error f => rfl
   | ok q2 => rfl
  have g3 : ¬ tx "reject" = w.1 := fun h => h3 h.symm
  simp only [if_neg h1, if_neg g1, if_neg h2, if_neg g2, if_neg h3, if_neg g3]
  rfl
section
variable {W w : World} {Hs : List HP} {b : Nat} {e : Int} {m : ZbN} {ws : List Wd} {sn : List (List Int)} {f : PF}
theorem ZsL (s : Ss W (XrA b e zRl ws sn :: Hs) w) : WP (ZaT (some (pt b 0))) w (fun _ w' => Zll W Hs b e sn w' (actX e ws)) := by
 unfold ZaT ZaT.K1 actX
 have act : ∀ {w : World} {a : Int} {xs : List Wd} {F : M Unit} {Q : Unit → World → Prop}, Ss W (XrA b e zRl xs sn :: Hs) w → (∀ w, Ss W (XrA b e { zRl with Act := a } xs sn :: Hs) w → WP F w Q) → WP (nilck (some (pt b 0)) >>= fun p => st (cI .i64) (Addr.add p 2) a >>= fun _ => F) w Q := by
  intro w a xs F Q s k
  refine WP.nilck ?_
  have := Zlc (o := 0) (g := fun _ => F) (m' := { zRl with Act := a }) s (fun r => { r with Act := a }) (fun r => Zdu r a) (fun r h => ⟨rfl, h.2⟩) (fun r => ⟨rfl, rfl⟩) ⟨rfl, rfl⟩ (fun w s => k w s)
  rwa [show Addr.add (Addr.add (pt b 0) 2) 0 = Addr.add (pt b 0) 2 by rw [Zeo]] at this
 refine WP.step (Zei s ZpS) ?_
 intro y w h
 cases h1 : Zcs (tx "permit") ws with
 | some r =>
  rw [h1] at h
  obtain ⟨rfl, s⟩ := h
  refine WP.ite (fun _ => act s (fun w s => WP.step (Zei s Zou) ?_)) (fun h => absurd rfl h)
  intro y w h
  have hcl : Ze2 e 0 r = match Zcs (tx "class") r with | some r => numP e 0 7 r | none => .ok (0, r) := by
   unfold Ze2
   rw [if_pos rfl]
   cases Zcs (tx "class") r <;> rfl
  dsimp only
  rw [hcl]
  cases h2 : Zcs (tx "class") r with
  | some r2 =>
   rw [h2] at h
   obtain ⟨rfl, s⟩ := h
   refine WP.ite (fun _ => WP.step (ZiB s (by decide) (by decide)) ?_) (fun h => absurd rfl h)
   intro v w h
   simp only
   cases hn : numP e 0 7 r2 with
   | error f =>
    rw [hn] at h
    exact WP.nilck (ZnB (o := 1) h (fun r => { r with Class := v }) (fun r => Zey r v) (fun w s => WP.ret s))
   | ok q =>
    rw [hn] at h
    obtain ⟨rfl, s⟩ := h
    exact WP.nilck (Zlc (o := 1) (m' := { zRl with Act := 1, Class := q.1 }) s (fun r => { r with Class := q.1 }) (fun r => Zey r _) (fun r h => ⟨h.1, rfl, h.2.2⟩) (fun r => ⟨rfl, rfl⟩) ⟨rfl, rfl⟩ (fun w s => WP.ret s))
  | none =>
   rw [h2] at h
   obtain ⟨rfl, s⟩ := h
   exact WP.ite (fun h => by cases h) (fun _ => WP.ret s)
 | none =>
  rw [h1] at h
  obtain ⟨rfl, s⟩ := h
  refine WP.ite (fun h => by cases h) (fun _ => WP.step (Zei s ZsQ) ?_)
  intro y w h
  simp only
  cases h2 : Zcs (tx "deny") ws with
  | some r =>
   rw [h2] at h
   obtain ⟨rfl, s⟩ := h
   exact WP.ite (fun _ => act s (fun w s => WP.ret s)) (fun h => absurd rfl h)
  | none =>
   rw [h2] at h
   obtain ⟨rfl, s⟩ := h
   refine WP.ite (fun h => by cases h) (fun _ => WP.step (Zei s ZpR) ?_)
   intro y w h
   simp only
   cases h3 : Zcs (tx "reject") ws with
   | some r =>
    rw [h3] at h
    obtain ⟨rfl, s⟩ := h
    exact WP.ite (fun _ => act s (fun w s => WP.ret s)) (fun h => absurd rfl h)
   | none =>
    rw [h3] at h
    obtain ⟨rfl, s⟩ := h
    exact WP.ite (fun h => by cases h) (fun _ => WP.step (ZmD s) (fun _ w s => WP.ret s))
def Zut (W : World) (Hs : List HP) (b : Nat) (e : Int) (m : ZbN) (ws : List Wd) (sn : List (List Int)) (y : Bool) (w : World) : Option (PE (Int × List Wd)) → Prop
 | none => y = false ∧ Ss W (XrA b e m ws sn :: Hs) w
 | some X => y = true ∧ Zll W Hs b e sn w (Ztz m X)
theorem worT {β : Type} {p q : Prop} [Decidable p] [Decidable q] {b : Bool} {f : Bool → M β} {Q : β → World → Prop} {a : Bool} (ha : a = decide p) (hb : b = decide q) (k : WP (f (decide (p ∨ q))) w Q) : WP ((if a = true then pure true else pure b) >>= f) w Q := by
 subst ha hb
 refine WP.step (R := fun y w' => y = decide (p ∨ q) ∧ w = w') (WP.ite (fun h => WP.ret ⟨(decide_eq_true (.inl (of_decide_eq_true h))).symm, rfl⟩) (fun h => WP.ret ⟨decide_eq_decide.2 ⟨.inr, fun h' => h'.elim (fun h' => absurd (decide_eq_true h') h) id⟩, rfl⟩)) ?_
 rintro _ _ ⟨rfl, rfl⟩
 exact k
theorem txB (t : ByteArray) {u : ByteArray} {x : List Int} (h : strI u = x) : (t.toList == u.toList) = decide (strI t = x) := by
 rw [Bool.eq_iff_iff, beq_iff_eq, decide_eq_true_iff, Zbl, h]
theorem Zrk (s : Ss W (XrA b e m ws sn :: Hs) w) : WP (Zav (some (pt b 0))) w (fun y w' => Zut W Hs b e m ws sn y w' (ZnS e m.Kind ws)) := by
 unfold Zav Zav.K1
 refine WP.step (Ziz s) ?_
 rintro r w ⟨hr, s⟩
 have hT : (wrOf r).1 = strI r.Text := rfl
 have hA : (wrOf r).2 = r.At := rfl
 have hbeg : ZcO (strI r.Text) = decide ((((strI r.Text = tx "tcp" ∨ strI r.Text = tx "udp") ∨ strI r.Text = tx "icmp") ∨ strI r.Text = tx "icmp6") ∨ strI r.Text = tx "proto") := by
  unfold ZcO ZgC
  rw [Bool.eq_iff_iff, Bool.or_eq_true, decide_eq_true_iff, decide_eq_true_iff]
  constructor
  ·rintro (h | h)
   ·split at h
    ·exact .inl (.inl (.inl (.inl ‹_›)))
    ·split at h
     ·exact .inl (.inl (.inl (.inr ‹_›)))
     ·split at h
      ·exact .inl (.inl (.inr ‹_›))
      ·split at h
       ·exact .inl (.inr ‹_›)
       ·cases h
   ·exact .inr h
  ·rintro ((((h | h) | h) | h) | h)
   ·left; rw [h]; decide
   ·left; rw [h]; decide
   ·left; rw [h]; decide
   ·left; rw [h]; decide
   ·exact .inr h
 refine WP.slot' s (fun _ w s => WP.nilck (Zsr s ?_))
 refine WP.step (R := fun y w' => y = decide (m.Kind = 1 ∧ ZcO (strI r.Text) = true) ∧ w = w') (WP.ite (fun h => ?_) (fun h => WP.ret ⟨(decide_eq_false (fun h' => h h'.1)).symm, rfl⟩)) ?_
 ·refine WP.step (R := fun y w' => y = decide (strI r.Text = tx "tcp" ∨ strI r.Text = tx "udp") ∧ w = w') (WP.ite (fun h => WP.ret ⟨?_, rfl⟩) (fun h => WP.ret ⟨?_, rfl⟩)) ?_
  ·rw [Zbl, ZmL] at h
   exact (decide_eq_true (.inl h)).symm
  ·rw [Zbl, ZmL] at h
   rw [txB _ Zot]
   exact decide_eq_decide.2 ⟨.inr, fun h' => h'.elim (fun h' => absurd h' h) id⟩
  rintro _ _ ⟨rfl, rfl⟩
  refine worT rfl (txB _ Zl3) (worT rfl (txB _ Zj9) (worT rfl (txB _ Zj8) (WP.ret ⟨?_, rfl⟩)))
  rw [← hbeg]
  cases hb : ZcO (strI r.Text) with
  | true => exact (decide_eq_true ⟨h, rfl⟩).symm
  | false => exact (decide_eq_false (fun h' => by cases h'.2)).symm
 rintro _ _ ⟨rfl, rfl⟩
 have setP : ∀ {w : World} {n : Int} {xs : List Wd}, Ss W (XrA b e m xs sn :: Hs) w → WP (nilck (some (pt b 0)) >>= fun p => st (cI .i64) (Addr.add (Addr.add p 2) 3) n >>= fun _ => (pure true : M Bool)) w (fun y w' => y = true ∧ Ss W (XrA b e { m with Proto := n } xs sn :: Hs) w') := fun {w n xs} s => WP.nilck (Zlc (m' := { m with Proto := n }) s (fun r => { r with Proto := n }) (fun r => Zdp r n) (fun r h => ⟨h.1, h.2.1, h.2.2.1, rfl, h.2.2.2.2⟩) (fun r => ⟨rfl, rfl⟩) ⟨rfl, rfl⟩ (fun w s => WP.ret ⟨rfl, s⟩))
 cases ws with
 | nil =>
  rw [List.headD_nil] at hr
  rw [hr] at hT
  have hT : strI r.Text = [] := hT.symm
  have nob : ¬ (m.Kind = 1 ∧ ZcO (strI r.Text) = true) := fun h' => by rw [hT] at h'; exact absurd h'.2 (by decide)
  refine WP.ite (fun h => absurd (of_decide_eq_true h) nob) (fun _ => ?_)
  refine WP.step (Zei s ZmL) ?_
  rintro _ w ⟨rfl, s⟩
  refine WP.ite (fun h => by cases h) (fun _ => WP.step (Zei s Zot) ?_)
  rintro _ w ⟨rfl, s⟩
  refine WP.ite (fun h => by cases h) (fun _ => WP.step (Zei s Zl3) ?_)
  rintro _ w ⟨rfl, s⟩
  refine WP.ite (fun h => by cases h) (fun _ => WP.step (Zei s Zj9) ?_)
  rintro _ w ⟨rfl, s⟩
  refine WP.ite (fun h => by cases h) (fun _ => WP.step (Zei s Zj8) ?_)
  rintro _ w ⟨rfl, s⟩
  exact WP.ite (fun h => by cases h) (fun _ => WP.ret ⟨rfl, s⟩)
 | cons x xs =>
  rw [List.headD_cons] at hr
  have hx : x.1 = strI r.Text := by rw [← hr]; rfl
  have e1 : ∀ t, Zcs t (x :: xs) = if x.1 = t then some xs else none := fun t => rfl
  rw [show ZnS e m.Kind (x :: xs) = if ZcO x.1 = true then some (Zfy e m.Kind x xs) else none from rfl]
  unfold Zfy
  refine WP.ite (fun h => ?_) (fun h => ?_)
  ·obtain ⟨h1, h2⟩ := of_decide_eq_true h
   rw [if_pos (by rw [hx]; exact h2), if_pos h1]
   refine WP.step (ZdQ s (by decide) r.At) (fun _ w s => WP.ret ⟨rfl, ?_⟩)
   rw [← hA, hr] at s
   exact s
  have hk : ZcO x.1 = true → ¬ m.Kind = 1 := fun hb h1 => h (decide_eq_true ⟨h1, by rw [← hx]; exact hb⟩)
  rw [← hx] at hbeg
  -- one name after the other
  refine WP.step (Zei s ZmL) ?_
  intro y w h
  rw [e1] at h
  by_cases t1 : x.1 = tx "tcp"
  ·rw [if_pos t1] at h
   obtain ⟨rfl, s⟩ := h
   have hb : ZcO x.1 = true := by rw [t1]; decide
   rw [if_pos hb, if_neg (hk hb)]
   have hn : ZgC x.1 = some 6 := by rw [t1]; decide
   rw [hn]
   exact WP.ite (fun _ => setP s) (fun h => absurd rfl h)
  rw [if_neg t1] at h
  obtain ⟨rfl, s⟩ := h
  refine WP.ite (fun h => by cases h) (fun _ => WP.step (Zei s Zot) ?_)
  intro y w h
  rw [e1] at h
  by_cases t2 : x.1 = tx "udp"
  ·rw [if_pos t2] at h
   obtain ⟨rfl, s⟩ := h
   have hb : ZcO x.1 = true := by rw [t2]; decide
   rw [if_pos hb, if_neg (hk hb)]
   have hn : ZgC x.1 = some 17 := by rw [t2]; decide
   rw [hn]
   exact WP.ite (fun _ => setP s) (fun h => absurd rfl h)
  rw [if_neg t2] at h
  obtain ⟨rfl, s⟩ := h
  refine WP.ite (fun h => by cases h) (fun _ => WP.step (Zei s Zl3) ?_)
  intro y w h
  rw [e1] at h
  by_cases t3 : x.1 = tx "icmp"
  ·rw [if_pos t3] at h
   obtain ⟨rfl, s⟩ := h
   have hb : ZcO x.1 = true := by rw [t3]; decide
   rw [if_pos hb, if_neg (hk hb)]
   have hn : ZgC x.1 = some 1 := by rw [t3]; decide
   rw [hn]
   exact WP.ite (fun _ => setP s) (fun h => absurd rfl h)
  rw [if_neg t3] at h
  obtain ⟨rfl, s⟩ := h
  refine WP.ite (fun h => by cases h) (fun _ => WP.step (Zei s Zj9) ?_)
  intro y w h
  rw [e1] at h
  by_cases t4 : x.1 = tx "icmp6"
  ·rw [if_pos t4] at h
   obtain ⟨rfl, s⟩ := h
   have hb : ZcO x.1 = true := by rw [t4]; decide
   rw [if_pos hb, if_neg (hk hb)]
   have hn : ZgC x.1 = some 58 := by rw [t4]; decide
   rw [hn]
   exact WP.ite (fun _ => setP s) (fun h => absurd rfl h)
  rw [if_neg t4] at h
  obtain ⟨rfl, s⟩ := h
  have hn : ZgC x.1 = none := by
   unfold ZgC
   rw [if_neg t1, if_neg t2, if_neg t3, if_neg t4]
  refine WP.ite (fun h => by cases h) (fun _ => WP.step (Zei s Zj8) ?_)
  intro y w h
  rw [e1] at h
  by_cases t5 : x.1 = tx "proto"
  ·rw [if_pos t5] at h
   obtain ⟨rfl, s⟩ := h
   have hb : ZcO x.1 = true := by rw [t5]; decide
   rw [if_pos hb, if_neg (hk hb), hn]
   refine WP.ite (fun _ => WP.step (ZiB s (by decide) (by decide)) ?_) (fun h => absurd rfl h)
   intro v w h
   show WP _ w (fun y w' => y = true ∧ Zll W Hs b e sn w' (Ztz m (numP e 1 255 xs)))
   cases hq : numP e 1 255 xs with
   | error f =>
    rw [hq] at h
    exact WP.nilck (ZnB (o := 3) h (fun r => { r with Proto := v }) (fun r => Zdp r v) (fun w s => WP.ret ⟨rfl, s⟩))
   | ok q =>
    rw [hq] at h
    obtain ⟨rfl, s⟩ := h
    exact setP s
  ·rw [if_neg t5] at h
   obtain ⟨rfl, s⟩ := h
   have hb : ¬ ZcO x.1 = true := by
    unfold ZcO
    rw [hn, decide_eq_false t5]
    decide
   rw [if_neg hb]
   exact WP.ite (fun h => by cases h) (fun _ => WP.ret ⟨rfl, s⟩)
theorem Zrj (s : Ss W (XrA b e m ws sn :: Hs) w) (h0 : m.Kind = 0 ∧ m.Proto = 0) : WP (Zag (some (pt b 0))) w (fun _ w' => Zll W Hs b e sn w' (Zjb m (ZgK e ws))) := by
 rw [← Zrp]
 unfold Zag ZsN
 have hm : ({ m with Kind := 0, Proto := 0 } : ZbN) = m := by
  obtain ⟨h1, h2⟩ := h0
  cases m
  simp only at h1 h2
  subst h1
  subst h2
  rfl
 have k1 : ∀ {w : World} {k : Int} {xs : List Wd}, Ss W (XrA b e m xs sn :: Hs) w → WP (Zag.K1 (some (pt b 0)) k) w (fun _ w' => Zll W Hs b e sn w' (Zjb m (ZhD e k xs))) := by
  intro w k xs s
  unfold Zag.K1
  refine WP.nilck (Zlc (m' := { m with Kind := k }) s (fun r => { r with Kind := k }) (fun r => ZfE r k) (fun r h => ⟨h.1, h.2.1, rfl, h.2.2.2⟩) (fun r => ⟨rfl, rfl⟩) ⟨rfl, rfl⟩ (fun w s => WP.step (Zrk s) ?_))
  intro y w h
  show WP _ w (fun _ w' => Zll W Hs b e sn w' (Zjb m (ZhD e k xs)))
  unfold ZhD
  have hkk : ({ m with Kind := k } : ZbN).Kind = k := rfl
  rw [hkk] at h
  cases hp : ZnS e k xs with
  | none =>
   rw [hp] at h
   obtain ⟨rfl, s⟩ := h
   refine WP.step (R := fun y w' => y = decide (k = 0) ∧ w = w') (WP.ite (fun _ => WP.ret ⟨?_, rfl⟩) (fun h => absurd (by decide) h)) ?_
   ·rw [Bool.eq_iff_iff, beq_iff_eq, decide_eq_true_iff]
   rintro _ _ ⟨rfl, rfl⟩
   refine WP.ite (fun h => WP.step (ZmD s) (fun _ w s => WP.ret ?_)) (fun h => WP.ret ?_)
   ·rw [if_pos (of_decide_eq_true h)]
    exact s
   ·rw [if_neg (fun h' => h (decide_eq_true h'))]
    have hm3 : ({ m with Kind := k } : ZbN) = { m with Kind := k, Proto := 0 } := by
     have := h0.2
     cases m
     simp only at this
     rw [this]
    rw [hm3] at s
    exact s
  | some X =>
   rw [hp] at h
   obtain ⟨rfl, h⟩ := h
   refine WP.step (R := fun y w' => y = false ∧ w = w') (WP.ite (fun h => absurd rfl h) (fun _ => WP.ret ⟨rfl, rfl⟩)) ?_
   rintro _ _ ⟨rfl, rfl⟩
   refine WP.ite (fun h => by cases h) (fun _ => WP.ret ?_)
   cases X with
   | error f => exact h
   | ok q => exact h
 refine WP.step (Zei s Zov) ?_
 intro y w h
 cases h1 : Zcs (tx "any") ws with
 | some r =>
  rw [h1] at h
  obtain ⟨rfl, s⟩ := h
  refine WP.ite (fun _ => WP.ret ?_) (fun h => absurd rfl h)
  show Ss W (XrA b e { m with Kind := 0, Proto := 0 } r sn :: Hs) w
  rw [hm]
  exact s
 | none =>
  rw [h1] at h
  obtain ⟨rfl, s⟩ := h
  unfold ZrZ
  refine WP.ite (fun h => by cases h) (fun _ => WP.step (Zei s ZtF) ?_)
  intro y w h
  cases h2 : Zcs (tx "arp") ws with
  | some r =>
   rw [h2] at h
   obtain ⟨rfl, s⟩ := h
   exact WP.ite (fun _ => k1 s) (fun h => absurd rfl h)
  | none =>
   rw [h2] at h
   obtain ⟨rfl, s⟩ := h
   refine WP.ite (fun h => by cases h) (fun _ => WP.step (Zei s ZtE) ?_)
   intro y w h
   simp only
   cases h3 : Zcs (tx "ip4") ws with
   | some r =>
    rw [h3] at h
    obtain ⟨rfl, s⟩ := h
    exact WP.ite (fun _ => k1 s) (fun h => absurd rfl h)
   | none =>
    rw [h3] at h
    obtain ⟨rfl, s⟩ := h
    refine WP.ite (fun h => by cases h) (fun _ => WP.step (Zei s ZtD) ?_)
    intro y w h
    simp only
    cases h4 : Zcs (tx "ip6") ws with
    | some r =>
     rw [h4] at h
     obtain ⟨rfl, s⟩ := h
     exact WP.ite (fun _ => k1 s) (fun h => absurd rfl h)
    | none =>
     rw [h4] at h
     obtain ⟨rfl, s⟩ := h
     exact WP.ite (fun h => by cases h) (fun _ => k1 s)
end
def bitB (c : Int) (t : Nat) : Int := c / 2 ^ (7 - t) % 2
def bitM (a : List Int) (i : Nat) : Int := bitB (a.getD (i / 8) 0) (i % 8)
def accB (f : Nat → Int) : Nat → Int
 | 0 => 0
 | t + 1 => 2 * accB f t + f t
theorem ZlU {f g : Nat → Int} : ∀ n, (∀ t, t < n → f t = g t) → accB f n = accB g n
 | 0, _ => rfl
 | n + 1, h => by
  unfold accB
  rw [ZlU n (fun t ht => h t (by omega)), h n (by omega)]
theorem Zto : ∀ (c : _root_.Fin 256) (k : _root_.Fin 9), (∀ t : _root_.Fin 8, bitB ((c.val : Int) / 2 ^ (8 - k.val) * 2 ^ (8 - k.val)) t.val = if t.val < k.val then bitB (c.val : Int) t.val else 0) := by decide +kernel
theorem Zts : ∀ (c : _root_.Fin 256), accB (bitB (c.val : Int)) 8 = (c.val : Int) := by decide +kernel
theorem Ztp (c : Int) (t : Nat) : bitB c t = 0 ∨ bitB c t = 1 := by unfold bitB; omega
theorem Znr {k : Int} {t : Nat} (h : t < 8) : t < ZfX k ↔ (t : Int) < k := by
 unfold ZfX
 omega
theorem Zq8 {c : Int} (h : 0 ≤ c ∧ c ≤ 255) (k : Int) {t : Nat} (ht : t < 8) : bitB (Zm3 c k) t = if (t : Int) < k then bitB c t else 0 := by
 have := Zto ⟨c.toNat, by omega⟩ ⟨ZfX k, by unfold ZfX; omega⟩ ⟨t, ht⟩
 simp only [show ((c.toNat : Nat) : Int) = c by omega] at this
 unfold Zm3
 rw [this]
 by_cases e : (t : Int) < k
 ·rw [if_pos e, if_pos ((Znr ht).2 e)]
 ·rw [if_neg e, if_neg (fun h => e ((Znr ht).1 h))]
theorem Zo4 {c : Int} (h : 0 ≤ c ∧ c ≤ 255) : accB (bitB c) 8 = c := by
 have := Zts ⟨c.toNat, by omega⟩
 simpa only [show ((c.toNat : Nat) : Int) = c by omega] using this
theorem Zse {c d : Int} (hc : 0 ≤ c ∧ c ≤ 255) (hd : 0 ≤ d ∧ d ≤ 255) (h : ∀ t, t < 8 → bitB c t = bitB d t) : c = d := by
 rw [← Zo4 hc, ← Zo4 hd]
 exact ZlU 8 h
theorem Zni {a : List Int} (h : Byt a) (i : Nat) : 0 ≤ a.getD i 0 ∧ a.getD i 0 ≤ 255 := by
 rw [List.getD]
 cases hx : a[i]? with
 | none => simp
 | some y => exact h y (List.mem_of_getElem? hx)
theorem Zps {a : List Int} {n : Int} {i : Nat} (h : i < 16) : (Zm6 a n).getD i 0 = Zm3 (a.getD i 0) (n - 8 * (i : Int)) := by
 unfold Zm6
 rw [List.getD, List.getElem?_map, List.getElem?_range h]
 rfl
theorem Zo1 {a : List Int} (hb : Byt a) {n : Int} {i : Nat} (h : i < 128) : bitM (Zm6 a n) i = if (i : Int) < n then bitM a i else 0 := by
 unfold bitM
 rw [Zps (by omega), Zq8 (Zni hb _) _ (by omega)]
 by_cases e : (i : Int) < n
 ·rw [if_pos e, if_pos (by omega)]
 ·rw [if_neg e, if_neg (by omega)]
theorem Zrs {a b : Vec Int 16} (ha : Byt a.l) (hb : Byt b.l) (h : ∀ i, i < 128 → bitM a.l i = bitM b.l i) : a = b := by
 refine Vec.eq (List.ext_getElem? fun j => ?_)
 have la := a.h
 have lb := b.h
 by_cases hj : j < 16
 ·have e : a.l.getD j 0 = b.l.getD j 0 := Zse (Zni ha j) (Zni hb j) (fun t ht => by
   have := h (8 * j + t) (by omega)
   unfold bitM at this
   rwa [show (8 * j + t) / 8 = j by omega, show (8 * j + t) % 8 = t by omega] at this)
  rw [List.getElem?_eq_getElem (by omega), List.getElem?_eq_getElem (by omega)]
  unfold List.getD at e
  rw [List.getElem?_eq_getElem (by omega), List.getElem?_eq_getElem (by omega)] at e
  exact congrArg some e
 ·rw [List.getElem?_eq_none (by omega), List.getElem?_eq_none (by omega)]
theorem Zm5 {a : Vec Int 16} (ha : Byt a.l) {n : Int} : Zqo a n = a ↔ ∀ i : Nat, i < 128 → n ≤ (i : Int) → bitM a.l i = 0 := by
 constructor
 ·intro h i hi hn
  have := Zo1 ha (n := n) hi
  rw [if_neg (by omega)] at this
  rw [← this]
  exact congrArg (fun v : Vec Int 16 => bitM v.l i) h.symm
 ·intro h
  refine Zrs (Zqp n ha) ha (fun i hi => ?_)
  refine (Zo1 ha hi).trans ?_
  by_cases e : (i : Int) < n
  ·rw [if_pos e]
  ·rw [if_neg e, h i hi (by omega)]
theorem Zsh {a : List Int} (h : a.drop 4 = List.replicate 12 0) {i : Nat} (hi : 32 ≤ i) (h2 : i < 128) : bitM a i = 0 := by
 unfold bitM
 have e := congrArg (fun l => l.getD (i / 8 - 4) 0) h
 simp only [List.getD, List.getElem?_drop] at e
 rw [show 4 + (i / 8 - 4) = i / 8 by omega, List.getElem?_replicate, if_pos (show i / 8 - 4 < 12 by omega)] at e
 have e : a.getD (i / 8) 0 = 0 := e
 rw [e]
 unfold bitB
 rw [Int.zero_ediv]
 rfl
theorem ZrA {ip : Zbs} (h : Zdh ip > 0) : Zdh ip = if ip.V = 4 then 32 else 128 := by
 unfold Zdh at h ⊢
 by_cases h6 : ip.V = 6
 ·rw [if_pos h6, if_neg (by omega)]
 ·rw [if_neg h6] at h ⊢
  split at h
  ·rename_i h4
   rw [if_pos h4, if_pos h4.1]
  ·omega
theorem Zsi {ip : Zbs} (h : Zdh ip > 0) {i : Nat} (hi : Zdh ip ≤ (i : Int)) (h2 : i < 128) : bitM ip.A.l i = 0 := by
 unfold Zdh at h hi
 by_cases h6 : ip.V = 6
 ·rw [if_pos h6] at hi
  omega
 ·rw [if_neg h6] at h hi
  split at h
  ·rename_i h4
   rw [if_pos h4] at hi
   exact Zsh h4.2 (by omega) h2
  ·omega
section
variable {W w : World} {Hs : List HP}
theorem vecg {a : Vec Int 16} (i : Nat) : Vec.g a (i : Int) 0 = a.l.getD i 0 := by
 unfold Vec.g
 rw [Int.toNat_natCast]
theorem Zp7 (s : Ss W Hs w) (ip : Zbs) : WP (Zbo ip) w (fun r w' => r = decide (Zdh ip > 0) ∧ Ss W Hs w') := by
 unfold Zbo
 refine WP.slot' s (fun _ w s => WP.ite (fun h => WP.ret ⟨?_, s⟩) (fun h => ?_))
 ·unfold Zdh
  by_cases h6 : ip.V = 6
  ·simp [h6]
  ·rw [if_neg h6, if_neg (fun h' => h h'.1)]
   simp [h6]
 have h4 : ip.V = 4 := Decidable.not_not.1 h
 have hs : Zdh ip > 0 ↔ ∀ j, 4 ≤ j → j < 16 → ip.A.l.getD j 0 = 0 := by
  have hl := ip.A.h
  unfold Zdh
  rw [if_neg (by omega)]
  constructor
  ·intro h j h1 h2
   split at h
   ·rename_i hz
    have e := congrArg (fun l => l.getD (j - 4) 0) hz.2
    simp only [List.getD, List.getElem?_drop] at e
    rw [show 4 + (j - 4) = j by omega, List.getElem?_replicate, if_pos (show j - 4 < 12 by omega)] at e
    exact e
   ·omega
  ·intro h
   have hz : ip.A.l.drop 4 = List.replicate 12 0 := by
    rw [List.eq_replicate_iff]
    refine ⟨by rw [List.length_drop]; omega, fun b hb => ?_⟩
    obtain ⟨q, hq⟩ := List.mem_iff_getElem?.1 hb
    have hlt := (List.getElem?_eq_some_iff.1 hq).1
    rw [List.length_drop] at hlt
    rw [List.getElem?_drop] at hq
    have := h (4 + q) (by omega) (by omega)
    rw [List.getD, hq] at this
    exact this
   have e : (if ip.V = 4 ∧ ip.A.l.drop 4 = List.replicate 12 0 then (32 : Int) else 0) = 32 := if_pos ⟨h4, hz⟩
   omega
 refine WP.loopG (γ := Nat) (fun i (x : Int) w => x = (i : Int) ∧ 4 ≤ i ∧ i ≤ 16 ∧ (∀ j, 4 ≤ j → j < i → ip.A.l.getD j 0 = 0) ∧ Ss W Hs w) (fun i _ => 16 - i) 4 ⟨rfl, by omega, by omega, fun j h1 h2 => by omega, s⟩ ?_
 clear s
 rintro i _ w ⟨rfl, h1, h2, hz, s⟩
 show WP (Zbo.L1 ip (i : Int)) w _
 unfold Zbo.L1
 refine WP.ite (fun h => WP.chk ⟨by omega, by omega⟩ ?_) (fun h => WP.done ⟨?_, s⟩)
 ·rw [vecg]
  refine WP.ite (fun h' => WP.done ⟨?_, s⟩) (fun h' => ?_)
  ·rw [decide_eq_false]
   intro hh
   exact h' (hs.1 hh i h1 (by omega))
  ·rw [Zak (by omega) (by omega)]
   refine WP.next ⟨i + 1, ⟨by omega, by omega, by omega, fun j j1 j2 => ?_, s⟩, by omega⟩
   by_cases e : j = i
   ·subst e
    exact Decidable.not_not.1 h'
   ·exact hz j j1 (by omega)
 ·exact (decide_eq_true (hs.2 fun j j1 j2 => hz j j1 (by omega))).symm
theorem Zoq (s : Ss W Hs w) (ip : Zbs) (h : Zdh ip > 0) : WP (Zdm ip) w (fun r w' => r = Zdh ip ∧ Ss W Hs w') := by
 unfold Zdm
 rw [ZrA h]
 exact WP.slot' s (fun _ w s => WP.ite (fun h => WP.ret ⟨by rw [if_pos h], s⟩) (fun h => WP.ret ⟨by rw [if_neg h], s⟩))
theorem Zup (s : Ss W Hs w) (ip : Zbs) (hb : Byt ip.A.l) {i : Nat} (hi : i < 128) : WP (ZbJ ip (i : Int)) w (fun r w' => r = bitM ip.A.l i ∧ Ss W Hs w') := by
 unfold ZbJ
 have e1 : IntKind.wrap .i64 (Int.tdiv (i : Int) 8) = ((i / 8 : Nat) : Int) := by
  rw [Int.tdiv_eq_ediv_of_nonneg (by omega), Zak (by omega) (by omega)]
  omega
 have e2 : Int.tmod (i : Int) 8 = ((i % 8 : Nat) : Int) := by
  rw [Int.tmod_eq_emod_of_nonneg (by omega)]
  omega
 have hc := Zni hb (i / 8)
 rw [e1, e2, vecg, Zak (by omega) (by omega)]
 refine WP.slot' s (fun _ w s => WP.chk ⟨by omega, by omega⟩ ?_)
 refine WP.loopG (γ := Nat) (fun k (x : Int × Int) w => x.1 = ip.A.l.getD (i / 8) 0 / 2 ^ (k - i % 8) ∧ x.2 = (k : Int) ∧ i % 8 ≤ k ∧ k ≤ 7 ∧ Ss W Hs w) (fun k _ => 7 - k) (i % 8) ⟨by simp, rfl, Nat.le_refl _, by omega, s⟩ ?_
 clear s
 rintro k ⟨_, _⟩ w ⟨rfl, rfl, h1, h2, s⟩
 show WP (ZbJ.L1 (ip.A.l.getD (i / 8) 0 / 2 ^ (k - i % 8)) (k : Int)) w _
 unfold ZbJ.L1
 have hp : (0 : Int) < 2 ^ (k - i % 8) := Int.pow_pos (by omega)
 have hq : 0 ≤ ip.A.l.getD (i / 8) 0 / 2 ^ (k - i % 8) := Int.ediv_nonneg hc.1 (by omega)
 have hq2 : ip.A.l.getD (i / 8) 0 / 2 ^ (k - i % 8) ≤ 255 := by
  have := Int.ediv_le_self (2 ^ (k - i % 8)) hc.1
  omega
 refine WP.ite (fun h => ?_) (fun h => WP.done ⟨?_, s⟩)
 ·rw [Zak (n := (k : Int) + 1) (by omega) (by omega), Int.tdiv_eq_ediv_of_nonneg hq, Zak (by omega) (by omega)]
  refine WP.next ⟨k + 1, ⟨?_, by simp, by omega, by omega, s⟩, by omega⟩
  simp only
  rw [Int.ediv_ediv_of_nonneg (by omega), show k + 1 - i % 8 = (k - i % 8) + 1 by omega, Int.pow_succ]
 ·have hk : k = 7 := by omega
  subst hk
  rw [Int.tmod_eq_emod_of_nonneg hq]
  rfl
theorem Zhv (s : Ss W Hs w) (p : Zac) (hb : Byt p.IP.A.l) : WP (ZaS p) w (fun r w' => r = vpM p ∧ Ss W Hs w') := by
 have hz := Zow p.IP
 unfold ZaS
 refine WP.slot' s (fun _ w s => WP.step (Zp7 s p.IP) ?_)
 rintro _ w ⟨rfl, s⟩
 refine WP.ite (fun h => WP.ret ⟨?_, s⟩) (fun h => ?_)
 ·unfold vpM
  rw [if_pos]
  have : ¬ Zdh p.IP > 0 := fun h' => h (decide_eq_true h')
  omega
 have hv : Zdh p.IP > 0 := of_decide_eq_true (Decidable.not_not.1 h)
 refine WP.step (Zoq s p.IP hv) ?_
 rintro _ w ⟨rfl, s⟩
 refine WP.step (R := fun y w' => y = decide (p.Len < 0 ∨ p.Len > Zdh p.IP) ∧ w = w') (WP.ite (fun h => WP.ret ⟨by simp [h], rfl⟩) (fun h => WP.ret ⟨by simp [h], rfl⟩)) ?_
 rintro _ _ ⟨rfl, rfl⟩
 refine WP.ite (fun h => WP.ret ⟨by unfold vpM; rw [if_neg (by omega), if_pos (of_decide_eq_true h)], s⟩) (fun h => ?_)
 have hn : ¬ (p.Len < 0 ∨ p.Len > Zdh p.IP) := fun h' => h (decide_eq_true h')
 have hv2 : vpM p = if ∀ i : Nat, i < 128 → p.Len ≤ (i : Int) → bitM p.IP.A.l i = 0 then 0 else 46 := by
  unfold vpM
  rw [if_neg (by omega), if_neg hn]
  by_cases e : Zqo p.IP.A p.Len = p.IP.A
  ·rw [if_pos e, if_pos ((Zm5 hb).1 e)]
  ·rw [if_neg e, if_neg (fun h => e ((Zm5 hb).2 h))]
 refine WP.loopG (γ := Nat) (fun i (x : Int) w => x = (i : Int) ∧ p.Len ≤ (i : Int) ∧ (i : Int) ≤ Zdh p.IP ∧ (∀ j : Nat, p.Len ≤ (j : Int) → j < i → bitM p.IP.A.l j = 0) ∧ Ss W Hs w) (fun i _ => (Zdh p.IP).toNat - i) p.Len.toNat ⟨by omega, by omega, by omega, fun j h1 h2 => by omega, s⟩ ?_
 clear s
 rintro i _ w ⟨rfl, h1, h2, hq, s⟩
 show WP (ZaS.L1 p (Zdh p.IP) (i : Int)) w _
 unfold ZaS.L1
 refine WP.ite (fun h => WP.step (Zup s p.IP hb (i := i) (by omega)) ?_) (fun h => WP.done ⟨?_, s⟩)
 ·rintro _ w ⟨rfl, s⟩
  refine WP.ite (fun e => WP.done ⟨?_, s⟩) (fun e => ?_)
  ·rw [hv2, if_neg (fun hh => by have := hh i (by omega) h1; omega)]
  ·have e0 : bitM p.IP.A.l i = 0 := (Ztp _ _).resolve_right e
   rw [Zak (by omega) (by omega)]
   refine WP.next ⟨i + 1, ⟨by omega, by omega, by omega, fun j j1 j2 => ?_, s⟩, by omega⟩
   by_cases ej : j = i
   ·subst ej
    exact e0
   ·exact hq j j1 (by omega)
 ·rw [hv2, if_pos]
  intro j j1 j2
  by_cases ej : j < i
  ·exact hq j j2 ej
  ·exact Zsi hv (by omega) j1
end
section
variable {W w : World} {Hs : List HP}
theorem Zs2 {a : Nat} (ha : a < 256) {k : Nat} (hk : k ≤ 8) : WP (Zbp (a : Int) (k : Int)) w (fun y w' => y = hasB (a : Int) k ∧ w = w') := by
 unfold Zbp
 refine WP.loopG (γ := Nat) (fun i (x : Int × Int) w' => x = (((a / 2 ^ i : Nat) : Int), (i : Int)) ∧ i ≤ k ∧ w = w') (fun i _ => k - i) 0 ⟨by simp, Nat.zero_le _, rfl⟩ ?_
 rintro i _ _ ⟨rfl, hi, rfl⟩
 show WP (Zbp.L1 (k : Int) ((a / 2 ^ i : Nat) : Int) (i : Int)) w _
 unfold Zbp.L1
 have hle : a / 2 ^ i ≤ a := Nat.div_le_self ..
 refine WP.ite (fun h => WP.next ⟨i + 1, ⟨?_, by omega, rfl⟩, by omega⟩) (fun h => WP.done ⟨?_, rfl⟩)
 ·have e2 : a / 2 ^ i / 2 = a / 2 ^ (i + 1) := by rw [Nat.div_div_eq_div_mul, ← Nat.pow_succ]
  have e3 : a / 2 ^ (i + 1) ≤ a := Nat.div_le_self ..
  rw [show Int.tdiv ((a / 2 ^ i : Nat) : Int) 2 = ((a / 2 ^ i / 2 : Nat) : Int) from rfl, e2]
  generalize a / 2 ^ (i + 1) = q at e3 ⊢
  rw [Zak (by omega) (by omega), Zak (by omega) (by omega)]
  simp
 ·have : i = k := by omega
  subst this
  rw [show Int.tmod ((a / 2 ^ i : Nat) : Int) 2 = ((a / 2 ^ i % 2 : Nat) : Int) from rfl, ZfK, Nat.testBit_eq_decide_div_mod_eq, Bool.eq_iff_iff, beq_iff_eq, decide_eq_true_iff]
  omega
theorem ZuE {p : Zac} (h : vpM p = 0) : p.IP.V = 4 ∨ p.IP.V = 6 := by
 unfold vpM at h
 have hs : Zdh p.IP ≠ 0 := by
  intro h0
  rw [h0] at h
  simp at h
 unfold Zdh at hs
 split at hs
 ·exact .inr ‹_›
 ·split at hs
  ·rename_i h4
   exact .inl h4.1
  ·exact absurd rfl hs
theorem Zs0 (s : Ss W Hs w) {kind : Int} (hk : 0 ≤ kind ∧ kind ≤ 3) (p : Zac) (hb : Byt p.IP.A.l) : WP (Zd6 kind p) w (fun y w' => y = Zg1 p kind ∧ Ss W Hs w') := by
 unfold Zd6 Zg1
 refine WP.slot' s (fun _ w s => WP.step (Zhv s p hb) ?_)
 rintro _ w ⟨rfl, s⟩
 refine WP.ite (fun h => WP.ret ⟨(decide_eq_false fun h' => h h'.1).symm, s⟩) (fun h => ?_)
 have h0 : vpM p = 0 := Decidable.not_not.1 h
 have hv := ZuE h0
 refine WP.step (R := fun y w' => y = decide (verM kind = 0 ∨ p.IP.V = verM kind) ∧ w = w') (WP.ite (fun h1 => WP.ret ⟨?_, rfl⟩) (fun h1 => WP.ret ⟨?_, rfl⟩)) ?_
 ·rw [decide_eq_true]
  exact .inl (by rw [h1]; rfl)
 ·unfold verM
  rw [Bool.eq_iff_iff, beq_iff_eq, decide_eq_true_iff, Bool.eq_iff_iff, beq_iff_eq, beq_iff_eq]
  rcases hv with hv | hv
  ·rw [hv]
   split
   ·simp; omega
   ·split <;> simp <;> omega
  ·rw [hv]
   split
   ·simp; omega
   ·split <;> simp <;> omega
 ·rintro _ _ ⟨rfl, rfl⟩
  refine WP.ret ⟨decide_eq_decide.2 ⟨fun h' => ⟨h0, h'⟩, fun h' => h'.2⟩, s⟩
end
def Zj4 (l : List Int) (p q : Nat) (most : Int) : Int := if q - p > 3 ∨ (q - p > 1 ∧ l.getD p 0 = 48) then -1 else if (valD ((l.drop p).take (q - p)) : Int) > most then -1 else (valD ((l.drop p).take (q - p)) : Int)
theorem ZoI (l : List Int) (i : Nat) (most wrong : Int) : numM l i most wrong = if runE ZcT l i = i then .error (Zj2 l i) else if Zj4 l i (runE ZcT l i) most < 0 then .error (wrong, i) else .ok ((Zj4 l i (runE ZcT l i) most).toNat, runE ZcT l i) := by
 unfold numM Zj4
 split
 ·rfl
 ·split
  ·rw [if_pos (show (-1 : Int) < 0 by decide)]
  ·split
   ·rw [if_pos (show (-1 : Int) < 0 by decide)]
   ·rw [if_neg (by omega), Int.toNat_natCast]
theorem Zq2 {l : List Int} {p : Nat} : Zgp l p ↔ p + 1 < l.length ∧ l.getD p 0 = 58 ∧ l.getD (p + 1) 0 = 58 := by
 unfold Zgp
 have g : ∀ k, (l.drop p)[k]? = l[p + k]? := fun k => by rw [List.getElem?_drop]
 have hl : (l.drop p).length = l.length - p := List.length_drop
 constructor
 ·intro h
  have h2 : 2 ≤ (l.drop p).length := by
   have := congrArg List.length h
   rw [List.length_take] at this
   simp only [List.length_cons, List.length_nil] at this
   omega
  have e0 := congrArg (fun x => x[0]?) h
  have e1 := congrArg (fun x => x[1]?) h
  simp only [List.getElem?_take, g, List.getElem?_cons_zero, List.getElem?_cons_succ] at e0 e1
  rw [if_pos (by omega)] at e0 e1
  refine ⟨by omega, ?_, ?_⟩
  ·rw [List.getD, show p = p + 0 from rfl, e0]
   rfl
  ·rw [List.getD, e1]
   rfl
 ·rintro ⟨h1, h2, h3⟩
  rw [List.getD, List.getElem?_eq_getElem (by omega)] at h2 h3
  rw [List.drop_eq_getElem_cons (by omega), List.drop_eq_getElem_cons (by omega), List.take_succ_cons, List.take_succ_cons, List.take_zero]
  have h2 : l[p] = 58 := h2
  have h3 : l[p + 1] = 58 := h3
  rw [h2, h3]
section
variable {W w : World} {Hs : List HP}
theorem ZkC (c : Int) : WP (Zc1 c) w (fun r w' => r = ZcT c ∧ w = w') := by
 unfold Zc1
 refine WP.step (R := fun y w' => y = ZcT c ∧ w = w') (WP.ite (fun h => WP.ret ⟨?_, rfl⟩) (fun h => WP.ret ⟨?_, rfl⟩)) (fun r w h => WP.ret h)
 ·exact decide_eq_decide.2 ⟨fun h' => ⟨h, h'⟩, And.right⟩
 ·exact (decide_eq_false fun h' => h h'.1).symm
theorem Zoo (c : Int) (h : 0 ≤ c ∧ c ≤ 255) : WP (Zdl c) w (fun r w' => r = hexV c ∧ w = w') := by
 unfold Zdl
 refine WP.step (ZkC c) ?_
 rintro _ _ ⟨rfl, rfl⟩
 refine WP.ite (fun h1 => WP.ret ⟨?_, rfl⟩) (fun h1 => ?_)
 ·have h1 := of_decide_eq_true h1
  rw [ZeS (by omega) (by omega), Zak (by omega) (by omega)]
  unfold hexV
  rw [if_pos h1]
 have h1 : ¬ (48 ≤ c ∧ c ≤ 57) := fun h' => h1 (decide_eq_true h')
 refine WP.step (R := fun y w' => y = decide (97 ≤ c ∧ c ≤ 102) ∧ w = w') (WP.ite (fun h => WP.ret ⟨decide_eq_decide.2 ⟨fun h' => ⟨h, h'⟩, And.right⟩, rfl⟩) (fun h => WP.ret ⟨(decide_eq_false fun h' => h h'.1).symm, rfl⟩)) ?_
 rintro _ _ ⟨rfl, rfl⟩
 refine WP.ite (fun h2 => WP.ret ⟨?_, rfl⟩) (fun h2 => ?_)
 ·have h2 := of_decide_eq_true h2
  rw [ZeS (by omega) (by omega), Zak (n := c - 97) (by omega) (by omega), Zak (by omega) (by omega)]
  unfold hexV
  rw [if_neg h1, if_pos h2]
  omega
 have h2 : ¬ (97 ≤ c ∧ c ≤ 102) := fun h' => h2 (decide_eq_true h')
 refine WP.step (R := fun y w' => y = decide (65 ≤ c ∧ c ≤ 70) ∧ w = w') (WP.ite (fun h => WP.ret ⟨decide_eq_decide.2 ⟨fun h' => ⟨h, h'⟩, And.right⟩, rfl⟩) (fun h => WP.ret ⟨(decide_eq_false fun h' => h h'.1).symm, rfl⟩)) ?_
 rintro _ _ ⟨rfl, rfl⟩
 refine WP.ite (fun h3 => WP.ret ⟨?_, rfl⟩) (fun h3 => WP.ret ⟨?_, rfl⟩)
 ·have h3 := of_decide_eq_true h3
  rw [ZeS (by omega) (by omega), Zak (n := c - 65) (by omega) (by omega), Zak (by omega) (by omega)]
  unfold hexV
  rw [if_neg h1, if_neg h2, if_pos h3]
  omega
 ·have h3 : ¬ (65 ≤ c ∧ c ≤ 70) := fun h' => h3 (decide_eq_true h')
  unfold hexV
  rw [if_neg h1, if_neg h2, if_neg h3]
theorem Zmq (t : ByteArray) (p : Nat) (hp : p ≤ t.size) : WP (Zc0 t (p : Int)) w (fun r w' => r = ((Zj2 (strI t) p).1, ((Zj2 (strI t) p).2 : Int)) ∧ w = w') := by
 have hl := Zbq t
 unfold Zc0 Zj2
 refine WP.ite (fun h => WP.ret ⟨?_, rfl⟩) (fun h => WP.ret ⟨?_, rfl⟩)
 ·rw [if_pos (by omega), show p = t.size by omega]
 ·rw [if_neg (by omega)]
theorem Zsx (t : ByteArray) (k : Nat) : 0 ≤ sb t (k : Int) ∧ sb t (k : Int) ≤ 255 := by
 rw [Zct]
 exact Zni (Byt.strI t) k
theorem ZlQ (s : Ss W Hs w) (t : ByteArray) (ht : t.size ≤ 1000) {p q : Nat} (hpq : p ≤ q) (hq : q ≤ t.size) (most : Int) (hd : ∀ k, p ≤ k → k < q → ZcT ((strI t).getD k 0) = true) : WP (Zbb t (p : Int) (q : Int) most) w (fun r w' => r = Zj4 (strI t) p q most ∧ Ss W Hs w') := by
 have hl := Zbq t
 unfold Zbb
 have ew : IntKind.wrap .i64 ((q : Int) - (p : Int)) = ((q - p : Nat) : Int) := by
  rw [Zak (by omega) (by omega)]
  omega
 rw [ew]
 refine WP.step (R := fun y w' => y = decide (q - p > 3 ∨ (q - p > 1 ∧ (strI t).getD p 0 = 48)) ∧ w = w') (WP.ite (fun h => WP.ret ⟨?_, rfl⟩) (fun h => ?_)) ?_
 ·exact (decide_eq_true (.inl (by omega))).symm
 ·refine WP.step (R := fun y w' => y = decide (q - p > 3 ∨ (q - p > 1 ∧ (strI t).getD p 0 = 48)) ∧ w = w') (WP.ite (fun h1 => WP.chk ⟨by omega, by omega⟩ (WP.ret ⟨?_, rfl⟩)) (fun h1 => WP.ret ⟨?_, rfl⟩)) (fun r w h => WP.ret h)
  ·rw [Zct, Bool.eq_iff_iff, decide_eq_true_iff, beq_iff_eq]
   exact ⟨fun h' => .inr ⟨by omega, h'⟩, fun h' => h'.resolve_left (by omega) |>.2⟩
  ·exact (decide_eq_false fun h' => by omega).symm
 rintro _ _ ⟨rfl, rfl⟩
 refine WP.ite (fun h => WP.ret ⟨?_, s⟩) (fun h => ?_)
 ·unfold Zj4
  rw [if_pos (of_decide_eq_true h)]
 have h3 : ¬ (q - p > 3 ∨ (q - p > 1 ∧ (strI t).getD p 0 = 48)) := fun h' => h (decide_eq_true h')
 have hdig : ∀ n, ∀ c ∈ ((strI t).drop p).take n, n ≤ q - p → ZcT c = true := by
  intro n c hc hn
  obtain ⟨j, hj, rfl⟩ := List.mem_iff_getElem.1 hc
  rw [List.length_take, List.length_drop] at hj
  rw [List.getElem_take, List.getElem_drop]
  have := hd (p + j) (by omega) (by omega)
  rw [List.getD, List.getElem?_eq_getElem (by omega)] at this
  exact this
 refine WP.loopG (γ := Nat) (fun j (x : Int × Int) w => x = ((valD (((strI t).drop p).take (j - p)) : Int), (j : Int)) ∧ p ≤ j ∧ j ≤ q ∧ Ss W Hs w) (fun j _ => q - j) p ⟨by simp [valD], Nat.le_refl _, hpq, s⟩ ?_
 clear s
 rintro j _ w ⟨rfl, j1, j2, s⟩
 show WP (Zbb.L1 t (q : Int) most (valD (((strI t).drop p).take (j - p)) : Int) (j : Int)) w _
 unfold Zbb.L1
 have hlt := Zl2 3 (((strI t).drop p).take (j - p)) (by rw [List.length_take]; omega) (fun c hc => hdig (j - p) c hc (by omega))
 refine WP.ite (fun h => WP.chk ⟨by omega, by omega⟩ (WP.next ⟨j + 1, ⟨?_, by omega, by omega, s⟩, by omega⟩)) (fun h => ?_)
 ·have hd1 := hd j j1 (by omega)
  have htk : ((strI t).drop p).take (j + 1 - p) = ((strI t).drop p).take (j - p) ++ [(strI t).getD j 0] := by
   rw [show j + 1 - p = (j - p) + 1 by omega, List.take_add_one, List.getElem?_drop, show p + (j - p) = j by omega, List.getD, List.getElem?_eq_getElem (by omega)]
   rfl
  rw [Zct, htk, Zgy]
  unfold ZcT at hd1
  have hd1 := of_decide_eq_true hd1
  generalize (strI t).getD j 0 = c at hd1
  rw [ZeS (by omega) (by omega), Zak (n := c - 48) (by omega) (by omega), Zak (n := 10 * _) (by omega) (by omega), Zak (n := 10 * _ + _) (by omega) (by omega), Zak (n := (j : Int) + 1) (by omega) (by omega)]
  refine Prod.ext ?_ ?_
  ·simp only
   omega
  ·simp
 ·have hj : j = q := by omega
  subst hj
  unfold Zj4
  rw [if_neg h3]
  refine WP.ite (fun h => WP.done ⟨by rw [if_pos h], s⟩) (fun h => WP.done ⟨by rw [if_neg h], s⟩)
def goF (l : List Int) (p : Nat) (acc : List Nat) : Except Flt (List Nat × Nat) := if acc.length ≥ 4 then .ok (acc, p) else match numM l p 255 43 with
 | .error f => .error f
 | .ok (n, e) => Zg0 l (3 - acc.length) e (acc ++ [n])
theorem Zr4 {l : List Int} {e : Nat} {acc : List Nat} (ha : acc.length < 4) (h0 : acc ≠ []) : Zg0 l (4 - acc.length) e acc = if e = l.length ∨ l.getD e 0 ≠ 46 then .error (Zj2 l e) else goF l (e + 1) acc := by
 obtain ⟨k, hk⟩ : ∃ k, 4 - acc.length = k + 1 := ⟨3 - acc.length, by omega⟩
 have he : acc.isEmpty = false := by cases acc with | nil => exact absurd rfl h0 | cons => rfl
 rw [hk]
 unfold Zg0 sepM
 rw [he, if_neg (by decide)]
 by_cases h : e = l.length ∨ l.getD e 0 ≠ 46
 ·rw [if_pos h, if_pos h]
 ·rw [if_neg h, if_neg h]
  unfold goF
  rw [if_neg (by omega), show 3 - acc.length = k by omega]
  rfl
def finF (l : List Int) : Except Flt (List Nat × Nat) → Except Flt (List Nat)
 | .error f => .error f
 | .ok (a, e) => if e < l.length then .error (41, e) else .ok a
theorem ZqP (l : List Int) (i : Nat) : ZfL l i = finF l (goF l i []) := rfl
def ZuA (W : World) (Hs : List HP) (x : Except Flt (List Nat)) (r : Sl × Int × Int) (w : World) : Prop :=
 match x with
 | .ok a => r.2 = (0, 0) ∧ ∃ sp, Ss W (vec (cI .u8) r.1 (a.map (fun n : Nat => (n : Int))) sp :: Hs) w
 | .error f => r.2 = (f.1, (f.2 : Int)) ∧ Ss W Hs w
theorem Zlv (s : Ss W Hs w) (t : ByteArray) (ht : t.size ≤ 1000) (i : Nat) (hi : i ≤ t.size) : WP (Zas t (i : Int)) w (ZuA W Hs (ZfL (strI t) i)) := by
 have hl := Zbq t
 unfold Zas
 obtain ⟨X, hX⟩ : ∃ X, goF (strI t) i [] = X := ⟨_, rfl⟩
 rw [ZqP, hX]
 refine WP.loopG (γ := Nat × List Nat) (fun g (x : Int × Sl) w => x.1 = (g.1 : Int) ∧ g.1 ≤ t.size ∧ g.2.length ≤ 4 ∧ (∀ n ∈ g.2, n ≤ 255) ∧ goF (strI t) g.1 g.2 = X ∧ ∃ sp, Ss W (vec (cI .u8) x.2 (g.2.map (fun n : Nat => (n : Int))) sp :: Hs) w) (fun g _ => 4 - g.2.length) (i, []) ⟨rfl, hi, by simp, by simp, hX, [], s.mk0 (A := vec (cI .u8) Sl.nil [] []) Zch⟩ ?_
 clear s hX
 rintro ⟨p, acc⟩ ⟨_, sl⟩ w ⟨rfl, hp, ha, hn, hX, sp, s⟩
 simp only at hp ha hn hX s
 have hal := (s.vec_len (i := 0) rfl).1
 rw [List.length_map] at hal
 show WP (Zas.L1 t (p : Int) sl) w _
 unfold Zas.L1
 refine WP.ite (fun h4 => ?_) (fun h4 => ?_)
 ·have h4 : acc.length < 4 := by omega
  obtain ⟨r1, r2⟩ := Zhk (p := ZcT) (l := strI t) (i := p) (by omega)
  refine WP.loopG (γ := Nat) (fun k (x : Int) w => x = (k : Int) ∧ p ≤ k ∧ k ≤ runE ZcT (strI t) p ∧ Ss W (vec (cI .u8) sl (acc.map (fun n : Nat => (n : Int))) sp :: Hs) w) (fun k _ => t.size - k) p ⟨rfl, Nat.le_refl _, r1, s⟩ ?_
  clear s
  rintro k _ w ⟨rfl, k1, k2, s⟩
  show WP (Zas.L2 t (p : Int) sl (k : Int)) w _
  unfold Zas.L2
  have hgo := Zhl k1 k2
  rw [hl] at hgo
  refine WP.step (R := fun y w' => y = decide (k < runE ZcT (strI t) p) ∧ w = w') (WP.ite (fun h => WP.chk ⟨by omega, by omega⟩ (WP.step (ZkC _) ?_)) (fun h => WP.ret ⟨?_, rfl⟩)) ?_
  ·rintro _ _ ⟨rfl, rfl⟩
   refine WP.ret ⟨?_, rfl⟩
   rw [Zct, Bool.eq_iff_iff, decide_eq_true_iff, ← hgo]
   exact ⟨fun h' => ⟨by omega, h'⟩, fun h' => h'.2⟩
  ·refine (decide_eq_false fun h' => ?_).symm
   have := hgo.2 h'
   omega
  rintro _ _ ⟨rfl, rfl⟩
  refine WP.ite (fun h => WP.next ⟨k + 1, ⟨?_, by omega, by have := of_decide_eq_true h; omega, s⟩, by have := of_decide_eq_true h; omega⟩) (fun h => ?_)
  ·rw [Zak (by omega) (by omega)]
   simp
  have hk : k = runE ZcT (strI t) p := by
   have : ¬ k < runE ZcT (strI t) p := fun h' => h (decide_eq_true h')
   omega
  have hdig : ∀ j, p ≤ j → j < k → ZcT ((strI t).getD j 0) = true := fun j j1 j2 => ZgT j1 (by omega)
  have hnm := ZoI (strI t) p 255 43
  rw [← hk] at hnm
  unfold goF at hX
  rw [if_neg (by omega), hnm] at hX
  unfold Zas.K1
  refine WP.step (R := fun q w' => WP.Rd (fun (x : Int × Sl) w => ∃ g' : Nat × List Nat, (x.1 = (g'.1 : Int) ∧ g'.1 ≤ t.size ∧ g'.2.length ≤ 4 ∧ (∀ n ∈ g'.2, n ≤ 255) ∧ goF (strI t) g'.1 g'.2 = X ∧ ∃ sp, Ss W (vec (cI .u8) x.2 (g'.2.map (fun n : Nat => (n : Int))) sp :: Hs) w) ∧ 4 - g'.2.length < 4 - acc.length) (ZuA W Hs (finF (strI t) X)) q w') ?_ (fun q w h => WP.done h)
  refine WP.ite (fun h => WP.step (Zmq t p hp) ?_) (fun h => ?_)
  ·rintro _ _ ⟨rfl, rfl⟩
   rw [if_pos (by omega)] at hX
   rw [← hX]
   exact WP.done ⟨rfl, s.drop⟩
  rw [if_neg (by omega)] at hX
  refine WP.step (ZlQ s t ht k1 (by omega) 255 hdig) ?_
  rintro _ w ⟨rfl, s⟩
  refine WP.ite (fun h => ?_) (fun h => ?_)
  ·rw [if_pos h] at hX
   rw [← hX]
   exact WP.done ⟨rfl, s.drop⟩
  rw [if_neg h] at hX
  obtain ⟨n, hn0⟩ : ∃ n : Nat, Zj4 (strI t) p k 255 = (n : Int) := ⟨(Zj4 (strI t) p k 255).toNat, by omega⟩
  have hn255 : n ≤ 255 := by
   have : Zj4 (strI t) p k 255 ≤ 255 := by
    unfold Zj4
    split
    ·omega
    ·split <;> omega
   omega
  rw [hn0] at hX ⊢
  simp only [Int.toNat_natCast] at hX
  rw [ZeS (by omega) (by omega)]
  refine WP.slot' s (fun _ w s => WP.appl s 0 rfl (by simp only [List.length_map, List.length_cons, List.length_nil]; omega) (by decide) (fun r w sp' s => ?_))
  have s : Ss W (vec (cI .u8) r (acc.map (fun n : Nat => (n : Int)) ++ [(n : Int)]) sp' :: Hs) w := s
  have em : acc.map (fun n : Nat => (n : Int)) ++ [(n : Int)] = (acc ++ [n]).map (fun n : Nat => (n : Int)) := by simp
  rw [em] at s
  have hrl := (s.vec_len (i := 0) rfl).1
  simp only [List.length_map, List.length_append, List.length_cons, List.length_nil] at hrl
  have hn' : ∀ x ∈ acc ++ [n], x ≤ 255 := by
   intro x hx
   rcases List.mem_append.1 hx with hx | hx
   ·exact hn x hx
   ·rw [List.mem_singleton] at hx
    omega
  refine WP.ite (fun h1 => ?_) (fun h1 => ?_)
  ·have hnx := Zr4 (l := strI t) (e := k) (acc := acc ++ [n]) (by simp only [List.length_append, List.length_cons, List.length_nil]; omega) (by simp)
   rw [show 4 - (acc ++ [n]).length = 3 - acc.length by simp only [List.length_append, List.length_cons, List.length_nil]; omega] at hnx
   rw [hnx] at hX
   refine WP.step (R := fun y w' => y = decide (k = (strI t).length ∨ (strI t).getD k 0 ≠ 46) ∧ w = w') (WP.ite (fun h => WP.ret ⟨(decide_eq_true (.inl (by omega))).symm, rfl⟩) (fun h => WP.chk ⟨by omega, by omega⟩ (WP.ret ⟨?_, rfl⟩))) ?_
   ·rw [Zct, Bool.eq_iff_iff, decide_eq_true_iff, bne_iff_ne]
    exact ⟨fun h' => .inr h', fun h' => h'.resolve_left (by omega)⟩
   rintro _ _ ⟨rfl, rfl⟩
   refine WP.ite (fun h => WP.step (Zmq t k (by omega)) ?_) (fun h => ?_)
   ·rintro _ _ ⟨rfl, rfl⟩
    rw [if_pos (of_decide_eq_true h)] at hX
    rw [← hX]
    exact WP.done ⟨rfl, s.drop⟩
   ·have h : ¬ (k = (strI t).length ∨ (strI t).getD k 0 ≠ 46) := fun h' => h (decide_eq_true h')
    rw [if_neg h] at hX
    rw [Zak (by omega) (by omega)]
    have hk2 : k < t.size := by omega
    exact WP.next ⟨(k + 1, acc ++ [n]), ⟨by simp, by simp only; omega, by simp only [List.length_append, List.length_cons, List.length_nil]; omega, hn', hX, sp', s⟩, by simp only [List.length_append, List.length_cons, List.length_nil]; omega⟩
  ·have h3 : acc.length = 3 := by omega
   rw [show 3 - acc.length = 0 by omega] at hX
   refine WP.next ⟨(k, acc ++ [n]), ⟨rfl, by simp only; omega, by simp only [List.length_append, List.length_cons, List.length_nil]; omega, hn', ?_, sp', s⟩, by simp only [List.length_append, List.length_cons, List.length_nil]; omega⟩
   unfold goF
   rw [if_pos (by simp only [List.length_append, List.length_cons, List.length_nil]; omega)]
   exact hX
 ·unfold goF at hX
  rw [if_pos (by omega)] at hX
  rw [← hX]
  refine WP.ite (fun h => WP.done ?_) (fun h => WP.done ?_)
  ·rw [show finF (strI t) (.ok (acc, p)) = .error (41, p) from if_pos (by omega)]
   exact ⟨rfl, s.drop⟩
  ·rw [show finF (strI t) (.ok (acc, p)) = .ok acc from if_neg (by omega)]
   exact ⟨rfl, sp, s⟩
theorem Zsw (t : ByteArray) (ht : t.size ≤ 1000) (p : Nat) (hp : p ≤ t.size) : WP (Zd1 t (p : Int)) w (fun r w' => r = decide (Zgp (strI t) p) ∧ w = w') := by
 have hl := Zbq t
 unfold Zd1
 rw [show IntKind.wrap .i64 ((p : Int) + 1) = ((p + 1 : Nat) : Int) by rw [Zak (by omega) (by omega)]; omega]
 have hd : decide (Zgp (strI t) p) = decide (p + 1 < (strI t).length ∧ (strI t).getD p 0 = 58 ∧ (strI t).getD (p + 1) 0 = 58) := decide_eq_decide.2 Zq2
 rw [hd]
 refine WP.step (R := fun y w' => y = decide (p + 1 < (strI t).length ∧ (strI t).getD p 0 = 58) ∧ w = w') (WP.ite (fun h => WP.chk ⟨by omega, by omega⟩ (WP.ret ⟨?_, rfl⟩)) (fun h => WP.ret ⟨?_, rfl⟩)) ?_
 ·rw [Zct, Bool.eq_iff_iff, decide_eq_true_iff, beq_iff_eq]
  exact ⟨fun h' => ⟨by omega, h'⟩, And.right⟩
 ·exact (decide_eq_false fun h' => h (by have := h'.1; omega)).symm
 rintro _ _ ⟨rfl, rfl⟩
 refine WP.step (R := fun y w' => y = decide (p + 1 < (strI t).length ∧ (strI t).getD p 0 = 58 ∧ (strI t).getD (p + 1) 0 = 58) ∧ w = w') (WP.ite (fun h => WP.chk ⟨by omega, ?_⟩ (WP.ret ⟨?_, rfl⟩)) (fun h => WP.ret ⟨?_, rfl⟩)) (fun r w h => WP.ret h)
 ·have := (of_decide_eq_true h).1
  omega
 ·have h := of_decide_eq_true h
  rw [Zct, Bool.eq_iff_iff, decide_eq_true_iff, beq_iff_eq]
  exact ⟨fun h' => ⟨h.1, h.2, h'⟩, fun h' => h'.2.2⟩
 ·exact (decide_eq_false fun h' => h (decide_eq_true ⟨h'.1, h'.2.1⟩)).symm
theorem Zuj (s : Ss W Hs w) (t : ByteArray) (ht : t.size ≤ 1000) (c : Int) : WP (ZbI t c) w (fun r w' => r = decide (ZbA (strI t) c < (strI t).length) ∧ Ss W Hs w') := by
 have hl := Zbq t
 unfold ZbI
 refine WP.loopG (γ := Nat) (fun i (x : Int) w => x = (i : Int) ∧ i ≤ t.size ∧ (∀ j, j < i → (strI t).getD j 0 ≠ c) ∧ Ss W Hs w) (fun i _ => t.size - i) 0 ⟨rfl, Nat.zero_le _, fun j h => by omega, s⟩ ?_
 clear s
 rintro i _ w ⟨rfl, hi, hn, s⟩
 show WP (ZbI.L1 t c (i : Int)) w _
 unfold ZbI.L1
 refine WP.ite (fun h => WP.chk ⟨by omega, h⟩ ?_) (fun h => WP.done ⟨?_, s⟩)
 ·rw [Zct]
  refine WP.ite (fun e => WP.done ⟨?_, s⟩) (fun e => ?_)
  ·have : ¬ i < ZbA (strI t) c := fun h' => ZkZ h' e
   exact (decide_eq_true (by omega)).symm
  ·rw [Zak (by omega) (by omega)]
   refine WP.next ⟨i + 1, ⟨by simp, by omega, fun j hj => ?_, s⟩, by omega⟩
   by_cases ej : j = i
   ·subst ej
    exact e
   ·exact hn j (by omega)
 ·refine (decide_eq_false fun hf => ?_).symm
  exact hn _ (by omega) (ZiY hf)
end
end Go.Proofs.YtmgbjiaognomhaaGreatDoor.Lx
