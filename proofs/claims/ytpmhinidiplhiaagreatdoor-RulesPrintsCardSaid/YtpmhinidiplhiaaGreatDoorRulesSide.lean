
import Derived.Test.YtpmhinidiplhiaaGreatDoorRulesHead2
import Derived.Test.YtpmhinidiplhiaaGreatDoorAddrParse3
import Derived.Test.YtpmhinidiplhiaaGreatDoorAddrErr
set_option linter.unusedVariables false
set_option linter.unusedSimpArgs false
namespace Go.Proofs.YtpmhinidiplhiaaGreatDoor.Lx
open Go Go.Proofs Go.RowKit
theorem ZpB : strI ZjF = [45] := by decide +kernel
theorem Ztq : strI Zts = tx "not" := by decide +kernel
theorem Zpz : strI Ztr = tx "port" := by decide +kernel
def net1 (e kind : Int) (n : Nat) : List Wd → PE (Zap × List Wd)
 | [] => .error (161, e)
 | w :: ws => if w.1 = comma then .error (160, w.2) else match netR w.1 with
  | none => .error (163, w.2)
  | some p => if n = 16 ∨ Zgq p kind = false then .error (163, w.2) else .ok (p, ws)
theorem ZjU {e kind : Int} {n : Nat} {w : Wd} {ws : List Wd} : net1 e kind n (w :: ws) = if w.1 = comma then .error (160, w.2) else match netR w.1 with
  | none => .error (163, w.2)
  | some p => if n = 16 ∨ Zgq p kind = false then .error (163, w.2) else .ok (p, ws) := rfl
theorem Zo3 {e kind : Int} {acc : List Zap} {w : Wd} {ws : List Wd} : Zh2 e kind acc (w :: ws) = if w.1 = comma then .error (160, w.2) else match netR w.1 with
  | none => .error (163, w.2)
  | some p => if acc.length = 16 ∨ Zgq p kind = false then .error (163, w.2) else match ws with
   | [] => .ok (acc ++ [p], [])
   | c :: ws => if c.1 = comma then Zh2 e kind (acc ++ [p]) ws else .ok (acc ++ [p], c :: ws) := by
 rw [Zh2]
 rfl
theorem Zk2 {e kind : Int} {acc : List Zap} {ws : List Wd} : Zh2 e kind acc ws = match net1 e kind acc.length ws with
  | .error f => .error f
  | .ok (p, r) => match Zd7 comma r with
   | none => .ok (acc ++ [p], r)
   | some r => Zh2 e kind (acc ++ [p]) r := by
 cases ws with
 | nil => rfl
 | cons w ws =>
  rw [Zo3, ZjU]
  by_cases h : w.1 = comma
  ·rw [if_pos h, if_pos h]
  ·rw [if_neg h, if_neg h]
   cases netR w.1 with
   | none => rfl
   | some p =>
    simp only
    by_cases h2 : acc.length = 16 ∨ Zgq p kind = false
    ·rw [if_pos h2, if_pos h2]
    ·rw [if_neg h2, if_neg h2]
     cases ws with
     | nil => rfl
     | cons c ws =>
      simp only [Zd7]
      by_cases h3 : c.1 = comma
      ·rw [if_pos h3, if_pos h3]
      ·rw [if_neg h3, if_neg h3]
def Zmp (e : Int) (n : Nat) : List Wd → PE (ZaZ × List Wd)
 | [] => .error (161, e)
 | w :: ws => if w.1 = comma then .error (160, w.2) else match ZkS w.1 with
  | none => .error (164, w.2)
  | some p => if n = 16 then .error (164, w.2) else .ok (p, ws)
theorem ZhB {e : Int} {n : Nat} {w : Wd} {ws : List Wd} : Zmp e n (w :: ws) = if w.1 = comma then .error (160, w.2) else match ZkS w.1 with
  | none => .error (164, w.2)
  | some p => if n = 16 then .error (164, w.2) else .ok (p, ws) := rfl
theorem Zny {e : Int} {acc : List ZaZ} {w : Wd} {ws : List Wd} : ZfP e acc (w :: ws) = if w.1 = comma then .error (160, w.2) else match ZkS w.1 with
  | none => .error (164, w.2)
  | some p => if acc.length = 16 then .error (164, w.2) else match ws with
   | [] => .ok (acc ++ [p], [])
   | c :: ws => if c.1 = comma then ZfP e (acc ++ [p]) ws else .ok (acc ++ [p], c :: ws) := by
 rw [ZfP]
 rfl
theorem ZjQ {e : Int} {acc : List ZaZ} {ws : List Wd} : ZfP e acc ws = match Zmp e acc.length ws with
  | .error f => .error f
  | .ok (p, r) => match Zd7 comma r with
   | none => .ok (acc ++ [p], r)
   | some r => ZfP e (acc ++ [p]) r := by
 cases ws with
 | nil => rfl
 | cons w ws =>
  rw [Zny, ZhB]
  by_cases h : w.1 = comma
  ·rw [if_pos h, if_pos h]
  ·rw [if_neg h, if_neg h]
   cases ZkS w.1 with
   | none => rfl
   | some p =>
    simp only
    by_cases h2 : acc.length = 16
    ·rw [if_pos h2, if_pos h2]
    ·rw [if_neg h2, if_neg h2]
     cases ws with
     | nil => rfl
     | cons c ws =>
      simp only [Zd7]
      by_cases h3 : c.1 = comma
      ·rw [if_pos h3, if_pos h3]
      ·rw [if_neg h3, if_neg h3]
theorem Zom {e kind : Int} {n : Nat} {ws r : List Wd} {p : Zap} (h : net1 e kind n ws = .ok (p, r)) : r.length < ws.length ∧ n ≠ 16 := by
 cases ws with
 | nil => cases h
 | cons w ws =>
  rw [ZjU] at h
  split at h
  ·cases h
  ·split at h
   ·cases h
   ·split at h
    ·cases h
    ·rename_i hn
     cases h
     exact ⟨by simp, fun h => hn (.inl h)⟩
theorem ZkT {e : Int} {n : Nat} {ws r : List Wd} {p : ZaZ} (h : Zmp e n ws = .ok (p, r)) : r.length < ws.length ∧ n ≠ 16 := by
 cases ws with
 | nil => cases h
 | cons w ws =>
  rw [ZhB] at h
  split at h
  ·cases h
  ·split at h
   ·cases h
   ·split at h
    ·cases h
    ·rename_i hn
     cases h
     exact ⟨by simp, hn⟩
theorem Zep {t : List Int} {ws r : List Wd} (h : Zd7 t ws = some r) : r.length < ws.length := by
 cases ws with
 | nil => cases h
 | cons w ws =>
  rw [show Zd7 t (w :: ws) = if w.1 = t then some ws else none from rfl] at h
  split at h
  ·cases h
   simp
  ·cases h
section
variable {W w : World} {Hs : List HP}
theorem Zqw (s : Ss W Hs w) (p : Zap) (hb : Byt p.IP.A.l) (kind : Int) : WP (Zde p kind) w (fun r w' => r = Zgq p kind ∧ Ss W Hs w') := by
 unfold Zde Zgq
 refine WP.slot' s (fun _ w s => ?_)
 refine WP.step (R := fun y w' => y = verM kind ∧ w = w') ?_ ?_
 ·unfold Zd2
  exact WP.ite (fun h => WP.ite (fun _ => WP.ret ⟨by unfold verM; rw [if_pos (Or.inl h)], rfl⟩) (fun h' => absurd h h')) (fun h => WP.ite (fun h2 => WP.ret ⟨by unfold verM; rw [if_pos (Or.inr h2)], rfl⟩) (fun h2 => WP.ite (fun h3 => WP.ret ⟨by unfold verM; rw [if_neg (fun h' => h'.elim h h2), if_pos h3], rfl⟩) (fun h3 => WP.ret ⟨by unfold verM; rw [if_neg (fun h' => h'.elim h h2), if_neg h3], rfl⟩)))
 rintro _ _ ⟨rfl, rfl⟩
 refine WP.step (ZfG s p hb) ?_
 rintro _ w ⟨rfl, s⟩
 refine WP.step (R := fun y w' => y = decide (vpM p = 0 ∧ (verM kind = 0 ∨ p.IP.V = verM kind)) ∧ Ss W Hs w') (WP.ite (fun h => ?_) (fun h => WP.ret ⟨(decide_eq_false (fun h' => h h'.1)).symm, s⟩)) (fun y w h => WP.ret h)
 refine WP.step (R := fun y w' => y = decide (verM kind = 0 ∨ p.IP.V = verM kind) ∧ Ss W Hs w') (WP.ite (fun h2 => WP.ret ⟨(decide_eq_true (.inl h2)).symm, s⟩) (fun h2 => WP.ret ⟨?_, s⟩)) ?_
 ·rw [Bool.eq_iff_iff, beq_iff_eq, decide_eq_true_iff]
  exact ⟨.inr, fun h' => h'.elim (fun h' => absurd h' h2) id⟩
 rintro _ w ⟨rfl, s⟩
 exact WP.ret ⟨decide_eq_decide.2 ⟨fun h' => ⟨h, h'⟩, fun h' => h'.2⟩, s⟩
theorem Zq2 (s : Ss W Hs w) (t : ByteArray) (ht : t.size ≤ 1000000) {p : ByteArray} {q : Nat} (hq : q < 256) (hp : strI p = [(q : Int)]) : WP (Zc3 t p) w (fun r w' => CutA t q r ∧ (¬ ZbE (strI t) q < t.size → r.1 = t) ∧ Ss W Hs w') := by
 have hn : p.size = 1 := by
  rw [← ZbJ, hp]
  rfl
 have hl := ZbJ t
 unfold Zc3 Zc2
 refine WP.step (R := fun r w' => CutA t q r ∧ (¬ ZbE (strI t) q < t.size → r.1 = t) ∧ Ss W Hs w') (WP.step (Zl2 t hq hp) ?_) (fun r w h => WP.ret h)
 rintro _ _ ⟨rfl, rfl⟩
 by_cases hf : ZbE (strI t) q < t.size
 ·rw [if_pos hf]
  have e1 : IntKind.wrap .i64 (((ZbE (strI t) q : Nat) : Int) + (p.size : Int)) = ((ZbE (strI t) q + 1 : Nat) : Int) := by
   rw [hn, Zah (by omega) (by omega)]
   rfl
  rw [e1]
  refine WP.ite (fun _ => WP.draw' s (fun w s => WP.chk ⟨by omega, by omega, by omega⟩ (WP.chk ⟨by omega, by omega, by omega⟩ (WP.ret ⟨⟨(decide_eq_true hf).symm, fun _ => ⟨?_, ?_⟩⟩, fun h => absurd hf h, s⟩)))) (fun h => absurd (by omega) h)
  ·simp only
   rw [Zdc]
   simp
  ·simp only
   rw [Zdc]
   simp only [Int.toNat_natCast]
   rw [List.take_of_length_le (by rw [List.length_drop]; omega)]
 ·rw [if_neg hf]
  exact WP.ite (fun h => absurd h (by omega)) (fun _ => WP.ret ⟨⟨(decide_eq_false hf).symm, fun h => absurd h hf⟩, fun _ => rfl, s⟩)
variable {b : Nat} {wl : List ZaI} {e : Int} {m : Za9} {ws : List Wd} {f : PF}
theorem ZiA (s : Ss W (RrD b f :: Hs) w) (n : Int) (r : ZaI) (j : Int) (p : Zap) : WP (ZaC.K1 (some (pt b 0)) n r j p) w (fun _ w' => Ss W (RrD b f :: Hs) w') := by
 unfold ZaC.K1
 refine WP.draw' s (fun w s => WP.nilck (errD s (fun h => ?_)))
 refine WP.step (R := fun y w' => y = false ∧ w = w') (WP.ite (fun h' => absurd h' h) (fun _ => WP.ret ⟨rfl, rfl⟩)) ?_
 rintro _ _ ⟨rfl, rfl⟩
 exact WP.ite (fun h => by cases h) (fun _ => WP.ret s)
theorem Zjl (s : Ss W (RrA b wl e m ws :: Hs) w) {n : Nat} (r : ZaI) {j : Int} (p : Zap) (hp : j = 0 → Byt p.IP.A.l) : WP (ZaC.K1 (some (pt b 0)) (n : Int) r j p) w (fun x w' => ResR W Hs b wl e m x w' (if j ≠ 0 ∨ n = 16 ∨ Zgq p m.Kind = false then .error (163, r.at_) else .ok (p, ws))) := by
 unfold ZaC.K1
 refine WP.draw' s (fun w s => WP.nilck (errA s ?_))
 refine WP.step (R := fun y w' => y = decide (j ≠ 0 ∨ n = 16 ∨ Zgq p m.Kind = false) ∧ Ss W (RrA b wl e m ws :: Hs) w') (WP.ite (fun _ => ?_) (fun h => absurd rfl h)) ?_
 ·refine WP.step (R := fun y w' => y = decide (j ≠ 0 ∨ n = 16) ∧ w = w') (WP.ite (fun h => WP.ret ⟨(decide_eq_true (.inl h)).symm, rfl⟩) (fun h => WP.ret ⟨?_, rfl⟩)) ?_
  ·rw [Bool.eq_iff_iff, beq_iff_eq, decide_eq_true_iff]
   exact ⟨fun h' => .inr (by omega), fun h' => h'.elim (fun h' => absurd h' h) (fun h' => by omega)⟩
  rintro _ _ ⟨rfl, rfl⟩
  refine WP.step (R := fun y w' => y = decide (j ≠ 0 ∨ n = 16 ∨ Zgq p m.Kind = false) ∧ Ss W (RrA b wl e m ws :: Hs) w') (WP.ite (fun h => WP.ret ⟨?_, s⟩) (fun h => ?_)) (fun y w h => WP.ret h)
  ·have := of_decide_eq_true h
   exact (decide_eq_true (this.elim .inl (fun h => .inr (.inl h)))).symm
  ·have hn : ¬ (j ≠ 0 ∨ n = 16) := fun h' => h (decide_eq_true h')
   have hj : j = 0 := Decidable.byContradiction fun h' => hn (.inl h')
   refine WP.nilck (ZnK s (WP.step (Zqw s p (hp hj) m.Kind) ?_))
   rintro _ w ⟨rfl, s⟩
   refine WP.ret ⟨?_, s⟩
   rw [Bool.eq_iff_iff, Bool.not_eq_true', decide_eq_true_iff]
   exact ⟨fun h' => .inr (.inr h'), fun h' => h'.elim (fun h' => absurd (.inl h') hn) (fun h' => h'.elim (fun h' => absurd (.inr h') hn) id)⟩
 rintro _ w ⟨rfl, s⟩
 refine WP.ite (fun h => ?_) (fun h => WP.ret ?_)
 ·rw [if_pos (of_decide_eq_true h)]
  refine WP.step (Zdg s (by decide) r.at_) ?_
  intro _ w s
  exact WP.ret s
 ·rw [if_neg (fun h' => h (decide_eq_true h'))]
  exact ⟨rfl, s⟩
theorem Zrq (s : Ss W (RrA b wl e m ws :: Hs) w) (n : Nat) : WP (ZaC (some (pt b 0)) (n : Int)) w (fun x w' => ResR W Hs b wl e m x w' (net1 e m.Kind n ws)) := by
 unfold ZaC
 refine WP.slot' s (fun _ w s => WP.step (ZgC s) ?_)
 intro r w h
 have dead : ∀ {w : World} {f : PF}, Ss W (RrD b f :: Hs) w → WP (slot 129 >>= fun b3 => Zas r.s >>= fun r4 => slot 117 >>= fun b5 => (if r4.2.1 ≠ 0 then ZdC r.s >>= fun r23 => slot 66 >>= fun b24 =>
   (if r23.1.V = 6 then ZaC.K2 (some (pt b 0)) (n : Int) r r23 (⟨r23.1, 128⟩ : Zap) else ZaC.K2 (some (pt b 0)) (n : Int) r r23 (⟨r23.1, 32⟩ : Zap)) else ZaC.K1 (some (pt b 0)) (n : Int) r r4.2.1 r4.1)) w (fun _ w' => Ss W (RrD b f :: Hs) w') := by
  intro w f s
  refine WP.slot' s (fun _ w s => WP.step (Zhu s r.s) ?_)
  rintro q w ⟨-, s⟩
  refine WP.slot' s (fun _ w s => WP.ite (fun _ => WP.step (Zlh s r.s) ?_) (fun _ => ZiA s _ _ _ _))
  rintro q w ⟨-, s⟩
  exact WP.slot' s (fun _ w s => WP.ite (fun _ => ZiA s _ _ _ _) (fun _ => ZiA s _ _ _ _))
 cases ws with
 | nil => exact dead h.2
 | cons x xs =>
  obtain ⟨hx, s1⟩ := h
  clear s
  have s := s1
  clear s1
  subst hx
  rw [ZjU]
  by_cases hc : (wdOf r).1 = comma
  ·rw [if_pos hc] at s ⊢
   exact dead s
  rw [if_neg hc] at s ⊢
  have hr : (wdOf r).1 = strI r.s := rfl
  rw [hr]
  refine WP.slot' s (fun _ w s => WP.step (Zhu s r.s) ?_)
  rintro _ w ⟨rfl, s⟩
  refine WP.slot' s (fun _ w s => ?_)
  unfold netR Znx
  cases hp : Zmu (strI r.s) with
  | ok p =>
   refine WP.ite (fun h => absurd rfl h) (fun _ => (Zjl s r p (fun _ => (Zrs hp).2)).mono ?_)
   intro x w h
   simp only [ne_eq, not_true_eq_false, false_or] at h
   exact h
  | error f =>
   have hf := (ZpT hp).1
   refine WP.ite (fun _ => WP.step (Zlh s r.s) ?_) (fun h => absurd hf h)
   rintro _ w ⟨rfl, s⟩
   unfold ipM
   cases hi : Zfp (strI r.s) with
   | ok ip =>
    refine WP.slot' s (fun _ w s => WP.ite (fun h6 => (Zjl s r _ (fun _ => Zg2 hi)).mono ?_) (fun h6 => (Zjl s r _ (fun _ => Zg2 hi)).mono ?_))
    ·intro x w h
     simp only [ne_eq, not_true_eq_false, false_or] at h
     have h6 : ip.V = 6 := h6
     simp only
     rw [if_pos h6]
     exact h
    ·intro x w h
     simp only [ne_eq, not_true_eq_false, false_or] at h
     have h6 : ¬ ip.V = 6 := h6
     simp only
     rw [if_neg h6]
     exact h
   | error f2 =>
    have hf2 := (ZkZ hi).1
    have fin : ∀ {w : World} (p : Zap), Ss W (RrA b wl e m xs :: Hs) w → WP (ZaC.K2 (some (pt b 0)) (n : Int) r (ZdR, f2.1, (f2.2 : Int)) p) w (fun x w' => ResR W Hs b wl e m x w' (.error (163, r.at_))) := by
     intro w p s
     refine (Zjl s r p (fun h => absurd h hf2)).mono ?_
     intro x w h
     rw [if_pos (.inl hf2)] at h
     exact h
    exact WP.slot' s (fun _ w s => WP.ite (fun _ => fin _ s) (fun _ => fin _ s))
end
end Go.Proofs.YtpmhinidiplhiaaGreatDoor.Lx
