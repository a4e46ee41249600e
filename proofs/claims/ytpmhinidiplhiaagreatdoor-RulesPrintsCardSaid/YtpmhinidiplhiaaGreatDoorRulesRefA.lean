
import Derived.Test.YtpmhinidiplhiaaGreatDoorRulesCheck
import Derived.Test.YtpmhinidiplhiaaGreatDoorAddrRefA
set_option linter.unusedVariables false
set_option linter.unusedSimpArgs false
namespace Go.Proofs.YtpmhinidiplhiaaGreatDoor.Lx
open Go Go.Proofs Go.RowKit
section
variable {W w : World} {Hs : List HP}
theorem Znr (n lo hi : Int) : WP (ZbM n lo hi) w (fun y w' => y = !(inR n lo hi) ∧ w = w') := by
 unfold ZbM inR
 refine WP.step (R := fun y w' => y = !(decide (lo ≤ n ∧ n ≤ hi)) ∧ w = w') (WP.ite (fun h => WP.ret ⟨?_, rfl⟩) (fun h => WP.ret ⟨?_, rfl⟩)) (fun y w h => WP.ret h)
 ·rw [decide_eq_false (by omega)]
  rfl
 ·rw [← decide_not]
  exact decide_eq_decide.2 (by omega)
theorem ZlA {a : Nat} (ha : a < 256) {k : Nat} (hk : k ≤ 8) : WP (Zba (a : Int) (k : Int)) w (fun y w' => y = hasB (a : Int) k ∧ w = w') := by
 unfold Zba
 refine WP.loopG (γ := Nat) (fun i (x : Int × Int) w' => x = (((a / 2 ^ i : Nat) : Int), (i : Int)) ∧ i ≤ k ∧ w = w') (fun i _ => k - i) 0 ⟨by simp, Nat.zero_le _, rfl⟩ ?_
 rintro i _ _ ⟨rfl, hi, rfl⟩
 show WP (Zba.L1 (k : Int) ((a / 2 ^ i : Nat) : Int) (i : Int)) w _
 unfold Zba.L1
 have hle : a / 2 ^ i ≤ a := Nat.div_le_self ..
 refine WP.ite (fun h => WP.next ⟨i + 1, ⟨?_, by omega, rfl⟩, by omega⟩) (fun h => WP.done ⟨?_, rfl⟩)
 ·have e2 : a / 2 ^ i / 2 = a / 2 ^ (i + 1) := by rw [Nat.div_div_eq_div_mul, ← Nat.pow_succ]
  have e3 : a / 2 ^ (i + 1) ≤ a := Nat.div_le_self ..
  rw [show Int.tdiv ((a / 2 ^ i : Nat) : Int) 2 = ((a / 2 ^ i / 2 : Nat) : Int) from rfl, e2]
  generalize a / 2 ^ (i + 1) = q at e3 ⊢
  rw [Zah (by omega) (by omega), Zah (by omega) (by omega)]
  simp
 ·have : i = k := by omega
  subst this
  rw [show Int.tmod ((a / 2 ^ i : Nat) : Int) 2 = ((a / 2 ^ i % 2 : Nat) : Int) from rfl, ZeZ, Nat.testBit_eq_decide_div_mod_eq, Bool.eq_iff_iff, beq_iff_eq, decide_eq_true_iff]
  omega
theorem ZpI {a b : Nat} (ha : a < 256) (hb : b < 256) : WP (Za5 (a : Int) (b : Int)) w (fun y w' => y = Zgu (a : Int) (b : Int) ∧ w = w') := by
 unfold Za5
 refine WP.loopG (γ := Nat) (fun i (x : Int) w' => x = (i : Int) ∧ i ≤ 8 ∧ (∀ j, j < i → (hasB (a : Int) j && hasB (b : Int) j) = false) ∧ w = w') (fun i _ => 8 - i) 0 ⟨rfl, by omega, fun j h => by omega, rfl⟩ ?_
 rintro i _ _ ⟨rfl, hi, hz, rfl⟩
 show WP (Za5.L1 (a : Int) (b : Int) (i : Int)) w _
 unfold Za5.L1
 refine WP.ite (fun h => WP.step (ZlA ha (by omega)) ?_) (fun h => WP.done ⟨?_, rfl⟩)
 ·rintro _ _ ⟨rfl, rfl⟩
  refine WP.step (R := fun y w' => y = (hasB (a : Int) i && hasB (b : Int) i) ∧ w = w') (WP.ite (fun h1 => WP.step (ZlA hb (by omega)) ?_) (fun h1 => WP.ret ⟨?_, rfl⟩)) ?_
  ·rintro _ _ ⟨rfl, rfl⟩
   exact WP.ret ⟨by rw [h1]; rfl, rfl⟩
  ·cases hh : hasB (a : Int) i with
   | false => rfl
   | true => exact absurd hh h1
  rintro _ _ ⟨rfl, rfl⟩
  refine WP.ite (fun h2 => WP.done ⟨?_, rfl⟩) (fun h2 => WP.next ⟨i + 1, ⟨?_, by omega, fun j hj => ?_, rfl⟩, by omega⟩)
  ·unfold Zgu
   exact (List.any_eq_true.2 ⟨i, List.mem_range.2 (by omega), h2⟩).symm
  ·rw [Zah (by omega) (by omega)]
   simp
  ·by_cases hji : j = i
   ·subst hji
    simpa using h2
   ·exact hz j (by omega)
 ·unfold Zgu
  refine (List.any_eq_false.2 fun k hk => ?_).symm
  have := hz k (by have := List.mem_range.1 hk; omega)
  simp [this]
theorem Zui {p : Zap} (h : vpM p = 0) : p.IP.V = 4 ∨ p.IP.V = 6 := by
 unfold vpM at h
 have hs : Zdq p.IP ≠ 0 := by
  intro h0
  rw [h0] at h
  simp at h
 unfold Zdq at hs
 split at hs
 ·exact .inr ‹_›
 ·split at hs
  ·rename_i h4
   exact .inl h4.1
  ·exact absurd rfl hs
theorem ZsM (s : Ss W Hs w) {kind : Int} (hk : 0 ≤ kind ∧ kind ≤ 3) (p : Zap) (hb : Byt p.IP.A.l) : WP (ZdD kind p) w (fun y w' => y = Zgq p kind ∧ Ss W Hs w') := by
 unfold ZdD Zgq
 refine WP.slot' s (fun _ w s => WP.step (ZgD s p hb) ?_)
 rintro _ w ⟨rfl, s⟩
 refine WP.ite (fun h => WP.ret ⟨(decide_eq_false fun h' => h h'.1).symm, s⟩) (fun h => ?_)
 have h0 : vpM p = 0 := Decidable.not_not.1 h
 have hv := Zui h0
 refine WP.step (R := fun y w' => y = decide (verM kind = 0 ∨ p.IP.V = verM kind) ∧ w = w') (WP.ite (fun h1 => WP.ret ⟨?_, rfl⟩) (fun h1 => WP.ret ⟨?_, rfl⟩)) ?_
 ·rw [decide_eq_true]
  exact .inl (by rw [h1]; rfl)
 ·unfold verM
  rw [Bool.eq_iff_iff, beq_iff_eq, decide_eq_true_iff, Bool.eq_iff_iff, beq_iff_eq, beq_iff_eq]
  rcases hv with hv | hv
  ·rw [hv]
   split
   ·simp; omega
   ·split <;> simp <;> omega
  ·rw [hv]
   split
   ·simp; omega
   ·split <;> simp <;> omega
 ·rintro _ _ ⟨rfl, rfl⟩
  refine WP.ret ⟨decide_eq_decide.2 ⟨fun h' => ⟨h0, h'⟩, fun h' => h'.2⟩, s⟩
theorem ZsJ {r : Zag} {sd : Zae} {m : ZcT} (s : Ss W Hs w) (hl : sd.Ports.len = m.ports.length) :
  WP (Zar.K1 r sd) w (fun y w' => y = (if m.ports ≠ [] ∧ ZdW r.Proto = false then 165 else 0) ∧ Ss W Hs w') := by
 unfold Zar.K1
 have hne : ((sd.Ports.len : Int) > 0) ↔ m.ports ≠ [] := by
  rw [hl]
  exact ⟨fun h h' => by rw [h'] at h; simp at h, fun h => by have := List.length_pos_iff.2 h; omega⟩
 refine WP.step (R := fun y w' => y = decide (m.ports ≠ [] ∧ r.Proto ≠ 6) ∧ w = w') (WP.ite (fun h => WP.ret ⟨?_, rfl⟩) (fun h => WP.ret ⟨?_, rfl⟩)) ?_
 ·rw [Bool.eq_iff_iff, bne_iff_ne, decide_eq_true_iff]
  exact ⟨fun h' => ⟨hne.1 h, h'⟩, fun h' => h'.2⟩
 ·exact (decide_eq_false (fun h' => h (hne.2 h'.1))).symm
 rintro _ _ ⟨rfl, rfl⟩
 refine WP.step (R := fun y w' => y = decide (m.ports ≠ [] ∧ ZdW r.Proto = false) ∧ w = w') (WP.ite (fun h => WP.ret ⟨?_, rfl⟩) (fun h => WP.ret ⟨?_, rfl⟩)) ?_
 ·have h := of_decide_eq_true h
  unfold ZdW
  rw [Bool.eq_iff_iff, bne_iff_ne, decide_eq_true_iff, decide_eq_false_iff_not]
  exact ⟨fun h' => ⟨h.1, fun h2 => h2.elim h.2 h'⟩, fun h' h2 => h'.2 (.inr h2)⟩
 ·refine (decide_eq_false (fun h' => h (decide_eq_true ⟨h'.1, fun h6 => ?_⟩))).symm
  have := h'.2
  unfold ZdW at this
  exact (of_decide_eq_false this) (.inl h6)
 rintro _ _ ⟨rfl, rfl⟩
 refine WP.ite (fun h => WP.ret ⟨?_, s⟩) (fun h => WP.ret ⟨?_, s⟩)
 ·rw [if_pos (of_decide_eq_true h)]
 ·rw [if_neg (fun h' => h (decide_eq_true h'))]
theorem ZsI {r : Zag} {sd : Zae} {m : ZcT} (s : Ss W Hs w) {j : Nat} {B : HP} (e2 : nth Hs j = some B) (rb : Rdb B cRg sd.Ports m.ports) :
  WP (Zar.K2 r sd) w (fun y w' => y = (if m.ports.length > 16 then 164 else if ¬ (∀ r ∈ m.ports, Zef r = true) then 164 else if m.ports ≠ [] ∧ ZdW r.Proto = false then 165 else 0) ∧ Ss W Hs w') := by
 unfold Zar.K2
 have hl := (s.rd_len e2 rb).1
 refine WP.ite (fun h => WP.ret ⟨by rw [if_pos (by omega)], s⟩) (fun h => ?_)
 rw [if_neg (by omega)]
 refine WP.loopG (γ := Nat) (fun k (x : Int) w => x = (k : Int) ∧ k ≤ m.ports.length ∧ (∀ r ∈ m.ports.take k, Zef r = true) ∧ Ss W Hs w) (fun k _ => m.ports.length - k) 0 ⟨rfl, Nat.zero_le _, by simp, s⟩ ?_
 clear s
 rintro k _ w ⟨rfl, hk, ha, s⟩
 show WP (Zar.L1 r sd (k : Int)) w _
 unfold Zar.L1
 refine WP.ite (fun h => ?_) (fun h => ?_)
 ·have hk2 : k < m.ports.length := by omega
  have hx := List.getElem?_eq_getElem hk2
  have htake : m.ports.take (k + 1) = m.ports.take k ++ [m.ports[k]] := by
   rw [List.take_add_one, hx]
   rfl
  generalize m.ports[k] = x at hx htake
  have h0 : (0 : Int) ≤ (k : Int) := by omega
  have hx' : m.ports[(k : Int).toNat]? = some x := by rw [Int.toNat_natCast]; exact hx
  refine WP.draw' s (fun w s => WP.rdxp0 s j e2 rb h0 hx' rfl (Zcc x) ?_)
  refine WP.step (R := fun y w' => y = decide (x.Lo < 0 ∨ x.Hi > 65535) ∧ w = w') (WP.ite (fun h => WP.ret ⟨(decide_eq_true (.inl h)).symm, rfl⟩) (fun h => WP.rdxp s j e2 rb h0 hx' rfl (Zcd x) (WP.ret ⟨decide_eq_decide.2 ⟨.inr, fun h' => h'.elim (fun h' => absurd h' h) id⟩, rfl⟩))) ?_
  rintro _ _ ⟨rfl, rfl⟩
  refine WP.step (R := fun y w' => y = !(Zef x) ∧ w = w') (WP.ite (fun h => WP.ret ⟨?_, rfl⟩) (fun h => WP.rdxp0 s j e2 rb h0 hx' rfl (Zcc x) (WP.rdxp s j e2 rb h0 hx' rfl (Zcd x) (WP.ret ⟨?_, rfl⟩)))) ?_
  ·unfold Zef
   have h := of_decide_eq_true h
   rw [decide_eq_false (by omega)]
   rfl
  ·unfold Zef
   have h : ¬ (x.Lo < 0 ∨ x.Hi > 65535) := fun h' => h (decide_eq_true h')
   rw [← decide_not]
   exact decide_eq_decide.2 (by omega)
  rintro _ _ ⟨rfl, rfl⟩
  cases hr : Zef x with
  | false =>
   refine WP.ite (fun _ => WP.done ⟨?_, s⟩) (fun h => absurd rfl h)
   rw [if_pos (fun h' => by have := h' x (List.mem_of_getElem? hx); rw [hr] at this; cases this)]
  | true =>
   refine WP.ite (fun h => by cases h) (fun _ => WP.next ⟨k + 1, ⟨?_, hk2, ?_, s⟩, by omega⟩)
   ·rw [Zah (by omega) (by omega)]
    simp
   ·rw [htake]
    intro r hm
    rcases List.mem_append.1 hm with hm | hm
    ·exact ha r hm
    ·rw [List.mem_singleton.1 hm]
     exact hr
 ·have hk2 : k = m.ports.length := by omega
  rw [hk2, List.take_length] at ha
  refine WP.step (ZsJ s hl) (fun y w h => WP.done ?_)
  rw [if_neg (fun h' => h' ha)]
  exact h
theorem Zn8 {r : Zag} {sd : Zae} {m : ZcT} (s : Ss W Hs w) (hk : 0 ≤ r.Kind ∧ r.Kind ≤ 3) (rd : RdSd Hs sd m) :
  WP (Zar r sd) w (fun y w' => y = Zd6 m r.Kind r.Proto ∧ Ss W Hs w') := by
 obtain ⟨hno, hb, ⟨i, A, e, ra⟩, ⟨j, B, e2, rb⟩⟩ := rd
 unfold Zar
 have hl := (s.rd_len e ra).1
 have hne : ((sd.Nets.len : Int) == 0) = decide (m.nets = []) := by
  rw [Bool.eq_iff_iff, beq_iff_eq, decide_eq_true_iff, hl, ← List.length_eq_zero_iff]
  omega
 refine WP.slot' s (fun _ w s => WP.slot' s (fun _ w s => ?_))
 refine WP.step (R := fun y w' => y = decide (m.nets.length > 16 ∨ (m.Not = true ∧ m.nets = [])) ∧ w = w') (WP.ite (fun h => WP.ret ⟨(decide_eq_true (.inl (by omega))).symm, rfl⟩) (fun h => ?_)) ?_
 ·refine WP.step (R := fun y w' => y = decide (m.nets.length > 16 ∨ (m.Not = true ∧ m.nets = [])) ∧ w = w') (WP.ite (fun h2 => WP.ret ⟨?_, rfl⟩) (fun h2 => WP.ret ⟨?_, rfl⟩)) (fun y w h => WP.ret h)
  ·rw [hne]
   rw [hno] at h2
   exact decide_eq_decide.2 ⟨fun h' => .inr ⟨h2, h'⟩, fun h' => h'.elim (fun h' => absurd h' (by omega)) (fun h' => h'.2)⟩
  ·rw [hno] at h2
   exact (decide_eq_false (fun h' => h'.elim (fun h' => absurd h' (by omega)) (fun h' => h2 h'.1))).symm
 rintro _ _ ⟨rfl, rfl⟩
 unfold Zd6
 refine WP.ite (fun h => WP.ret ⟨by rw [if_pos (of_decide_eq_true h)], s⟩) (fun h => ?_)
 have h16 : ¬ (m.nets.length > 16 ∨ (m.Not = true ∧ m.nets = [])) := fun h' => h (decide_eq_true h')
 rw [if_neg h16]
 refine WP.loopG (γ := Nat) (fun k (x : Int) w => x = (k : Int) ∧ k ≤ m.nets.length ∧ (∀ p ∈ m.nets.take k, Zgq p r.Kind = true) ∧ Ss W Hs w) (fun k _ => m.nets.length - k) 0 ⟨rfl, Nat.zero_le _, by simp, s⟩ ?_
 clear s
 rintro k _ w ⟨rfl, hkk, ha, s⟩
 show WP (Zar.L2 r sd (k : Int)) w _
 unfold Zar.L2
 refine WP.ite (fun h => ?_) (fun h => ?_)
 ·have hk2 : k < m.nets.length := by omega
  have hx := List.getElem?_eq_getElem hk2
  have htake : m.nets.take (k + 1) = m.nets.take k ++ [m.nets[k]] := by
   rw [List.take_add_one, hx]
   rfl
  generalize m.nets[k] = x at hx htake
  refine WP.draw' s (fun w s => WP.rdx s i e ra (by omega) (x := x) (by rw [Int.toNat_natCast]; exact hx) rfl (WP.step (ZsM s hk x (hb x (List.mem_of_getElem? hx))) ?_))
  rintro _ w ⟨rfl, s⟩
  cases hr : Zgq x r.Kind with
  | false =>
   refine WP.ite (fun _ => WP.done ⟨?_, s⟩) (fun h => absurd (by decide) h)
   rw [if_pos (fun h' => by have := h' x (List.mem_of_getElem? hx); rw [hr] at this; cases this)]
  | true =>
   refine WP.ite (fun h => absurd rfl h) (fun _ => WP.next ⟨k + 1, ⟨?_, hk2, ?_, s⟩, by omega⟩)
   ·rw [Zah (by omega) (by omega)]
    simp
   ·rw [htake]
    intro r hm
    rcases List.mem_append.1 hm with hm | hm
    ·exact ha r hm
    ·rw [List.mem_singleton.1 hm]
     exact hr
 ·have hk2 : k = m.nets.length := by omega
  rw [hk2, List.take_length] at ha
  refine WP.step (ZsI s e2 rb) (fun y w h => WP.done ?_)
  rw [if_neg (fun h' => h' ha)]
  exact h
theorem worX {β : Type} {a q : Bool} {X : M Bool} {f : Bool → M β} {Q : β → World → Prop} (hX : a = false → WP X w (fun y w' => y = q ∧ w = w')) (k : WP (f (a || q)) w Q) : WP ((if a = true then pure true else X) >>= f) w Q := by
 refine WP.step (R := fun y w' => y = (a || q) ∧ w = w') (WP.ite (fun h => WP.ret ⟨by rw [h]; rfl, rfl⟩) (fun h => ?_)) ?_
 ·have ha : a = false := by
   cases a
   ·rfl
   ·exact absurd rfl h
  refine (hX ha).mono ?_
  rintro _ _ ⟨rfl, rfl⟩
  exact ⟨by rw [ha]; rfl, rfl⟩
 rintro _ _ ⟨rfl, rfl⟩
 exact k
theorem worR {β : Type} {a : Bool} {n lo hi : Int} {f : Bool → M β} {Q : β → World → Prop} (k : WP (f (a || !inR n lo hi)) w Q) : WP ((if a = true then pure true else ZbM n lo hi >>= fun r => pure r) >>= f) w Q :=
 worX (fun _ => WP.step (Znr n lo hi) (fun y w h => WP.ret h)) k
theorem Zpt {β : Type} {p : Prop} [Decidable p] {x y : Int} {f : Bool → M β} {Q : β → World → Prop} (k : WP (f (decide (p ∧ x ≠ y))) w Q) : WP ((if p then pure (x != y) else pure false) >>= f) w Q := by
 refine WP.step (R := fun z w' => z = decide (p ∧ x ≠ y) ∧ w = w') (WP.ite (fun h => WP.ret ⟨?_, rfl⟩) (fun h => WP.ret ⟨?_, rfl⟩)) ?_
 ·rw [Bool.eq_iff_iff, bne_iff_ne, decide_eq_true_iff]
  exact ⟨fun h' => ⟨h, h'⟩, fun h' => h'.2⟩
 ·exact (decide_eq_false (fun h' => h h'.1)).symm
 rintro _ _ ⟨rfl, rfl⟩
 exact k
theorem Zmr {r : Zag} {m : Za9} (s : Ss W Hs w) (h : RdR Hs r m) : WP (ZcG r) w (fun y w' => y = ckM m ∧ Ss W Hs w') := by
 have h0 := h
 obtain ⟨⟨c1, c2, c3, c4, c5, c6, c7, c8, c9, c10⟩, hf, ht⟩ := h
 unfold ZcG
 simp only [c1, c2, c5, c6, c7, c8, c9]
 refine WP.slot' s (fun _ w s => WP.step (Znr m.Act 1 3) ?_)
 rintro _ _ ⟨rfl, rfl⟩
 refine worR (worR (worR (worR (worR ?_))))
 simp only [c3, c4]
 unfold ckM
 refine WP.ite (fun h => WP.ret ⟨?_, s⟩) (fun h1 => ?_)
 ·rw [if_pos]
  simp only [Bool.or_eq_true, Bool.not_eq_true'] at h
  unfold Zjf
  rcases h with ((((h | h) | h) | h) | h) | h <;> simp [h]
 have h1 : (((((inR m.Act 1 3 = true ∧ inR m.Class 0 7 = true) ∧ inR m.Kind 0 3 = true) ∧ inR m.Proto 0 255 = true) ∧ inR m.In 0 8 = true) ∧ inR m.Vid 0 4094 = true) := by
  simpa using h1
 refine WP.step (Znr m.Set 0 255) ?_
 rintro _ _ ⟨rfl, rfl⟩
 refine worR (worR (worX (q := Zgu m.Set m.Clear) (fun ha => ?_) ?_))
 ·simp only [Bool.or_eq_false_iff, Bool.not_eq_false', inR, decide_eq_true_iff] at ha
  obtain ⟨a, e1⟩ : ∃ a : Nat, m.Set = a := ⟨m.Set.toNat, by omega⟩
  obtain ⟨b, e2⟩ : ∃ b : Nat, m.Clear = b := ⟨m.Clear.toNat, by omega⟩
  rw [e1, e2] at ha ⊢
  exact WP.step (ZpI (by omega) (by omega)) (fun y w h => WP.ret h)
 obtain ⟨⟨⟨⟨⟨g1, g2⟩, g3⟩, g4⟩, g5⟩, g6⟩ := h1
 refine WP.ite (fun h => WP.ret ⟨?_, s⟩) (fun h2 => ?_)
 ·rw [if_pos]
  simp only [Bool.or_eq_true, Bool.not_eq_true'] at h
  unfold Zjf
  rcases h with ((h | h) | h) | h <;> simp [h]
 have h2 : ((inR m.Set 0 255 = true ∧ inR m.Clear 0 255 = true) ∧ inR m.Type_ 0 256 = true) ∧ Zgu m.Set m.Clear = false := by
  simpa using h2
 obtain ⟨⟨⟨g7, g8⟩, g9⟩, g10⟩ := h2
 have hfine : ¬ (Zjf m = false) := by
  unfold Zjf
  simp [g1, g2, g3, g4, g5, g6, g7, g8, g9, g10]
 rw [if_neg hfine]
 have hs := of_decide_eq_true g7
 have hc := of_decide_eq_true g8
 have hk := of_decide_eq_true g3
 have hw : IntKind.wrap .i64 (m.Set + m.Clear) = m.Set + m.Clear := Zah (by omega) (by omega)
 rw [hw]
 refine Zpt ?_
 refine worX (q := decide (m.Kind = 1 ∧ m.Proto ≠ 0)) (fun _ => Zpt (WP.ret ⟨rfl, rfl⟩)) ?_
 refine worX (q := decide (m.Set + m.Clear ≠ 0 ∧ m.Proto ≠ 6)) (fun _ => Zpt (WP.ret ⟨rfl, rfl⟩)) ?_
 refine worX (q := decide (m.Type_ ≠ 0 ∧ m.Proto ≠ 1 ∧ m.Proto ≠ 58)) (fun _ => Zpt (Zpt (WP.ret ⟨decide_eq_decide.2 ?_, rfl⟩))) ?_
 ·rw [decide_eq_true_iff]
  exact ⟨fun h => ⟨h.1.1, h.1.2, h.2⟩, fun h => ⟨⟨h.1, h.2.1⟩, h.2.2⟩⟩
 have hcl : Zi4 m = (((decide (m.Class ≠ 0 ∧ m.Act ≠ 1) || decide (m.Kind = 1 ∧ m.Proto ≠ 0)) || decide (m.Set + m.Clear ≠ 0 ∧ m.Proto ≠ 6)) || decide (m.Type_ ≠ 0 ∧ m.Proto ≠ 1 ∧ m.Proto ≠ 58)) := by
  unfold Zi4 Zfm
  rw [Bool.eq_iff_iff]
  simp only [Bool.or_eq_true, decide_eq_true_iff, decide_eq_false_iff_not]
  omega
 rw [← hcl]
 refine WP.ite (fun h => WP.ret ⟨by rw [if_pos h], s⟩) (fun h => ?_)
 rw [if_neg h]
 refine WP.step (Zn8 s (by rw [c3]; exact hk) hf) ?_
 rintro _ w ⟨rfl, s⟩
 rw [c3, c4]
 refine WP.ite (fun h => WP.ret ⟨by rw [if_pos h], s⟩) (fun h => ?_)
 rw [if_neg h]
 refine WP.step (Zn8 s (by rw [c3]; exact hk) ht) ?_
 rintro _ w ⟨rfl, s⟩
 exact WP.ret ⟨by rw [c3, c4], s⟩
end
end Go.Proofs.YtpmhinidiplhiaaGreatDoor.Lx
