
import Derived.Test.YtpmhinidiplhiaaGreatDoorRulesParse
set_option linter.unusedVariables false
set_option linter.unusedSimpArgs false
namespace Go.Proofs.YtpmhinidiplhiaaGreatDoor.Lx
open Go Go.Proofs Go.RowKit
def Byts (l : List Zap) : Prop := ∀ p ∈ l, Byt p.IP.A.l
structure RdSd (L : List HP) (sd : Zae) (m : ZcT) : Prop where
 no : sd.Not = m.Not
 byts : Byts m.nets
 rn : ∃ i A, nth L i = some A ∧ Rdb A cPfx sd.Nets m.nets
 rp : ∃ i A, nth L i = some A ∧ Rdb A cRg sd.Ports m.ports
theorem RdSd.push {L : List HP} {sd : Zae} {m : ZcT} {A : HP} (r : RdSd L sd m) : RdSd (A :: L) sd m := by
 obtain ⟨h1, h2, ⟨i, B, e1, r1⟩, ⟨j, C, e2, r2⟩⟩ := r
 exact ⟨h1, h2, ⟨i + 1, B, e1, r1⟩, ⟨j + 1, C, e2, r2⟩⟩
structure RdR (L : List HP) (r : Zag) (m : Za9) : Prop where
 sc : RSc r m
 from_ : RdSd L r.From m.From
 to_ : RdSd L r.To m.To
theorem RdR.push {L : List HP} {r : Zag} {m : Za9} {A : HP} (h : RdR L r m) : RdR (A :: L) r m := ⟨h.sc, h.from_.push, h.to_.push⟩
section
variable {W w : World} {Hs : List HP}
theorem Zs7 {sd : Zae} {m : ZcT} (s : Ss W Hs w) (hl : sd.Ports.len = m.ports.length) (proto : Int) :
  WP (Zan.K1 sd proto) w (fun y w' => y = (if m.ports ≠ [] ∧ ZdW proto = false then 165 else 0) ∧ Ss W Hs w') := by
 unfold Zan.K1
 have hne : ((sd.Ports.len : Int) > 0) ↔ m.ports ≠ [] := by
  rw [hl]
  exact ⟨fun h h' => by rw [h'] at h; simp at h, fun h => by have := List.length_pos_iff.2 h; omega⟩
 refine WP.step (R := fun y w' => y = decide (m.ports ≠ [] ∧ ZdW proto = false) ∧ w = w') (WP.ite (fun h => WP.step (Zmw proto) ?_) (fun h => WP.ret ⟨?_, rfl⟩)) ?_
 ·rintro _ _ ⟨rfl, rfl⟩
  refine WP.ret ⟨?_, rfl⟩
  have h1 := hne.1 h
  cases hp : ZdW proto <;> simp [h1]
 ·exact (decide_eq_false (fun h' => h (hne.2 h'.1))).symm
 rintro _ _ ⟨rfl, rfl⟩
 refine WP.ite (fun h => WP.ret ⟨?_, s⟩) (fun h => WP.ret ⟨?_, s⟩)
 ·rw [if_pos (of_decide_eq_true h)]
 ·rw [if_neg (fun h' => h (decide_eq_true h'))]
theorem Zs6 {sd : Zae} {m : ZcT} (s : Ss W Hs w) {j : Nat} {B : HP} (e2 : nth Hs j = some B) (rb : Rdb B cRg sd.Ports m.ports) (proto : Int) :
  WP (Zan.K2 sd proto) w (fun y w' => y = (if m.ports.length > 16 then 164 else if ¬ (∀ r ∈ m.ports, Zef r = true) then 164 else if m.ports ≠ [] ∧ ZdW proto = false then 165 else 0) ∧ Ss W Hs w') := by
 unfold Zan.K2
 have hl := (s.rd_len e2 rb).1
 refine WP.ite (fun h => WP.ret ⟨by rw [if_pos (by omega)], s⟩) (fun h => ?_)
 rw [if_neg (by omega)]
 refine WP.loopG (γ := Nat) (fun k (x : Int) w => x = (k : Int) ∧ k ≤ m.ports.length ∧ (∀ r ∈ m.ports.take k, Zef r = true) ∧ Ss W Hs w) (fun k _ => m.ports.length - k) 0 ⟨rfl, Nat.zero_le _, by simp, s⟩ ?_
 clear s
 rintro k _ w ⟨rfl, hk, ha, s⟩
 show WP (Zan.L1 sd proto (k : Int)) w _
 unfold Zan.L1
 refine WP.ite (fun h => ?_) (fun h => ?_)
 ·have hk2 : k < m.ports.length := by omega
  have hx := List.getElem?_eq_getElem hk2
  have htake : m.ports.take (k + 1) = m.ports.take k ++ [m.ports[k]] := by
   rw [List.take_add_one, hx]
   rfl
  generalize m.ports[k] = x at hx htake
  refine WP.rdx s j e2 rb (by omega) (x := x) (by rw [Int.toNat_natCast]; exact hx) rfl (WP.slot' s (fun _ w s => ?_))
  refine WP.step (R := fun y w' => y = decide (x.Lo < 0 ∨ x.Hi > 65535) ∧ w = w') (WP.ite (fun h => WP.ret ⟨(decide_eq_true (.inl h)).symm, rfl⟩) (fun h => WP.ret ⟨decide_eq_decide.2 ⟨.inr, fun h' => h'.elim (fun h' => absurd h' h) id⟩, rfl⟩)) ?_
  rintro _ _ ⟨rfl, rfl⟩
  refine WP.step (R := fun y w' => y = !(Zef x) ∧ w = w') (WP.ite (fun h => WP.ret ⟨?_, rfl⟩) (fun h => WP.ret ⟨?_, rfl⟩)) ?_
  ·unfold Zef
   have h := of_decide_eq_true h
   rw [decide_eq_false (by omega)]
   rfl
  ·unfold Zef
   have h : ¬ (x.Lo < 0 ∨ x.Hi > 65535) := fun h' => h (decide_eq_true h')
   rw [← decide_not]
   exact decide_eq_decide.2 (by omega)
  rintro _ _ ⟨rfl, rfl⟩
  cases hr : Zef x with
  | false =>
   refine WP.ite (fun _ => WP.done ⟨?_, s⟩) (fun h => absurd rfl h)
   rw [if_pos (fun h' => by have := h' x (List.mem_of_getElem? hx); rw [hr] at this; cases this)]
  | true =>
   refine WP.ite (fun h => by cases h) (fun _ => WP.next ⟨k + 1, ⟨?_, hk2, ?_, s⟩, by omega⟩)
   ·rw [Zah (by omega) (by omega)]
    simp
   ·rw [htake]
    intro r hm
    rcases List.mem_append.1 hm with hm | hm
    ·exact ha r hm
    ·rw [List.mem_singleton.1 hm]
     exact hr
 ·have hk2 : k = m.ports.length := by omega
  rw [hk2, List.take_length] at ha
  refine WP.step (Zs7 s hl proto) (fun y w h => WP.done ?_)
  rw [if_neg (fun h' => h' ha)]
  exact h
theorem Zi5 {sd : Zae} {m : ZcT} (s : Ss W Hs w) (r : RdSd Hs sd m) (kind proto : Int) :
  WP (Zan sd kind proto) w (fun y w' => y = Zd6 m kind proto ∧ Ss W Hs w') := by
 obtain ⟨hno, hb, ⟨i, A, e, ra⟩, ⟨j, B, e2, rb⟩⟩ := r
 unfold Zan
 have hl := (s.rd_len e ra).1
 have hne : ((sd.Nets.len : Int) == 0) = decide (m.nets = []) := by
  rw [Bool.eq_iff_iff, beq_iff_eq, decide_eq_true_iff, hl, ← List.length_eq_zero_iff]
  omega
 refine WP.slot' s (fun _ w s => ?_)
 refine WP.step (R := fun y w' => y = decide (m.nets.length > 16 ∨ (m.Not = true ∧ m.nets = [])) ∧ w = w') (WP.ite (fun h => WP.ret ⟨(decide_eq_true (.inl (by omega))).symm, rfl⟩) (fun h => ?_)) ?_
 ·refine WP.step (R := fun y w' => y = decide (m.nets.length > 16 ∨ (m.Not = true ∧ m.nets = [])) ∧ w = w') (WP.ite (fun h2 => WP.ret ⟨?_, rfl⟩) (fun h2 => WP.ret ⟨?_, rfl⟩)) (fun y w h => WP.ret h)
  ·rw [hne]
   rw [hno] at h2
   exact decide_eq_decide.2 ⟨fun h' => .inr ⟨h2, h'⟩, fun h' => h'.elim (fun h' => absurd h' (by omega)) (fun h' => h'.2)⟩
  ·rw [hno] at h2
   exact (decide_eq_false (fun h' => h'.elim (fun h' => absurd h' (by omega)) (fun h' => h2 h'.1))).symm
 rintro _ _ ⟨rfl, rfl⟩
 unfold Zd6
 refine WP.ite (fun h => WP.ret ⟨by rw [if_pos (of_decide_eq_true h)], s⟩) (fun h => ?_)
 have h16 : ¬ (m.nets.length > 16 ∨ (m.Not = true ∧ m.nets = [])) := fun h' => h (decide_eq_true h')
 rw [if_neg h16]
 refine WP.loopG (γ := Nat) (fun k (x : Int) w => x = (k : Int) ∧ k ≤ m.nets.length ∧ (∀ p ∈ m.nets.take k, Zgq p kind = true) ∧ Ss W Hs w) (fun k _ => m.nets.length - k) 0 ⟨rfl, Nat.zero_le _, by simp, s⟩ ?_
 clear s
 rintro k _ w ⟨rfl, hk, ha, s⟩
 show WP (Zan.L2 sd kind proto (k : Int)) w _
 unfold Zan.L2
 refine WP.ite (fun h => ?_) (fun h => ?_)
 ·have hk2 : k < m.nets.length := by omega
  have hx := List.getElem?_eq_getElem hk2
  have htake : m.nets.take (k + 1) = m.nets.take k ++ [m.nets[k]] := by
   rw [List.take_add_one, hx]
   rfl
  generalize m.nets[k] = x at hx htake
  refine WP.rdx s i e ra (by omega) (x := x) (by rw [Int.toNat_natCast]; exact hx) rfl (WP.slot' s (fun _ w s => WP.step (Zqw s x (hb x (List.mem_of_getElem? hx)) kind) ?_))
  rintro _ w ⟨rfl, s⟩
  cases hr : Zgq x kind with
  | false =>
   refine WP.ite (fun _ => WP.done ⟨?_, s⟩) (fun h => absurd (by decide) h)
   rw [if_pos (fun h' => by have := h' x (List.mem_of_getElem? hx); rw [hr] at this; cases this)]
  | true =>
   refine WP.ite (fun h => absurd rfl h) (fun _ => WP.next ⟨k + 1, ⟨?_, hk2, ?_, s⟩, by omega⟩)
   ·rw [Zah (by omega) (by omega)]
    simp
   ·rw [htake]
    intro r hm
    rcases List.mem_append.1 hm with hm | hm
    ·exact ha r hm
    ·rw [List.mem_singleton.1 hm]
     exact hr
 ·have hk2 : k = m.nets.length := by omega
  rw [hk2, List.take_length] at ha
  refine WP.step (Zs6 s e2 rb proto) (fun y w h => WP.done ?_)
  rw [if_neg (fun h' => h' ha)]
  exact h
theorem Zl8 (n lo hi : Int) : WP (ZbL n lo hi) w (fun y w' => y = inR n lo hi ∧ w = w') := by
 unfold ZbL inR
 refine WP.step (R := fun y w' => y = decide (lo ≤ n ∧ n ≤ hi) ∧ w = w') (WP.ite (fun h => WP.ret ⟨decide_eq_decide.2 ⟨fun h' => ⟨h, h'⟩, fun h' => h'.2⟩, rfl⟩) (fun h => WP.ret ⟨(decide_eq_false (fun h' => h h'.1)).symm, rfl⟩)) (fun y w h => WP.ret h)
theorem wand {β : Type} {a : Bool} {n lo hi : Int} {f : Bool → M β} {Q : β → World → Prop} (k : WP (f (a && inR n lo hi)) w Q) : WP ((if a = true then ZbL n lo hi >>= fun r => pure r else pure false) >>= f) w Q := by
 refine WP.step (R := fun y w' => y = (a && inR n lo hi) ∧ w = w') (WP.ite (fun h => WP.step (Zl8 n lo hi) ?_) (fun h => WP.ret ⟨?_, rfl⟩)) ?_
 ·rintro _ _ ⟨rfl, rfl⟩
  exact WP.ret ⟨by rw [h]; rfl, rfl⟩
 ·cases a
  ·rfl
  ·exact absurd rfl h
 rintro _ _ ⟨rfl, rfl⟩
 exact k
theorem Zlc {r : Zag} {m : Za9} (s : Ss W Hs w) (h : RdR Hs r m) (j : Bool) : WP (Za2.K1 r j) w (fun y w' => y = (if j = true then 165 else if Zd6 m.From m.Kind m.Proto ≠ 0 then Zd6 m.From m.Kind m.Proto else Zd6 m.To m.Kind m.Proto) ∧ Ss W Hs w') := by
 unfold Za2.K1
 obtain ⟨⟨-, -, hk, hp, -⟩, hf, ht⟩ := h
 rw [hk, hp]
 refine WP.ite (fun h => WP.ret ⟨by rw [if_pos h], s⟩) (fun h => ?_)
 rw [if_neg h]
 refine WP.step (Zi5 s hf m.Kind m.Proto) ?_
 rintro _ w ⟨rfl, s⟩
 refine WP.ite (fun h => WP.ret ⟨by rw [if_pos h], s⟩) (fun h => ?_)
 rw [if_neg h]
 refine WP.step (Zi5 s ht m.Kind m.Proto) ?_
 rintro _ w ⟨rfl, s⟩
 exact WP.ret ⟨rfl, s⟩
theorem Zpi {r : Zag} {m : Za9} (s : Ss W Hs w) (h : RdR Hs r m) (hs : 0 ≤ m.Set ∧ m.Set ≤ 255) (hc : 0 ≤ m.Clear ∧ m.Clear ≤ 255) (j : Bool) : WP (Za2.K2 r j) w (fun y w' => y = (if (j || decide (((m.Set ≠ 0 ∨ m.Clear ≠ 0) ∧ m.Proto ≠ 6) ∨ (m.Type_ ≠ 0 ∧ Zfm m.Proto = false))) = true then 165 else if Zd6 m.From m.Kind m.Proto ≠ 0 then Zd6 m.From m.Kind m.Proto else Zd6 m.To m.Kind m.Proto) ∧ Ss W Hs w') := by
 have h0 := h
 obtain ⟨⟨-, -, -, hp, -, -, e1, e2, e3, -⟩, -, -⟩ := h
 unfold Za2.K2
 rw [hp, e1, e2, e3]
 refine WP.ite (fun h => WP.ret ⟨by rw [h]; rfl, s⟩) (fun h => ?_)
 have hj : j = false := by cases j with
  | false => rfl
  | true => exact absurd rfl h
 subst hj
 rw [Bool.false_or]
 have hz := ZrS hs hc
 refine WP.step (R := fun y w' => y = decide ((m.Set ≠ 0 ∨ m.Clear ≠ 0) ∧ m.Proto ≠ 6) ∧ w = w') (WP.ite (fun h => WP.ret ⟨?_, rfl⟩) (fun h => WP.ret ⟨?_, rfl⟩)) ?_
 ·rw [Bool.eq_iff_iff, bne_iff_ne, decide_eq_true_iff]
  exact ⟨fun h' => ⟨hz.1 h, h'⟩, fun h' => h'.2⟩
 ·exact (decide_eq_false (fun h' => h (hz.2 h'.1))).symm
 rintro _ _ ⟨rfl, rfl⟩
 refine WP.ite (fun h => ?_) (fun h => ?_)
 ·have h' := of_decide_eq_true h
  refine (Zlc s h0 _).mono ?_
  rintro y w ⟨rfl, s⟩
  rw [if_pos h, if_pos (decide_eq_true (.inl h'))]
  exact ⟨rfl, s⟩
 ·have h' : ¬ ((m.Set ≠ 0 ∨ m.Clear ≠ 0) ∧ m.Proto ≠ 6) := fun h' => h (decide_eq_true h')
  refine WP.step (R := fun y w' => y = decide (((m.Set ≠ 0 ∨ m.Clear ≠ 0) ∧ m.Proto ≠ 6) ∨ (m.Type_ ≠ 0 ∧ Zfm m.Proto = false)) ∧ w = w') (WP.ite (fun h2 => WP.step (Zn1 m.Proto) ?_) (fun h2 => WP.ret ⟨?_, rfl⟩)) ?_
  ·rintro _ _ ⟨rfl, rfl⟩
   refine WP.ret ⟨?_, rfl⟩
   cases ht : Zfm m.Proto with
   | false => exact (decide_eq_true (.inr ⟨h2, rfl⟩)).symm
   | true => exact (decide_eq_false (fun h3 => h3.elim h' (fun h3 => by cases h3.2))).symm
  ·exact (decide_eq_false (fun h3 => h3.elim h' (fun h3 => h2 h3.1))).symm
  rintro _ _ ⟨rfl, rfl⟩
  exact Zlc s h0 _
theorem Zl4 {r : Zag} {m : Za9} (s : Ss W Hs w) (h : RdR Hs r m) : WP (Za2 r) w (fun y w' => y = ckM m ∧ Ss W Hs w') := by
 have h0 := h
 obtain ⟨⟨c1, c2, c3, c4, c5, c6, c7, c8, c9, c10⟩, -, -⟩ := h
 unfold Za2
 rw [c1, c2, c3, c4, c5, c6, c7, c8, c9]
 refine WP.slot' s (fun _ w s => WP.step (Zl8 m.Act 1 3) ?_)
 rintro _ _ ⟨rfl, rfl⟩
 refine wand (wand (wand (wand (wand (wand (wand (wand ?_)))))))
 have hf : ∀ {a : Bool}, (a = true → (0 ≤ m.Set ∧ m.Set ≤ 255) ∧ (0 ≤ m.Clear ∧ m.Clear ≤ 255)) → ((if a = true then pure (band .i64 m.Set m.Clear == 0) else pure false : M Bool)) = pure (a && !Zgu m.Set m.Clear) := by
  intro a ha
  cases a with
  | false => rfl
  | true =>
   have := Zpn (ha rfl).1 (ha rfl).2
   rw [if_pos rfl, Bool.true_and]
   congr 1
   rw [Bool.eq_iff_iff, beq_iff_eq, this]
   simp
 rw [hf (fun h => by
  simp only [Bool.and_eq_true, inR, decide_eq_true_iff] at h
  exact ⟨h.1.1.2, h.1.2⟩)]
 refine WP.step (R := fun y w' => y = Zjf m ∧ w = w') (WP.ret ⟨rfl, rfl⟩) ?_
 rintro _ _ ⟨rfl, rfl⟩
 unfold ckM
 cases hfm : Zjf m with
 | false => exact WP.ite (fun _ => WP.ret ⟨rfl, s⟩) (fun h => absurd (by decide) h)
 | true =>
  rw [if_neg (show ¬ (true = false) by decide)]
  refine WP.ite (fun h => absurd rfl h) (fun _ => ?_)
  have hb : (0 ≤ m.Set ∧ m.Set ≤ 255) ∧ (0 ≤ m.Clear ∧ m.Clear ≤ 255) := by
   unfold Zjf at hfm
   simp only [Bool.and_eq_true, inR, decide_eq_true_iff] at hfm
   exact ⟨hfm.1.1.1.2, hfm.1.1.2⟩
  have fin : ∀ {w : World} {j : Bool}, Ss W Hs w → (j = decide ((m.Class ≠ 0 ∧ m.Act ≠ 1) ∨ (m.Proto ≠ 0 ∧ m.Kind = 1))) → WP (Za2.K2 r j) w (fun y w' => y = (if Zi4 m = true then 165 else if Zd6 m.From m.Kind m.Proto ≠ 0 then Zd6 m.From m.Kind m.Proto else Zd6 m.To m.Kind m.Proto) ∧ Ss W Hs w') := by
   intro w j s hj
   have hcl : Zi4 m = (j || decide (((m.Set ≠ 0 ∨ m.Clear ≠ 0) ∧ m.Proto ≠ 6) ∨ (m.Type_ ≠ 0 ∧ Zfm m.Proto = false))) := by
    rw [hj]
    unfold Zi4
    rw [Bool.eq_iff_iff]
    simp only [Bool.or_eq_true, decide_eq_true_iff]
    exact ⟨fun h => h.elim (fun h => .inl (.inl h)) (fun h => h.elim (fun h => .inl (.inr h)) .inr), fun h => h.elim (fun h => h.elim .inl (fun h => .inr (.inl h))) (fun h => .inr (.inr h))⟩
   rw [hcl]
   exact Zpi s h0 hb.1 hb.2 j
  refine WP.step (R := fun y w' => y = decide (m.Class ≠ 0 ∧ m.Act ≠ 1) ∧ w = w') (WP.ite (fun h => WP.ret ⟨?_, rfl⟩) (fun h => WP.ret ⟨?_, rfl⟩)) ?_
  ·rw [Bool.eq_iff_iff, bne_iff_ne, decide_eq_true_iff]
   exact ⟨fun h' => ⟨h, h'⟩, fun h' => h'.2⟩
  ·exact (decide_eq_false (fun h' => h h'.1)).symm
  rintro _ _ ⟨rfl, rfl⟩
  refine WP.ite (fun h => fin s ?_) (fun h => ?_)
  ·rw [h, decide_eq_true (.inl (of_decide_eq_true h))]
  ·have h' : ¬ (m.Class ≠ 0 ∧ m.Act ≠ 1) := fun h' => h (decide_eq_true h')
   refine WP.step (R := fun y w' => y = decide ((m.Class ≠ 0 ∧ m.Act ≠ 1) ∨ (m.Proto ≠ 0 ∧ m.Kind = 1)) ∧ w = w') (WP.ite (fun h => WP.ret ⟨?_, rfl⟩) (fun h => WP.ret ⟨?_, rfl⟩)) ?_
   ·rw [Bool.eq_iff_iff, beq_iff_eq, decide_eq_true_iff]
    exact ⟨fun h2 => .inr ⟨h, h2⟩, fun h2 => h2.elim (fun h2 => absurd h2 h') (fun h2 => h2.2)⟩
   ·exact (decide_eq_false (fun h2 => h2.elim h' (fun h2 => h h2.1))).symm
   rintro _ _ ⟨rfl, rfl⟩
   exact fin s rfl
end
end Go.Proofs.YtpmhinidiplhiaaGreatDoor.Lx
