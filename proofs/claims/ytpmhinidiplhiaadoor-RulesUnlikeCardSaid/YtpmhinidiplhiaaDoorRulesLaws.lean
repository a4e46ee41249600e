
import Derived.Test.YtpmhinidiplhiaaDoorRulesStart
set_option linter.unusedVariables false
set_option linter.unusedSimpArgs false
namespace Go.Proofs.YtpmhinidiplhiaaDoor.Lx
open Go Go.Proofs Go.RowKit
theorem Zk3 : ∀ (l cur : List Int) (p : Int) (ws : List Wd), lexM cur p l = .ok ws → Byt l
 | [], _, _, _, _ => fun x hx => by cases hx
 | c :: cs, cur, p, ws, h => by
  rw [lexM] at h
  have cons : (0 ≤ c ∧ c ≤ 255) → Byt cs → Byt (c :: cs) := fun h1 h2 x hx => by
   rcases List.mem_cons.1 hx with rfl | hx
   ·exact h1
   ·exact h2 x hx
  split at h
  ·rename_i hw
   have := of_decide_eq_true hw
   exact cons (by omega) (Zk3 cs _ _ _ h)
  ·split at h
   ·cases h
   ·rename_i r hr
    split at hr
    ·rename_i h44
     split at hr
     ·cases hr
     ·rename_i r2 h2
      exact cons (by omega) (Zk3 cs _ _ _ h2)
    ·split at hr
     ·rename_i h32
      exact cons (by omega) (Zk3 cs _ _ _ hr)
     ·cases hr
theorem Zmb {m : ZaO} (hb : BytR m) (hc : ckM m = 0) : Byt (ZgV m) := by
 obtain ⟨hf, -, k1, k2⟩ := Zn4 hc
 obtain ⟨ws, h, -⟩ := Zkn (Zlb hf) (Zgc hb.1 k1) (Zgc hb.2 k2)
 exact Zk3 _ _ _ _ h
def prM (m : ZaO) : ByteArray × Int := if ckM m ≠ 0 then (ByteArray.empty, ckM m) else (bstr (ZgV m), 0)
theorem ZrH (m : ZaO) : ∃ t, prM m = (t, ckM m) ∧ (ckM m = 0 → t = bstr (ZgV m)) ∧ (ckM m ≠ 0 → t = ByteArray.empty) := by
 unfold prM
 by_cases h : ckM m = 0
 ·rw [if_neg (fun h' => h' h)]
  exact ⟨_, by rw [h], fun _ => rfl, fun h' => absurd h h'⟩
 ·rw [if_pos h]
  exact ⟨_, rfl, fun h' => absurd h' h, fun _ => rfl⟩
section
variable {W w : World} {Hs : List HP}
theorem RdR.byt {r : Zap} {m : ZaO} (h : RdR Hs r m) : BytR m := ⟨h.from_.byts, h.to_.byts⟩
theorem ZlX {r : Zap} {m : ZaO} (s : Ss W Hs w) (T : RTab Hs) (rr : RdR Hs r m) : WP (Zbz r) w (fun y w' => y = prM m ∧ Ss W Hs w') := ZlW s T rr
theorem worB {β : Type} {p : Prop} [Decidable p] {f : Bool → M β} {Q : β → World → Prop} {X : M Bool} {z : Bool} (hz : p → z = true) (hX : ¬ p → WP X w (fun y w' => y = z ∧ w = w')) (k : WP (f z) w Q) : WP ((if p then pure true else X) >>= f) w Q := by
 refine WP.step (R := fun y w' => y = z ∧ w = w') (WP.ite (fun h => WP.ret ⟨(hz h).symm, rfl⟩) hX) ?_
 rintro _ _ ⟨rfl, rfl⟩
 exact k
theorem ZjW {a b : Zap} {m n : ZaO} (s : Ss W Hs w) (T : RTab Hs) (r : RdR Hs a m) (q : RdR Hs b n) : WP (Zbx a b) w (fun y w' => y = true ∧ ∃ L, Ss W L w') := by
 unfold Zbx
 obtain ⟨t, ht, h0, -⟩ := ZrH m
 obtain ⟨u, hu, g0, -⟩ := ZrH n
 refine WP.slot' s (fun _ w s => WP.slot' s (fun _ w s => WP.step (ZlX s T r) ?_))
 rintro _ w ⟨rfl, s⟩
 refine WP.step (ZlX s T q) ?_
 rintro _ w ⟨rfl, s⟩
 rw [ht, hu]
 dsimp only
 refine WP.step (Zjd _) ?_
 rintro _ _ ⟨rfl, rfl⟩
 refine worB (z := !decide (ckM m = 0 ∧ ckM n = 0)) (fun h => by rw [decide_eq_false (fun h' => h h'.1)]; rfl) (fun h => WP.step (Zjd _) ?_) ?_
 ·rintro _ _ ⟨rfl, rfl⟩
  have h := Decidable.not_not.1 h
  refine WP.ret ⟨?_, rfl⟩
  by_cases h2 : ckM n = 0
  ·rw [decide_eq_true ⟨h, h2⟩, h2]
   rfl
  ·rw [decide_eq_false (fun h' => h2 h'.2), Bool.not_false, bne_iff_ne]
   exact h2
 have wor2 : ∀ {p : Prop} {v : ByteArray} [Decidable p] {f : Bool → M Bool} {Q : Bool → World → Prop} {w : World}, WP (f (!decide (p ∧ v.size ≤ 1024))) w Q → WP ((if (!decide p) = true then pure true else pure (decide ((v.size : Int) > 1024))) >>= f) w Q := by
  intro p v _ f Q w k
  refine worB (fun h => ?_) (fun h => WP.ret ⟨?_, rfl⟩) k
  ·have : ¬ p := fun h' => by rw [decide_eq_true h'] at h; cases h
   rw [decide_eq_false (fun h' => this h'.1)]
   rfl
  ·have : p := Decidable.byContradiction fun h' => h (by rw [decide_eq_false h']; rfl)
   by_cases h2 : v.size ≤ 1024
   ·rw [decide_eq_false (show ¬ ((v.size : Int) > 1024) by omega), decide_eq_true (show p ∧ v.size ≤ 1024 from ⟨this, h2⟩)]
    rfl
   ·rw [decide_eq_true (show (v.size : Int) > 1024 by omega), decide_eq_false (show ¬ (p ∧ v.size ≤ 1024) from fun h' => h2 h'.2)]
    rfl
 refine wor2 (wor2 (WP.ite (fun h => WP.step (Zj6 s T) ?_) (fun h => WP.step (Zj6 s T) ?_)))
 ·rintro _ w ⟨rfl, s⟩
  exact WP.ret ⟨rfl, _, s⟩
 have h : ((ckM m = 0 ∧ ckM n = 0) ∧ t.size ≤ 1024) ∧ u.size ≤ 1024 := Decidable.byContradiction fun h' => h (by rw [decide_eq_false h']; rfl)
 obtain ⟨⟨⟨c1, c2⟩, l1⟩, l2⟩ := h
 rw [h0 c1] at l1 ⊢
 rw [g0 c2] at l2 ⊢
 rw [ZcO] at l1 l2
 rintro _ w ⟨rfl, s⟩
 have hm := Zmb r.byt c1
 have hn := Zmb q.byt c2
 refine Zoh (R := fun w' => Ss W Hs w') rfl (WP.step (ZqB s r q (Zn2 c1)) ?_) ?_
 ·rintro _ w ⟨rfl, s⟩
  refine WP.ret ⟨?_, s⟩
  have key : (bstr (ZgV m)).toList = (bstr (ZgV n)).toList ↔ m = n := by
   rw [Zbv, ZeB hm, ZeB hn]
   refine ⟨fun h => ?_, fun h => by rw [h]⟩
   have e1 := ZlR r.byt.1 r.byt.2 c1 l1
   rw [h, ZlR q.byt.1 q.byt.2 c2 l2] at e1
   exact (Except.ok.inj e1).symm
  rw [beq_iff_eq, Bool.eq_iff_iff, beq_iff_eq, decide_eq_true_iff]
  exact key
 intro w s
 exact WP.ret ⟨rfl, _, s⟩
end
end Go.Proofs.YtpmhinidiplhiaaDoor.Lx
