
import Derived.Test.YtpmhinidiplhiaaDoorRulesLaws
import Derived.Test.YtpmhinidiplhiaaDoorRulesRead2
set_option linter.unusedVariables false
set_option linter.unusedSimpArgs false
namespace Go.Proofs.YtpmhinidiplhiaaDoor.Lx
open Go Go.Proofs Go.RowKit
section
variable {W w : World} {Hs : List HP}
theorem ZtT (s : Ss W Hs w) : ∃ A B : HP, Ss W (A :: B :: Hs) w ∧ RdR (A :: B :: Hs) Zal zRl := by
 have s := s.mk0 (A := vec cPfx Sl.nil [] []) Zcx
 have s := s.mk0 (A := vec cRg Sl.nil [] []) Zcx
 exact ⟨_, _, s, ZlQ, ⟨rfl, fun p hp => (by cases hp), ⟨1, _, rfl, Zcp⟩, ⟨0, _, rfl, Zcp⟩⟩, ⟨rfl, fun p hp => (by cases hp), ⟨1, _, rfl, Zcp⟩, ⟨0, _, rfl, Zcp⟩⟩⟩
theorem ZlL (s : Ss W Hs w) (T : RTab Hs) (t : ByteArray) : WP (ZbH t) w (fun y w' => y = true ∧ ∃ L, Ss W L w') := by
 unfold ZbH
 have hlen := Zbm t
 obtain ⟨gm, gf⟩ := ZoQ (strI t)
 refine WP.step (Zjp s T t) ?_
 rintro ⟨q1, q2, q3⟩ w h
 cases hX : Zj7 (strI t) with
 | error f =>
  rw [hX] at h
  obtain ⟨hq, hf0, s1⟩ := h
  have hp := gf f hX
  cases hq
  clear s
  obtain ⟨A, B, s, rz⟩ := ZtT s1
  refine WP.slot' s (fun _ w s => WP.step (ZfO _) ?_)
  rintro _ _ ⟨rfl, rfl⟩
  refine WP.ite (fun _ => WP.step (ZhX s T.push.push) ?_) (fun h => absurd hf0 h)
  rintro _ w ⟨rfl, s⟩
  refine ZiG (R := fun w' => w = w') rfl (WP.ret ⟨decide_eq_true hp.1, rfl⟩) ?_
  rintro _ rfl
  refine ZiG (R := fun w' => w = w') rfl (WP.ret ⟨decide_eq_true (show f.2 ≤ (t.size : Int) by omega), rfl⟩) ?_
  rintro _ rfl
  refine ZiG (R := fun w' => Ss W (A :: B :: Hs) w') rfl (WP.step (ZnJ s rz rz (by decide)) (fun y w h => WP.ret ⟨h.1.trans (decide_eq_true rfl), h.2⟩)) ?_
  intro w s
  exact WP.ret ⟨rfl, _, s⟩
 | ok m =>
  rw [hX] at h
  obtain ⟨hc, hb⟩ := gm m hX
  have hb : BytR m := hb
  obtain ⟨hq, s1⟩ := h
  obtain ⟨rfl, rfl⟩ := Prod.mk.inj hq
  clear s
  obtain ⟨A, B, C, D, s, r⟩ := Zle s1 hb
  clear s1
  have T4 := T.push (A := D) |>.push (A := C) |>.push (A := B) |>.push (A := A)
  refine WP.slot' s (fun _ w s => WP.step (ZfO _) ?_)
  rintro _ _ ⟨rfl, rfl⟩
  refine WP.ite (fun h => absurd rfl h) (fun _ => WP.step (Zmj s T4 r) ?_)
  rintro _ w ⟨rfl, s⟩
  obtain ⟨u, hu, h0, -⟩ := Ztn m
  rw [hu, hc]
  have hu0 := h0 hc
  dsimp only
  refine WP.step (ZfO _) ?_
  rintro _ _ ⟨rfl, rfl⟩
  refine WP.step (R := fun y w' => y = false ∧ Ss W (A :: B :: C :: D :: Hs) w') (WP.ite (fun h => absurd rfl h) (fun _ => WP.step (ZlO s r) ?_)) ?_
  ·rintro _ w ⟨rfl, s⟩
   rw [hc]
   refine WP.step (ZfO _) ?_
   rintro _ _ ⟨rfl, rfl⟩
   exact WP.ret ⟨rfl, s⟩
  rintro _ w ⟨rfl, s⟩
  refine WP.step (R := fun y w' => y = false ∧ w = w') (WP.ite (fun h => by cases h) (fun _ => WP.ret ⟨rfl, rfl⟩)) ?_
  rintro _ _ ⟨rfl, rfl⟩
  refine WP.ite (fun h => by cases h) (fun _ => WP.ite (fun h => WP.step (ZhX s T4) ?_) (fun h => WP.step (Zjp s T4 u) ?_))
  ·rintro _ w ⟨rfl, s⟩
   exact WP.ret ⟨rfl, _, s⟩
  rw [hu0, ZcT] at h
  rintro ⟨v1, v2⟩ w hv
  rw [hu0, Zfp (Zqg hb hc), ZpN hb.1 hb.2 hc (by omega)] at hv
  obtain ⟨e2, s1⟩ := hv
  dsimp only at e2 s1 ⊢
  subst e2
  clear s
  obtain ⟨A', B', C', D', s, rq⟩ := Zle s1 hb
  clear s1
  have T8 := T4.push (A := D') |>.push (A := C') |>.push (A := B') |>.push (A := A')
  refine WP.slot' s (fun _ w s => WP.step (Zmj s T8 rq) ?_)
  rintro _ w ⟨rfl, s⟩
  rw [hu, hc]
  dsimp only
  refine WP.step (ZhX s T8) ?_
  rintro _ w ⟨rfl, s⟩
  refine ZiG (R := fun w' => w = w') rfl (WP.step (ZfO _) ?_) ?_
  ·rintro _ _ ⟨rfl, rfl⟩
   exact WP.ret ⟨rfl, rfl⟩
  rintro _ rfl
  refine ZiG (R := fun w' => w = w') rfl (WP.step (ZfO _) ?_) ?_
  ·rintro _ _ ⟨rfl, rfl⟩
   exact WP.ret ⟨rfl, rfl⟩
  rintro _ rfl
  refine ZiG (R := fun w' => w = w') rfl (WP.ret ⟨beq_self_eq_true _, rfl⟩) ?_
  rintro _ rfl
  refine ZiG (R := fun w' => Ss W (A' :: B' :: C' :: D' :: A :: B :: C :: D :: Hs) w') rfl (WP.step (ZnJ s rq (r.push (A := D') |>.push (A := C') |>.push (A := B') |>.push (A := A')) (Zos hc)) (fun y w h => WP.ret ⟨h.1.trans (decide_eq_true rfl), h.2⟩)) ?_
  intro w s
  exact WP.ret ⟨rfl, _, s⟩
end
end Go.Proofs.YtpmhinidiplhiaaDoor.Lx
