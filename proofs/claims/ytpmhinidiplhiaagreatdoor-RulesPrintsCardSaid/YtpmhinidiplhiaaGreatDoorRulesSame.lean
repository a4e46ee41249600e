
import Derived.Test.YtpmhinidiplhiaaGreatDoorRulesBackC
set_option linter.unusedVariables false
set_option linter.unusedSimpArgs false
namespace Go.Proofs.YtpmhinidiplhiaaGreatDoor.Lx
open Go Go.Proofs Go.RowKit
section
variable {W w : World} {Hs : List HP}
theorem ZhS {α : Type} {l : List α} {k : Nat} {x : α} (hx : l[k]? = some x) : l.take (k + 1) = l.take k ++ [x] := by
 rw [List.take_add_one, hx]
 rfl
theorem ZsG {a b : Zae} {ma mb : ZcT} (s : Ss W Hs w) (i : Nat) {A B : HP} (e : nth Hs i = some A) (ra : Rdb A cRg a.Ports ma.ports) (j : Nat) (e2 : nth Hs j = some B) (rb : Rdb B cRg b.Ports mb.ports) (hl : ma.ports.length = mb.ports.length) (hm : ma.ports.length ≤ 9000000000000) :
  WP (Zam.K1 a b) w (fun y w' => y = decide (ma.ports = mb.ports) ∧ Ss W Hs w') := by
 unfold Zam.K1
 have h1 := (s.rd_len e ra).1
 refine WP.loopG (γ := Nat) (fun k (x : Int) w => x = (k : Int) ∧ k ≤ ma.ports.length ∧ ma.ports.take k = mb.ports.take k ∧ Ss W Hs w) (fun k _ => ma.ports.length - k) 0 ⟨rfl, Nat.zero_le _, rfl, s⟩ ?_
 clear s
 rintro k _ w ⟨rfl, hk, ha, s⟩
 show WP (Zam.L1 a b (k : Int)) w _
 unfold Zam.L1
 refine WP.ite (fun h => WP.draw' s (fun w s => ?_)) (fun h => ?_)
 ·have hk2 : k < ma.ports.length := by omega
  have hx := List.getElem?_eq_getElem hk2
  have hy := List.getElem?_eq_getElem (show k < mb.ports.length by omega)
  generalize ma.ports[k] = x at hx
  generalize mb.ports[k]'(show k < mb.ports.length by omega) = y at hy
  refine WP.rdx s i e ra (by omega) (x := x) (by rw [Int.toNat_natCast]; exact hx) rfl (WP.rdx s j e2 rb (by omega) (x := y) (by rw [Int.toNat_natCast]; exact hy) rfl (WP.ite (fun hn => WP.done ⟨?_, s⟩) (fun hn => ?_)))
  ·refine (decide_eq_false (fun h' => hn ?_)).symm
   rw [h', hy] at hx
   exact (Option.some.inj hx).symm
  ·refine WP.next ⟨k + 1, ⟨?_, hk2, ?_, s⟩, by omega⟩
   ·rw [Zah (by omega) (by omega)]
    simp
   ·rw [ZhS hx, ZhS hy, ha, Decidable.not_not.1 hn]
 ·have hk2 : k = ma.ports.length := by omega
  refine WP.done ⟨(decide_eq_true ?_).symm, s⟩
  rw [hk2, List.take_length, hl, List.take_length] at ha
  exact ha
theorem Zkp {a b : Zae} {ma mb : ZcT} (s : Ss W Hs w) (r1 : RdSd Hs a ma) (r2 : RdSd Hs b mb) (hn6 : ma.nets.length ≤ 9000000000000) (hp6 : ma.ports.length ≤ 9000000000000) : WP (Zam a b) w (fun y w' => y = decide (ma = mb) ∧ Ss W Hs w') := by
 obtain ⟨no1, -, ⟨i1, A1, e1, n1⟩, ⟨j1, B1, f1, p1⟩⟩ := r1
 obtain ⟨no2, -, ⟨i2, A2, e2, n2⟩, ⟨j2, B2, f2, p2⟩⟩ := r2
 unfold Zam
 have l1 := (s.rd_len e1 n1).1
 have l2 := (s.rd_len e2 n2).1
 have l3 := (s.rd_len f1 p1).1
 have l4 := (s.rd_len f2 p2).1
 have hm : ma = mb ↔ ma.Not = mb.Not ∧ ma.nets = mb.nets ∧ ma.ports = mb.ports := by
  cases ma
  cases mb
  simp
 rw [no1, no2]
 refine WP.slot' s (fun _ w s => WP.slot' s (fun _ w s => ?_))
 refine WP.step (R := fun y w' => y = !decide (ma.Not = mb.Not ∧ ma.nets.length = mb.nets.length) ∧ w = w') (WP.ite (fun h => WP.ret ⟨?_, rfl⟩) (fun h => WP.ret ⟨?_, rfl⟩)) ?_
 ·rw [decide_eq_false (fun h' => h h'.1)]
  rfl
 ·have h := Decidable.not_not.1 h
  by_cases h2 : ma.nets.length = mb.nets.length
  ·rw [decide_eq_true ⟨h, h2⟩, l1, l2, h2]
   simp
  ·rw [decide_eq_false (fun h' => h2 h'.2), Bool.not_false, bne_iff_ne]
   omega
 rintro _ _ ⟨rfl, rfl⟩
 refine WP.step (R := fun y w' => y = !decide (ma.Not = mb.Not ∧ ma.nets.length = mb.nets.length ∧ ma.ports.length = mb.ports.length) ∧ w = w') (WP.ite (fun h => WP.ret ⟨?_, rfl⟩) (fun h => WP.ret ⟨?_, rfl⟩)) ?_
 ·have h : ¬ (ma.Not = mb.Not ∧ ma.nets.length = mb.nets.length) := fun h' => by
   rw [decide_eq_true h'] at h
   cases h
  rw [decide_eq_false (fun h' => h ⟨h'.1, h'.2.1⟩)]
  rfl
 ·have h : ma.Not = mb.Not ∧ ma.nets.length = mb.nets.length := Decidable.byContradiction fun h' => h (by rw [decide_eq_false h']; rfl)
  by_cases h2 : ma.ports.length = mb.ports.length
  ·rw [decide_eq_true ⟨h.1, h.2, h2⟩, l3, l4, h2]
   simp
  ·rw [decide_eq_false (fun h' => h2 h'.2.2), Bool.not_false, bne_iff_ne]
   omega
 rintro _ _ ⟨rfl, rfl⟩
 refine WP.ite (fun h => WP.ret ⟨?_, s⟩) (fun h => ?_)
 ·refine (decide_eq_false (fun h' => ?_)).symm
  rw [h', decide_eq_true ⟨rfl, rfl, rfl⟩] at h
  cases h
 have h : ma.Not = mb.Not ∧ ma.nets.length = mb.nets.length ∧ ma.ports.length = mb.ports.length := Decidable.byContradiction fun h' => h (by rw [decide_eq_false h']; rfl)
 obtain ⟨hn, hl, hp⟩ := h
 refine WP.loopG (γ := Nat) (fun k (x : Int) w => x = (k : Int) ∧ k ≤ ma.nets.length ∧ ma.nets.take k = mb.nets.take k ∧ Ss W Hs w) (fun k _ => ma.nets.length - k) 0 ⟨rfl, Nat.zero_le _, rfl, s⟩ ?_
 clear s
 rintro k _ w ⟨rfl, hk, ha, s⟩
 show WP (Zam.L2 a b (k : Int)) w _
 unfold Zam.L2
 refine WP.ite (fun h => WP.draw' s (fun w s => ?_)) (fun h => ?_)
 ·have hk2 : k < ma.nets.length := by omega
  have hx := List.getElem?_eq_getElem hk2
  have hy := List.getElem?_eq_getElem (show k < mb.nets.length by omega)
  generalize ma.nets[k] = x at hx
  generalize mb.nets[k]'(show k < mb.nets.length by omega) = y at hy
  refine WP.rdx s i1 e1 n1 (by omega) (x := x) (by rw [Int.toNat_natCast]; exact hx) rfl (WP.rdx s i2 e2 n2 (by omega) (x := y) (by rw [Int.toNat_natCast]; exact hy) rfl (WP.ite (fun hn => WP.done ⟨?_, s⟩) (fun hn => ?_)))
  ·refine (decide_eq_false (fun h' => hn ?_)).symm
   rw [h', hy] at hx
   exact (Option.some.inj hx).symm
  ·refine WP.next ⟨k + 1, ⟨?_, hk2, ?_, s⟩, by omega⟩
   ·rw [Zah (by omega) (by omega)]
    simp
   ·rw [ZhS hx, ZhS hy, ha, Decidable.not_not.1 hn]
 ·have hk2 : k = ma.nets.length := by omega
  rw [hk2, List.take_length, hl, List.take_length] at ha
  refine WP.step (ZsG s j1 f1 p1 j2 f2 p2 hp hp6) ?_
  rintro _ w ⟨rfl, s⟩
  refine WP.done ⟨decide_eq_decide.2 ?_, s⟩
  rw [hm]
  exact ⟨fun h => ⟨hn, ha, h⟩, fun h => h.2.2⟩
theorem ror {β : Type} {p : Prop} [Decidable p] {x y : Int} {f : Bool → M β} {Q : β → World → Prop} {a : Bool} (ha : (a = true) ↔ p) (k : WP (f (decide (p ∨ x ≠ y))) w Q) : WP ((if a = true then pure true else pure (x != y)) >>= f) w Q := by
 have : ((if a = true then pure true else pure (x != y)) : M Bool) = pure (decide (p ∨ x ≠ y)) := by
  by_cases h : a = true
  ·rw [if_pos h, decide_eq_true (.inl (ha.1 h))]
  ·rw [if_neg h]
   congr 1
   rw [Bool.eq_iff_iff, bne_iff_ne, decide_eq_true_iff]
   exact ⟨.inr, fun h' => h'.elim (fun h' => absurd (ha.2 h') h) id⟩
 rw [this]
 refine WP.step (R := fun y' w' => y' = decide (p ∨ x ≠ y) ∧ w = w') (WP.ret ⟨rfl, rfl⟩) ?_
 rintro _ _ ⟨rfl, rfl⟩
 exact k
theorem ror0 {β : Type} {x y u v : Int} {f : Bool → M β} {Q : β → World → Prop} (k : WP (f (decide (u ≠ v ∨ x ≠ y))) w Q) : WP ((if u ≠ v then pure true else pure (x != y)) >>= f) w Q := by
 have : ((if u ≠ v then pure true else pure (x != y)) : M Bool) = pure (decide (u ≠ v ∨ x ≠ y)) := by
  by_cases h : u ≠ v
  ·rw [if_pos h, decide_eq_true (.inl h)]
  ·rw [if_neg h]
   congr 1
   rw [Bool.eq_iff_iff, bne_iff_ne, decide_eq_true_iff]
   exact ⟨.inr, fun h' => h'.elim (fun h' => absurd h' h) id⟩
 rw [this]
 refine WP.step (R := fun y' w' => y' = decide (u ≠ v ∨ x ≠ y) ∧ w = w') (WP.ret ⟨rfl, rfl⟩) ?_
 rintro _ _ ⟨rfl, rfl⟩
 exact k
theorem ZqZ {a b : Zag} {ma mb : Za9} (s : Ss W Hs w) (r1 : RdR Hs a ma) (r2 : RdR Hs b mb) (hl : (ma.From.nets.length ≤ 9000000000000 ∧ ma.From.ports.length ≤ 9000000000000) ∧ ma.To.nets.length ≤ 9000000000000 ∧ ma.To.ports.length ≤ 9000000000000) : WP (ZcU a b) w (fun y w' => y = decide (ma = mb) ∧ Ss W Hs w') := by
 obtain ⟨⟨c1, c2, c3, c4, c5, c6, c7, c8, c9, c10⟩, f1, t1⟩ := r1
 obtain ⟨⟨d1, d2, d3, d4, d5, d6, d7, d8, d9, d10⟩, f2, t2⟩ := r2
 have hm : ma = mb ↔ (ma.Act = mb.Act ∧ ma.Class = mb.Class ∧ ma.Kind = mb.Kind ∧ ma.Proto = mb.Proto ∧ ma.In = mb.In ∧ ma.Vid = mb.Vid) ∧ (ma.Set = mb.Set ∧ ma.Clear = mb.Clear ∧ ma.Type_ = mb.Type_ ∧ ma.Pieces = mb.Pieces) ∧ ma.From = mb.From ∧ ma.To = mb.To := by
  cases ma
  cases mb
  simp only [Za9.mk.injEq]
  exact ⟨fun ⟨h1, h2, h3, h4, h5, h6, h7, h8, h9, h10, h11, h12⟩ => ⟨⟨h1, h2, h3, h4, h5, h6⟩, ⟨h9, h10, h11, h12⟩, h7, h8⟩, fun ⟨⟨h1, h2, h3, h4, h5, h6⟩, ⟨h9, h10, h11, h12⟩, h7, h8⟩ => ⟨h1, h2, h3, h4, h5, h6, h7, h8, h9, h10, h11, h12⟩⟩
 unfold ZcU
 rw [c1, c2, c3, c4, c5, c6, c7, c8, c9, c10, d1, d2, d3, d4, d5, d6, d7, d8, d9, d10]
 refine WP.slot' s (fun _ w s => WP.slot' s (fun _ w s => ror0 (ror decide_eq_true_iff (ror decide_eq_true_iff (ror decide_eq_true_iff (ror decide_eq_true_iff ?_))))))
 refine WP.ite (fun h => WP.ret ⟨?_, s⟩) (fun h => ror0 (ror decide_eq_true_iff ?_))
 ·have h := of_decide_eq_true h
  refine (decide_eq_false (fun h' => ?_)).symm
  obtain ⟨⟨a1, a2, a3, a4, a5, a6⟩, -, -⟩ := hm.1 h'
  rcases h with ((((h | h) | h) | h) | h) | h
  ·exact h a1
  ·exact h a2
  ·exact h a3
  ·exact h a4
  ·exact h a5
  ·exact h a6
 have h1 : ma.Act = mb.Act ∧ ma.Class = mb.Class ∧ ma.Kind = mb.Kind ∧ ma.Proto = mb.Proto ∧ ma.In = mb.In ∧ ma.Vid = mb.Vid := by
  have h : ¬ (((((ma.Act ≠ mb.Act ∨ ma.Class ≠ mb.Class) ∨ ma.Kind ≠ mb.Kind) ∨ ma.Proto ≠ mb.Proto) ∨ ma.In ≠ mb.In) ∨ ma.Vid ≠ mb.Vid) := fun h' => h (decide_eq_true h')
  omega
 refine WP.step (R := fun y w' => y = decide (((ma.Set ≠ mb.Set ∨ ma.Clear ≠ mb.Clear) ∨ ma.Type_ ≠ mb.Type_) ∨ ma.Pieces ≠ mb.Pieces) ∧ w = w') (WP.ite (fun h => WP.ret ⟨(decide_eq_true (.inl (of_decide_eq_true h))).symm, rfl⟩) (fun h => WP.ret ⟨?_, rfl⟩)) ?_
 ·have h : ¬ ((ma.Set ≠ mb.Set ∨ ma.Clear ≠ mb.Clear) ∨ ma.Type_ ≠ mb.Type_) := fun h' => h (decide_eq_true h')
  by_cases hp : ma.Pieces = mb.Pieces
  ·rw [decide_eq_false (fun h' => h'.elim h (fun h' => h' hp)), hp]
   simp
  ·rw [decide_eq_true (.inr hp)]
   simp [hp]
 rintro _ _ ⟨rfl, rfl⟩
 refine WP.ite (fun h => WP.ret ⟨?_, s⟩) (fun h => WP.step (Zkp s f1 f2 hl.1.1 hl.1.2) ?_)
 ·have h := of_decide_eq_true h
  refine (decide_eq_false (fun h' => ?_)).symm
  obtain ⟨-, ⟨a1, a2, a3, a4⟩, -⟩ := hm.1 h'
  rcases h with ((h | h) | h) | h
  ·exact h a1
  ·exact h a2
  ·exact h a3
  ·exact h a4
 have h2 : ma.Set = mb.Set ∧ ma.Clear = mb.Clear ∧ ma.Type_ = mb.Type_ ∧ ma.Pieces = mb.Pieces := by
  have h : ¬ (((ma.Set ≠ mb.Set ∨ ma.Clear ≠ mb.Clear) ∨ ma.Type_ ≠ mb.Type_) ∨ ma.Pieces ≠ mb.Pieces) := fun h' => h (decide_eq_true h')
  refine ⟨by omega, by omega, by omega, ?_⟩
  exact Decidable.byContradiction fun h' => h (.inr h')
 rintro _ w ⟨rfl, s⟩
 refine WP.step (R := fun y w' => y = decide (ma = mb) ∧ Ss W Hs w') (WP.ite (fun h => WP.step (Zkp s t1 t2 hl.2.1 hl.2.2) ?_) (fun h => WP.ret ⟨?_, s⟩)) (fun y w h => WP.ret h)
 ·rintro _ w ⟨rfl, s⟩
  refine WP.ret ⟨decide_eq_decide.2 ?_, s⟩
  rw [hm]
  exact ⟨fun h' => ⟨h1, h2, of_decide_eq_true h, h'⟩, fun h' => h'.2.2.2⟩
 ·exact (decide_eq_false (fun h' => h (decide_eq_true (hm.1 h').2.2.1))).symm
end
end Go.Proofs.YtpmhinidiplhiaaGreatDoor.Lx
