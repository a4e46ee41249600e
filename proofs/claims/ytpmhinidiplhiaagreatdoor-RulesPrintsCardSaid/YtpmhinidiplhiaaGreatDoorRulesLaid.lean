
import Derived.Test.YtpmhinidiplhiaaGreatDoorRulesStart
set_option linter.unusedVariables false
set_option linter.unusedSimpArgs false
namespace Go.Proofs.YtpmhinidiplhiaaGreatDoor.Lx
open Go Go.Proofs Go.RowKit
def mkN : Zap := ⟨Zbl.IP, -201⟩
def mkP : ZaZ := ⟨-202, -203⟩
def Bnd (m : ZcT) : Prop := m.nets.length * 32 ≤ reachBytes ∧ m.ports.length * 16 ≤ reachBytes
theorem Bnd.len {m : ZcT} (h : Bnd m) : m.nets.length ≤ 4398046511000 ∧ m.ports.length ≤ 8796093022000 := by
 obtain ⟨h1, h2⟩ := h
 have : reachBytes = 140737488351232 := rfl
 omega
structure LdSd (L : List HP) (sd : Zae) (m : ZcT) : Prop where
 no : sd.Not = m.Not
 byts : Byts m.nets
 rn : ∃ i sl sp, nth L i = some (vec cPfx sl (m.nets ++ List.replicate 20 mkN) sp) ∧ sd.Nets = ⟨sl.a, m.nets.length, sl.cap⟩
 rp : ∃ i sl sp, nth L i = some (vec cRg sl (m.ports ++ List.replicate 20 mkP) sp) ∧ sd.Ports = ⟨sl.a, m.ports.length, sl.cap⟩
theorem LdSd.push {L : List HP} {sd : Zae} {m : ZcT} {A : HP} (r : LdSd L sd m) : LdSd (A :: L) sd m := by
 obtain ⟨h1, h2, ⟨i, a, b, e1, r1⟩, ⟨j, c, d, e2, r2⟩⟩ := r
 exact ⟨h1, h2, ⟨i + 1, a, b, e1, r1⟩, ⟨j + 1, c, d, e2, r2⟩⟩
theorem Zmn {α : Type} {c : Cod α} {sl : Sl} {l r sp : List α} {n : Nat} : Rdb (vec c sl (l ++ r) sp) c ⟨sl.a, l.length, n⟩ l := by
 have := (Zc9 (c := c) (s := sl) (xs := l ++ r) (sp := sp)).take (k := l.length) (n := n) (by rw [List.length_append]; omega)
 rwa [List.take_left'] at this
 rfl
theorem LdSd.rd {L : List HP} {sd : Zae} {m : ZcT} (r : LdSd L sd m) : RdSd L sd m := by
 obtain ⟨h1, h2, ⟨i, a, b, e1, r1⟩, ⟨j, c, d, e2, r2⟩⟩ := r
 refine ⟨h1, h2, ⟨i, _, e1, ?_⟩, ⟨j, _, e2, ?_⟩⟩
 ·rw [r1]
  exact Zmn
 ·rw [r2]
  exact Zmn
section
variable {W w : World} {Hs : List HP}
theorem Zm9 {sd : Zae} {m : ZcT} (s : Ss W Hs w) (r : RdSd Hs sd m) (b : Bnd m) : WP (Zci sd) w (fun y w' => ∃ sn sp un up, y = ⟨m.Not, sn, sp⟩ ∧ Ss W (vec cPfx sn m.nets un :: vec cRg sp m.ports up :: Hs) w') := by
 obtain ⟨hno, -, ⟨i, A, e, ra⟩, ⟨j, B, e2, rb⟩⟩ := r
 obtain ⟨b1, b2⟩ := b
 have hr : reachBytes = 140737488351232 := rfl
 unfold Zci
 refine WP.slot' s (fun _ w s => WP.slot' s (fun _ w s => WP.appS s i e ra (by decide) (WP.appl0 s (by omega) (by decide) (fun sn w un s => WP.appS s (j + 1) e2 rb (by decide) (WP.appl0 s (by omega) (by decide) (fun sp w up s => WP.ret ⟨sn, sp, un, up, ?_, ?_⟩))))))
 ·rw [hno]
 ·have s := s.use [1, 0] rfl
  exact s
theorem Zod {α : Type} (x : α) (k : Nat) : List.replicate k x ++ [x] = List.replicate (k + 1) x := by
 rw [List.replicate_succ']
theorem ZjZ {sd : Zae} {m : ZcT} (s : Ss W Hs w) (r : RdSd Hs sd m) (b : Bnd m) : WP (ZaA sd) w (fun y w' => ∃ A B, Ss W (A :: B :: Hs) w' ∧ LdSd (A :: B :: Hs) y m) := by
 have r0 := r
 have bl := b.len
 obtain ⟨b1, b2⟩ := id b
 have hr : reachBytes = 140737488351232 := rfl
 obtain ⟨hno, hby, ⟨i, A, e, ra⟩, ⟨j, B, e2, rb⟩⟩ := r
 have hn := (s.rd_len e ra).1
 have hp := (s.rd_len e2 rb).1
 unfold ZaA
 refine WP.slot' s (fun _ w s => WP.slot' s (fun _ w s => WP.step (Zm9 s r0 b) ?_))
 rintro _ w ⟨sn, sp, un, up, rfl, s⟩
 refine WP.slot' s (fun _ w s => ?_)
 refine WP.loopG (γ := Nat × List Zap × List ZaZ) (fun g (p : Sl × Sl × Int) w => p.2.2 = (g.1 : Int) ∧ g.1 ≤ 20 ∧ Ss W (vec cPfx p.1 (m.nets ++ List.replicate g.1 mkN) g.2.1 :: vec cRg p.2.1 (m.ports ++ List.replicate g.1 mkP) g.2.2 :: Hs) w) (fun g _ => 20 - g.1) (0, un, up) ⟨rfl, by simp, by simpa using s⟩ ?_
 clear s
 rintro ⟨k, un, up⟩ ⟨sn, sp, _⟩ w ⟨rfl, hk, s⟩
 simp only at hk s
 show WP (ZaA.L1 sd sn sp (k : Int)) w _
 unfold ZaA.L1
 refine WP.ite (fun h => WP.slot' s (fun _ w s => ?_)) (fun h => ?_)
 ·refine WP.appl s 0 rfl (by simp only [List.length_append, List.length_replicate, List.length_cons, List.length_nil]; omega) (by decide) (fun sn' w un' s => WP.slot' s (fun _ w s => ?_))
  refine WP.appl s 1 rfl (by simp only [List.length_append, List.length_replicate, List.length_cons, List.length_nil]; omega) (by decide) (fun sp' w up' s => WP.next ⟨(k + 1, un', up'), ⟨?_, by simp only; omega, ?_⟩, by simp only; omega⟩)
  ·rw [Zah (by omega) (by omega)]
   simp
  ·simp only
   rw [← Zod, ← Zod, ← List.append_assoc, ← List.append_assoc]
   exact s
 ·have h20 : k = 20 := by omega
  subst h20
  obtain ⟨-, c1, -⟩ := s.vec_len (i := 0) rfl
  obtain ⟨-, c2, -⟩ := s.vec_len (i := 1) rfl
  rw [List.length_append] at c1 c2
  unfold ZaA.K1
  refine WP.step (R := fun y w' => ∃ A B, Ss W (A :: B :: Hs) w' ∧ LdSd (A :: B :: Hs) y m) (WP.draw' s (fun w s => WP.cutpre (by omega) (by omega) (WP.cutpre (by omega) (by omega) (WP.ret ⟨_, _, s, hno, hby, ⟨0, sn, un, rfl, ?_⟩, ⟨1, sp, up, rfl, ?_⟩⟩)))) (fun y w h => WP.done h)
  ·simp only
   rw [hn, Int.toNat_natCast]
  ·simp only
   rw [hp, Int.toNat_natCast]
theorem ZiQ {sd : Zae} {m : ZcT} (s : Ss W Hs w) (r : LdSd Hs sd m) (b : Bnd m) : WP (ZaR sd) w (fun y w' => y = true ∧ Ss W Hs w') := by
 obtain ⟨-, -, ⟨i, sn, un, e, r1⟩, ⟨j, sp, up, e2, r2⟩⟩ := r
 have bl := b.len
 obtain ⟨-, c1, -⟩ := s.vec_len e
 obtain ⟨-, c2, -⟩ := s.vec_len e2
 rw [List.length_append, List.length_replicate] at c1 c2
 unfold ZaR
 rw [r1, r2]
 simp only
 rw [Zah (by omega) (by omega), Zah (by omega) (by omega)]
 refine WP.slot' s (fun _ w s => WP.cutpre (by omega) (by show _ ≤ (sn.cap : Int); omega) (WP.cutpre (by omega) (by show _ ≤ (sp.cap : Int); omega) ?_))
 simp only
 have ra : Rdb (vec cPfx sn (m.nets ++ List.replicate 20 mkN) un) cPfx ⟨sn.a, ((m.nets.length : Int) + 20).toNat, sn.cap⟩ (m.nets ++ List.replicate 20 mkN) := by
  have := (Zc9 (c := cPfx) (s := sn) (xs := m.nets ++ List.replicate 20 mkN) (sp := un)).take (k := ((m.nets.length : Int) + 20).toNat) (n := sn.cap) (by rw [List.length_append, List.length_replicate]; omega)
  rwa [List.take_of_length_le (by rw [List.length_append, List.length_replicate]; omega)] at this
 have rb : Rdb (vec cRg sp (m.ports ++ List.replicate 20 mkP) up) cRg ⟨sp.a, ((m.ports.length : Int) + 20).toNat, sp.cap⟩ (m.ports ++ List.replicate 20 mkP) := by
  have := (Zc9 (c := cRg) (s := sp) (xs := m.ports ++ List.replicate 20 mkP) (sp := up)).take (k := ((m.ports.length : Int) + 20).toNat) (n := sp.cap) (by rw [List.length_append, List.length_replicate]; omega)
  rwa [List.take_of_length_le (by rw [List.length_append, List.length_replicate]; omega)] at this
 have at_ : ∀ {α : Type} {l : List α} {x : α} {k : Nat}, k < 20 → (l ++ List.replicate 20 x)[l.length + k]? = some x := fun {α l x k} hk => by
  rw [List.getElem?_append_right (by omega), Nat.add_sub_cancel_left, List.getElem?_replicate, if_pos hk]
 refine WP.loopG (γ := Nat) (fun k (x : Int) w => x = (k : Int) ∧ k ≤ 20 ∧ Ss W Hs w) (fun k _ => 20 - k) 0 ⟨rfl, by omega, s⟩ ?_
 clear s
 rintro k _ w ⟨rfl, hk, s⟩
 show WP (ZaR.L1 _ _ _ (k : Int)) w _
 unfold ZaR.L1
 simp only
 refine WP.ite (fun h => ?_) (fun h => WP.done ⟨rfl, s⟩)
 rw [r1, r2]
 simp only
 rw [Zah (by omega) (by omega), Zah (by omega) (by omega)]
 refine WP.rdx s i e ra (by omega) (x := mkN) (by rw [show ((m.nets.length : Int) + (k : Int)).toNat = m.nets.length + k by omega]; exact at_ (by omega)) rfl ?_
 refine WP.step (R := fun y w' => y = false ∧ w = w') (WP.ite (fun h => absurd rfl h) (fun _ => WP.rdx s j e2 rb (by omega) (x := mkP) (by rw [show ((m.ports.length : Int) + (k : Int)).toNat = m.ports.length + k by omega]; exact at_ (by omega)) rfl (WP.ret ⟨?_, rfl⟩))) ?_
 ·have : eqv mkP (⟨-202, -203⟩ : ZaZ) = true := Zfb.2 rfl
  rw [this]
  rfl
 rintro _ _ ⟨rfl, rfl⟩
 refine WP.ite (fun h => by cases h) (fun _ => WP.next ⟨k + 1, ⟨by rw [Zah (by omega) (by omega)]; simp, by omega, s⟩, by omega⟩)
structure LdR (L : List HP) (r : Zag) (m : Za9) : Prop where
 sc : RSc r m
 from_ : LdSd L r.From m.From
 to_ : LdSd L r.To m.To
theorem LdR.rd {L : List HP} {r : Zag} {m : Za9} (h : LdR L r m) : RdR L r m := ⟨h.sc, h.from_.rd, h.to_.rd⟩
def BndR (m : Za9) : Prop := Bnd m.From ∧ Bnd m.To
theorem ZsW {r : Zag} {m : Za9} (s : Ss W Hs w) (rr : RdR Hs r m) (b : BndR m) : WP (Zdn r) w (fun y w' => ∃ A B C D, Ss W (A :: B :: C :: D :: Hs) w' ∧ LdR (A :: B :: C :: D :: Hs) y m) := by
 unfold Zdn
 refine WP.slot' s (fun _ w s => WP.slot' s (fun _ w s => WP.step (ZjZ s rr.from_ b.1) ?_))
 rintro f w ⟨A, B, s, lf⟩
 refine WP.step (ZjZ s (rr.to_.push.push) b.2) ?_
 rintro t w ⟨C, D, s, lt⟩
 exact WP.ret ⟨C, D, A, B, s, rr.sc, lf.push.push, lt⟩
theorem Zq7 {r a : Zag} {m : Za9} (s : Ss W Hs w) (l : LdR Hs r m) (rr : RdR Hs a m) (b : BndR m) : WP (Zc1 r a) w (fun y w' => y = true ∧ Ss W Hs w') := by
 unfold Zc1
 have b1 := b.1.len
 have b2 := b.2.len
 refine WP.slot' s (fun _ w s => WP.slot' s (fun _ w s => WP.step (ZqZ s l.rd rr ⟨⟨by omega, by omega⟩, by omega, by omega⟩) ?_))
 rintro _ w ⟨rfl, s⟩
 refine Znc (R := fun w' => Ss W Hs w') (decide_eq_true rfl) (WP.step (ZiQ s l.from_ b.1) (fun y w h => WP.ret h)) (fun w s => ?_)
 refine Znc (R := fun w' => Ss W Hs w') rfl (WP.step (ZiQ s l.to_ b.2) (fun y w h => WP.ret h)) (fun w s => ?_)
 exact WP.ret ⟨rfl, s⟩
end
end Go.Proofs.YtpmhinidiplhiaaGreatDoor.Lx
