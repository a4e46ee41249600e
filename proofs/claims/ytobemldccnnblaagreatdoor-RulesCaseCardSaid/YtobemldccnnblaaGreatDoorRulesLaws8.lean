/- Plain words, put together. -/
import Derived.Test.YtobemldccnnblaaGreatDoorRulesPkSame
import Derived.Test.YtobemldccnnblaaGreatDoorRulesSide3
set_option linter.unusedVariables false
set_option linter.unusedSimpArgs false
namespace Go.Proofs.YtobemldccnnblaaGreatDoor.Lx
open Go Go.Proofs Go.RowKit
section
variable {W w : World} {Hs : List HP}
theorem ZpT {sl sl' : Sl} {es : List ExtC} (s : Ss W Hs w) (r1 : RdE Hs sl es) (r2 : RdE Hs sl' es) (hb : es.length * 56 ≤ reachBytes) (hd : ∀ e ∈ es, e.opts.length * 32 ≤ reachBytes) : WP (ZaX sl sl') w (fun y w' => y = true ∧ Ss W Hs w') := by
 obtain ⟨i, A, j, xs, e1, R, e2, hkd⟩ := r1
 obtain ⟨i', A', j', xs', e1', R', e2', hkd'⟩ := r2
 have hr : reachBytes = 140737488351232 := rfl
 obtain ⟨h0, hh⟩ := s.has e2
 obtain ⟨h0', hh'⟩ := s.has e2'
 have m1 := hh.1
 have m2 := hh'.1
 have l1 := (s.rd_len e1 R).1
 have l2 := (s.rd_len e1' R').1
 unfold ZaX
 refine WP.ite (fun h => absurd (by rw [l1, l2, m1, m2]) h) (fun _ => ?_)
 refine WP.loopG (γ := Nat) (fun k (x : Int) w => x = (k : Int) ∧ k ≤ es.length ∧ Ss W Hs w) (fun k _ => es.length - k) 0 ⟨rfl, Nat.zero_le _, s⟩ ?_
 clear s
 rintro k _ w ⟨rfl, hk, s⟩
 show WP (ZaX.L1 sl sl' (k : Int)) w _
 unfold ZaX.L1
 refine WP.ite (fun hc => WP.draw' s (fun w s => ?_)) (fun hc => WP.done ⟨rfl, s⟩)
 have ho := List.getElem?_eq_getElem (show k < es.length by omega)
 have hx := List.getElem?_eq_getElem (show k < xs.length by omega)
 have hx' := List.getElem?_eq_getElem (show k < xs'.length by omega)
 generalize es[k]'(show k < es.length by omega) = o at ho
 generalize xs[k]'(show k < xs.length by omega) = x at hx
 generalize xs'[k]'(show k < xs'.length by omega) = x' at hx'
 have hxi : xs[Int.toNat (k : Int)]? = some x := by rw [Int.toNat_natCast]; exact hx
 have hxi' : xs'[Int.toNat (k : Int)]? = some x' := by rw [Int.toNat_natCast]; exact hx'
 have ek : x.Kind = x'.Kind := by
  have := congrArg (fun l => l[k]?) (hkd.trans hkd'.symm)
  simp only [List.getElem?_map, hx, hx', Option.map_some, Option.some.injEq] at this
  exact this
 refine WP.rdxp0 s i e1 R (by omega) hxi rfl (Zfk _) (WP.rdxp0 s i' e1' R' (by omega) hxi' rfl (Zfk _) ?_)
 refine WP.step (R := fun y w' => y = false ∧ Ss W Hs w') (WP.ite (fun h => absurd ek h) (fun _ => ?_)) ?_
 ·refine WP.rdxp s i e1 R (by omega) hxi rfl (Zf9 _) (WP.rdxp s i' e1' R' (by omega) hxi' rfl (Zf9 _) ?_)
  have s2 := s.copy j e2 Zez.ro (B := rdS cU false x.Data o.data) (fun h hh => (hh.2 k x o hx ho).1)
  have s2 := s2.copy (j' + 1) e2' Zez.ro (B := rdS cU false x'.Data o.data) (fun h hh => (hh.2 k x' o hx' ho).1)
  refine WP.step (Zm3 s2 ⟨1, _, rfl, ZbD⟩ ⟨0, _, rfl, ZbD⟩) ?_
  rintro _ w ⟨rfl, s3⟩
  exact WP.ret ⟨rfl, s3.drop.drop⟩
 rintro _ w ⟨rfl, s⟩
 refine WP.step (R := fun y w' => y = false ∧ Ss W Hs w') (WP.ite (fun h => by cases h) (fun _ => ?_)) ?_
 ·refine WP.rdxp s i e1 R (by omega) hxi rfl (Zg9 _) (WP.rdxp s i' e1' R' (by omega) hxi' rfl (Zg9 _) ?_)
  have s2 := s.copy j e2 Zez.ro (B := Zfr x.Opts o.opts) (fun h hh => (hh.2 k x o hx ho).2)
  have s2 := s2.copy (j' + 1) e2' Zez.ro (B := Zfr x'.Opts o.opts) (fun h hh => (hh.2 k x' o hx' ho).2)
  refine WP.step (ZoN s2 ⟨1, rfl⟩ ⟨0, rfl⟩ (hd o (List.mem_of_getElem? ho))) ?_
  rintro _ w ⟨rfl, s3⟩
  exact WP.ret ⟨rfl, s3.drop.drop⟩
 rintro _ w ⟨rfl, s⟩
 refine WP.ite (fun h => by cases h) (fun _ => WP.next ⟨k + 1, ⟨?_, by omega, s⟩, by omega⟩)
 rw [Zau (by omega) (by omega)]
 simp
theorem Zt3 {d e : Vec Int 6} {a b : Sl} {l : List Zfv} (s : Ss W Hs w) (r1 : RdT Hs a l) (r2 : RdT Hs b l) (hb : l.length * 32 ≤ reachBytes) :
  WP (ZaC (⟨d, e, a, Zc0.Type_, Zc0.Data⟩ : Zbu) (⟨d, e, b, Zc0.Type_, Zc0.Data⟩ : Zbu)) w (fun y w' => y = true ∧ Ss W Hs w') := by
 obtain ⟨i, A, e1, R⟩ := r1
 obtain ⟨j, B, e2, R'⟩ := r2
 have hr : reachBytes = 140737488351232 := rfl
 have l1 := (s.rd_len e1 R).1
 have l2 := (s.rd_len e2 R').1
 unfold ZaC
 refine WP.slot' s (fun _ w s => WP.slot' s (fun _ w s => orF (fun h => h rfl) eqvS (orF (by decide) bneS (orF (by decide) ?_ (orF (by decide) bneS (WP.ite (fun h => by cases h) (fun _ => ?_)))))))
 ·show ((a.len : Int) != (b.len : Int)) = false
  rw [l1, l2]
  exact bneS
 refine WP.loopG (γ := Nat) (fun k (x : Int) w => x = (k : Int) ∧ k ≤ l.length ∧ Ss W Hs w) (fun k _ => l.length - k) 0 ⟨rfl, Nat.zero_le _, s⟩ ?_
 clear s
 rintro k _ w ⟨rfl, hk, s⟩
 show WP (ZaC.L2 _ _ (k : Int)) w _
 unfold ZaC.L2
 refine WP.ite (fun hc => WP.draw' s (fun w s => ?_)) (fun hc => ?_)
 ·have hc : (k : Int) < (a.len : Int) := hc
  have ho := List.getElem?_eq_getElem (show k < l.length by omega)
  generalize l[k]'(show k < l.length by omega) = x at ho
  have hxi : l[Int.toNat (k : Int)]? = some x := by rw [Int.toNat_natCast]; exact ho
  refine WP.rdx s i e1 R (by omega) hxi rfl (WP.rdx s j e2 R' (by omega) hxi rfl (WP.ite (fun h => absurd rfl h) (fun _ => WP.next ⟨k + 1, ⟨?_, by omega, s⟩, by omega⟩)))
  rw [Zau (by omega) (by omega)]
  simp
 ·have s0 := s.mk0 (A := vec cU Sl.nil [] []) Zdc
  unfold ZaC.K1
  refine WP.step (Zlp (a := Sl.nil) (b := Sl.nil) s0 ⟨0, _, rfl, Zc3⟩ ⟨0, _, rfl, Zc3⟩ (by decide)) ?_
  rintro _ w ⟨rfl, s⟩
  exact WP.done ⟨rfl, s.drop⟩
theorem Zt2 {a b : ZcX} {os : List OptC} {l : List Int} (s : Ss W Hs w) (eq : b = { a with Opts := b.Opts, Data := b.Data }) (r1 : RdO Hs a.Opts os) (r2 : RdO Hs b.Opts os) (q1 : RdU Hs a.Data l) (q2 : RdU Hs b.Data l) (hb : os.length * 32 ≤ reachBytes) : WP (ZeD a b) w (fun y w' => y = true ∧ Ss W Hs w') := by
 obtain ⟨c1, c2, c3, c4, c5, c6, c7, c8, c9, o1, o2⟩ := b
 injection eq with f1 f2 f3 f4 f5 f6 f7 f8 f9 f10 f11
 subst f1 f2 f3 f4 f5 f6 f7 f8 f9
 unfold ZeD
 refine WP.slot' s (fun _ w s => WP.slot' s (fun _ w s => orF (fun h => h rfl) bneS (orF (by decide) beqS (orF (by decide) beqS (orF (by decide) bneS (orF (by decide) bneS (orF (by decide) bneS (orF (by decide) eqvS (orF (by decide) eqvS (WP.ite (fun h => by cases h) (fun _ => ?_)))))))))))
 refine WP.step (Zlo s r1 r2 hb) ?_
 rintro _ w ⟨rfl, s⟩
 exact andX rfl (ZkD s q1 q2) (fun w s => WP.ret ⟨rfl, s⟩)
theorem Zt1 {a b : ZcW} {es : List ExtC} {l : List Int} (s : Ss W Hs w) (eq : b = { a with Exts := b.Exts, Data := b.Data }) (r1 : RdE Hs a.Exts es) (r2 : RdE Hs b.Exts es) (q1 : RdU Hs a.Data l) (q2 : RdU Hs b.Data l) (hb : es.length * 56 ≤ reachBytes) (hd : ∀ e ∈ es, e.opts.length * 32 ≤ reachBytes) : WP (ZeC a b) w (fun y w' => y = true ∧ Ss W Hs w') := by
 obtain ⟨c1, c2, c3, c4, c5, o1, c7, c8, o2⟩ := b
 injection eq with f1 f2 f3 f4 f5 f6 f7 f8 f9
 subst f1 f2 f3 f4 f5 f7 f8
 unfold ZeC
 refine WP.slot' s (fun _ w s => WP.slot' s (fun _ w s => orF (fun h => h rfl) bneS (orF (by decide) bneS (orF (by decide) eqvS (orF (by decide) eqvS (orF (by decide) eqvS (orF (by decide) bneS (WP.ite (fun h => by cases h) (fun _ => ?_)))))))))
 refine WP.step (ZpT s r1 r2 hb hd) ?_
 rintro _ w ⟨rfl, s⟩
 exact andX rfl (Zm3 s q1 q2) (fun w s => WP.ret ⟨rfl, s⟩)
theorem Zt0 {a b : Zcy} {l : List Int} (s : Ss W Hs w) (eq : b = { a with Data := b.Data }) (q1 : RdU Hs a.Data l) (q2 : RdU Hs b.Data l) (hl : l.length ≤ reachBytes) : WP (ZbA a b) w (fun y w' => y = true ∧ Ss W Hs w') := by
 obtain ⟨c1, c2, c3, c4, o2⟩ := b
 injection eq with f1 f2 f3 f4 f5
 subst f1 f2 f3 f4
 have l1 : a.Data.len = l.length := by
  obtain ⟨i, A, e, r⟩ := q1
  exact (s.rd_len e r).1
 have l2 : o2.len = l.length := by
  obtain ⟨i, A, e, r⟩ := q2
  exact (s.rd_len e r).1
 unfold ZbA
 refine WP.slot' s (fun _ w s => WP.slot' s (fun _ w s => orF (fun h => h rfl) bneS (orF (by decide) bneS (orF (by decide) bneS (orF (by decide) ?_ (WP.ite (fun h => by cases h) (fun _ => Zlp s q1 q2 hl)))))))
 show ((a.Data.len : Int) != (o2.len : Int)) = false
 rw [l1, l2]
 exact bneS
theorem Zrm {a b : Zer} {l : List Int} (s : Ss W Hs w) (eq : b = { a with Data := b.Data }) (q1 : RdU Hs a.Data l) (q2 : RdU Hs b.Data l) : WP (Zdw a b) w (fun y w' => y = true ∧ Ss W Hs w') := by
 obtain ⟨c1, c2, c3, o2⟩ := b
 injection eq with f1 f2 f3 f4
 subst f1 f2 f3
 unfold Zdw
 refine WP.slot' s (fun _ w s => WP.slot' s (fun _ w s => ?_))
 refine WP.step (R := fun y w' => y = true ∧ w = w') (WP.ite (fun _ => WP.ret ⟨beq_self_eq_true _, rfl⟩) (fun h => absurd rfl h)) ?_
 rintro _ _ ⟨rfl, rfl⟩
 refine WP.step (R := fun y w' => y = true ∧ w = w') (WP.ite (fun _ => WP.ret ⟨beq_self_eq_true _, rfl⟩) (fun h => absurd rfl h)) ?_
 rintro _ _ ⟨rfl, rfl⟩
 exact andX rfl (ZkD s q1 q2) (fun w s => WP.ret ⟨rfl, s⟩)
theorem Zrn {a b : Zdd} {os : List OptC} {l : List Int} (s : Ss W Hs w) (eq : b = { a with Opts := b.Opts, Data := b.Data }) (r1 : RdO Hs a.Opts os) (r2 : RdO Hs b.Opts os) (q1 : RdU Hs a.Data l) (q2 : RdU Hs b.Data l) (hb : os.length * 32 ≤ reachBytes) : WP (Zdx a b) w (fun y w' => y = true ∧ Ss W Hs w') := by
 obtain ⟨c1, c2, c3, c4, c5, c6, c7, o1, o2⟩ := b
 injection eq with f1 f2 f3 f4 f5 f6 f7 f8 f9
 subst f1 f2 f3 f4 f5 f6 f7
 unfold Zdx
 refine WP.slot' s (fun _ w s => WP.slot' s (fun _ w s => orF (fun h => h rfl) bneS (orF (by decide) bneS (orF (by decide) bneS (orF (by decide) bneS (orF (by decide) bneS (orF (by decide) bneS (WP.ite (fun h => by cases h) (fun _ => ?_)))))))))
 refine WP.step (Zlo s r1 r2 hb) ?_
 rintro _ w ⟨rfl, s⟩
 exact andX rfl (ZkD s q1 q2) (fun w s => WP.ret ⟨rfl, s⟩)
theorem ZtA {a b : Zac} {k : PkC} (s : Ss W Hs w) (eq : PkS a b) (r1 : PkR Hs a k) (r2 : PkR Hs b k) (bd : PkL k) : WP (Zeh a b) w (fun y w' => y = true ∧ Ss W Hs w') := by
 obtain ⟨c1, c2, t, c4, c5, i4, i6, c8, ic, ud, tc⟩ := b
 injection eq with f1 f2 f3 f4 f5 f6 f7 f8 f9 f10 f11
 subst f1 f2 f4 f5 f8
 unfold Zeh
 refine WP.slot' s (fun _ w s => WP.slot' s (fun _ w s => WP.slot' s (fun _ w s => WP.slot' s (fun _ w s => orF (fun h => h rfl) bneS (orF (by decide) eqvS (orX (by decide) (Zt3 s r1.tags r2.tags bd.tags) (fun w s => WP.ite (fun h => by cases h) (fun _ => ?_))))))))
 refine WP.step (Zt2 s f6 r1.o4 r2.o4 r1.d4 r2.d4 bd.o4.1) ?_
 rintro _ w ⟨rfl, s⟩
 refine orX (fun h => h rfl) (Zt1 s f7 r1.ex r2.ex r1.d6 r2.d6 bd.ex.1 (fun e he => (bd.ex.2 e he).2.1)) (fun w s => ?_)
 refine orX (by decide) (Zt0 s f9 r1.di r2.di bd.di) (fun w s => WP.ite (fun h => by cases h) (fun _ => ?_))
 refine WP.step (Zrm s f10 r1.du r2.du) ?_
 rintro _ w ⟨rfl, s⟩
 exact andX rfl (Zrn s f11 r1.oT r2.oT r1.dT r2.dT bd.oT.1) (fun w s => WP.ret ⟨rfl, s⟩)
end
def Zjv (x : Int) : Nat := (BitVec.ofInt 64 x).toNat
theorem Zm1 {s : Nat} (h : s < 256) : Zjv (s : Int) = s := by
 unfold Zjv
 have e : BitVec.ofInt 64 (s : Int) = BitVec.ofNat 64 s := by simp
 rw [e, BitVec.toNat_ofNat]
 exact Nat.mod_eq_of_lt (by omega)
theorem ZnB {n : Nat} (h : n < 256) : IntKind.wrap .i64 (n : Int) = n := Zau (by omega) (by omega)
theorem Ztv (x : Nat) {s : Nat} (h : s < 256) : x &&& s < 256 := Nat.lt_of_le_of_lt Nat.and_le_right h
theorem ZvO (F : Int) {s : Nat} (h : s < 256) : band .i64 F (s : Int) = ((Zjv F &&& s : Nat) : Int) := by
 have e : (BitVec.ofInt 64 F &&& BitVec.ofInt 64 (s : Int)).toNat = Zjv F &&& s := by
  rw [BitVec.toNat_and]
  show Zjv F &&& Zjv (s : Int) = _
  rw [Zm1 h]
 show IntKind.wrap .i64 ((BitVec.ofInt 64 F &&& BitVec.ofInt 64 (s : Int)).toNat : Int) = _
 rw [e]
 exact ZnB (Ztv _ h)
theorem Zub {a b : Nat} (ha : a < 256) (hb : b < 256) : a ||| b < 256 := Nat.or_lt_two_pow (n := 8) ha hb
theorem borJ {a b : Nat} (ha : a < 256) (hb : b < 256) : bor .i64 (a : Int) (b : Int) = ((a ||| b : Nat) : Int) := by
 have e : (BitVec.ofInt 64 (a : Int) ||| BitVec.ofInt 64 (b : Int)).toNat = a ||| b := by
  rw [BitVec.toNat_or]
  show Zjv (a : Int) ||| Zjv (b : Int) = _
  rw [Zm1 ha, Zm1 hb]
 show IntKind.wrap .i64 ((BitVec.ofInt 64 (a : Int) ||| BitVec.ofInt 64 (b : Int)).toNat : Int) = _
 rw [e]
 exact ZnB (Zub ha hb)
theorem Zwz {a b : Nat} (ha : a < 256) (hb : b < 256) : bor .i64 (a : Int) (b : Int) = 0 ↔ a = 0 ∧ b = 0 := by
 rw [borJ ha hb]
 constructor
 ·intro h
  have h : a ||| b = 0 := by omega
  constructor
  ·apply Nat.eq_of_testBit_eq
   intro i
   have := congrArg (fun n => n.testBit i) h
   simp only [Nat.testBit_or, Nat.zero_testBit, Bool.or_eq_false_iff] at this
   rw [this.1, Nat.zero_testBit]
  ·apply Nat.eq_of_testBit_eq
   intro i
   have := congrArg (fun n => n.testBit i) h
   simp only [Nat.testBit_or, Nat.zero_testBit, Bool.or_eq_false_iff] at this
   rw [this.2, Nat.zero_testBit]
 ·rintro ⟨rfl, rfl⟩
  rfl
theorem Zjf (s k : Nat) : hasB (s : Int) k = s.testBit k := by
 unfold hasB
 rw [Nat.testBit_eq_decide_div_mod_eq]
 refine decide_eq_decide.2 ?_
 have : (s : Int) / 2 ^ k % 2 = ((s / 2 ^ k % 2 : Nat) : Int) := by
  push_cast
  rfl
 rw [this]
 omega
theorem ZvQ (x k : Nat) : x &&& 2 ^ k ≠ 0 ↔ x.testBit k = true := by
 constructor
 ·intro h
  cases ht : x.testBit k with
  | true => rfl
  | false =>
   refine absurd ?_ h
   apply Nat.eq_of_testBit_eq
   intro i
   rw [Nat.testBit_and, Nat.testBit_two_pow, Nat.zero_testBit]
   by_cases hi : k = i
   ·subst hi
    simp [ht]
   ·simp [hi]
 ·intro h h0
  have := congrArg (fun n => n.testBit k) h0
  simp [Nat.testBit_and, Nat.testBit_two_pow, h] at this
def Zuu (F : Int) (s c : Nat) : Bool := (List.range 8).all fun k => !((hasB (s : Int) k && decide (band .i64 F (2 ^ k) ≠ 0) == false) || (hasB (c : Int) k && decide (band .i64 F (2 ^ k) ≠ 0)))
theorem Zu4 {s k : Nat} (h : s < 256) (hk : s.testBit k = true) : k < 8 := by
 refine Decidable.byContradiction fun h' => ?_
 have : s.testBit k = false := Nat.testBit_lt_two_pow (Nat.lt_of_lt_of_le h (show 2 ^ 8 ≤ 2 ^ k from Nat.pow_le_pow_right (show 0 < 2 by decide) (by omega)))
 rw [hk] at this
 cases this
theorem Zoz (F : Int) {k : Nat} (h : k < 8) : decide (band .i64 F (2 ^ k) ≠ 0) = (Zjv F).testBit k := by
 have hp : 2 ^ k < 256 := Nat.pow_lt_pow_right (by decide) h
 have e : ((2 : Int) ^ k) = ((2 ^ k : Nat) : Int) := by push_cast; rfl
 rw [e, ZvO F hp, Bool.eq_iff_iff, decide_eq_true_iff, ← ZvQ]
 omega
theorem Zut (F : Int) {s c : Nat} (hs : s < 256) (hc : c < 256) : Zuu F s c = decide (band .i64 F (s : Int) = s ∧ band .i64 F (c : Int) = 0) := by
 rw [Bool.eq_iff_iff, decide_eq_true_iff, ZvO F hs, ZvO F hc]
 unfold Zuu
 rw [List.all_eq_true]
 constructor
 ·intro h
  constructor
  ·have : Zjv F &&& s = s := by
    apply Nat.eq_of_testBit_eq
    intro i
    rw [Nat.testBit_and]
    cases hb : s.testBit i with
    | false => simp
    | true =>
     have hi := Zu4 hs hb
     have q := h i (List.mem_range.2 hi)
     rw [Zoz F hi, Zjf, Zjf, hb] at q
     cases hx : (Zjv F).testBit i with
     | true => rfl
     | false =>
      rw [hx] at q
      simp at q
   omega
  ·have : Zjv F &&& c = 0 := by
    apply Nat.eq_of_testBit_eq
    intro i
    rw [Nat.testBit_and, Nat.zero_testBit]
    cases hb : c.testBit i with
    | false => simp
    | true =>
     have hi := Zu4 hc hb
     have q := h i (List.mem_range.2 hi)
     rw [Zoz F hi, Zjf, Zjf, hb] at q
     cases hx : (Zjv F).testBit i with
     | false => rfl
     | true =>
      rw [hx] at q
      simp at q
   omega
 ·rintro ⟨h1, h2⟩ k hk
  have hk := List.mem_range.1 hk
  have h1 : Zjv F &&& s = s := by omega
  have h2 : Zjv F &&& c = 0 := by omega
  have e1 := congrArg (fun n => n.testBit k) h1
  have e2 := congrArg (fun n => n.testBit k) h2
  simp only [Nat.testBit_and, Nat.zero_testBit] at e1 e2
  rw [Zoz F hk, Zjf, Zjf]
  cases hx : (Zjv F).testBit k with
  | true =>
   rw [hx] at e1 e2
   cases hb : c.testBit k with
   | true => rw [hb] at e2; cases e2
   | false => simp
  | false =>
   rw [hx] at e1 e2
   cases hb : s.testBit k with
   | true => rw [hb] at e1; cases e1
   | false => simp
def bitB (c : Int) (t : Nat) : Int := c / 2 ^ (7 - t) % 2
def bitM (a : List Int) (i : Nat) : Int := bitB (a.getD (i / 8) 0) (i % 8)
def accB (f : Nat → Int) : Nat → Int
 | 0 => 0
 | t + 1 => 2 * accB f t + f t
theorem Zn5 {f g : Nat → Int} : ∀ n, (∀ t, t < n → f t = g t) → accB f n = accB g n
 | 0, _ => rfl
 | n + 1, h => by
  unfold accB
  rw [Zn5 n (fun t ht => h t (by omega)), h n (by omega)]
theorem ZvM : ∀ (c : _root_.Fin 256) (k : _root_.Fin 9), (∀ t : _root_.Fin 8, bitB ((c.val : Int) / 2 ^ (8 - k.val) * 2 ^ (8 - k.val)) t.val = if t.val < k.val then bitB (c.val : Int) t.val else 0) := by decide +kernel
theorem ZvS : ∀ (c : _root_.Fin 256), accB (bitB (c.val : Int)) 8 = (c.val : Int) := by decide +kernel
theorem ZvN (c : Int) (t : Nat) : bitB c t = 0 ∨ bitB c t = 1 := by unfold bitB; omega
theorem Zpv {k : Int} {t : Nat} (h : t < 8) : t < ZgZ k ↔ (t : Int) < k := by
 unfold ZgZ
 omega
theorem Zts {c : Int} (h : 0 ≤ c ∧ c ≤ 255) (k : Int) {t : Nat} (ht : t < 8) : bitB (Zo6 c k) t = if (t : Int) < k then bitB c t else 0 := by
 have := ZvM ⟨c.toNat, by omega⟩ ⟨ZgZ k, by unfold ZgZ; omega⟩ ⟨t, ht⟩
 simp only [show ((c.toNat : Nat) : Int) = c by omega] at this
 unfold Zo6
 rw [this]
 by_cases e : (t : Int) < k
 ·rw [if_pos e, if_pos ((Zpv ht).2 e)]
 ·rw [if_neg e, if_neg (fun h => e ((Zpv ht).1 h))]
theorem Zrd {c : Int} (h : 0 ≤ c ∧ c ≤ 255) : accB (bitB c) 8 = c := by
 have := ZvS ⟨c.toNat, by omega⟩
 simpa only [show ((c.toNat : Nat) : Int) = c by omega] using this
theorem ZuK {c d : Int} (hc : 0 ≤ c ∧ c ≤ 255) (hd : 0 ≤ d ∧ d ≤ 255) (h : ∀ t, t < 8 → bitB c t = bitB d t) : c = d := by
 rw [← Zrd hc, ← Zrd hd]
 exact Zn5 8 h
theorem ZqW {a : List Int} (h : Byt a) (i : Nat) : 0 ≤ a.getD i 0 ∧ a.getD i 0 ≤ 255 := by
 rw [List.getD]
 cases hx : a[i]? with
 | none => simp
 | some y => exact h y (List.mem_of_getElem? hx)
theorem Zry {a : List Int} {n : Int} {i : Nat} (h : i < 16) : (Zpa a n).getD i 0 = Zo6 (a.getD i 0) (n - 8 * (i : Int)) := by
 unfold Zpa
 rw [List.getD, List.getElem?_map, List.getElem?_range h]
 rfl
theorem Zji {a : List Int} (hb : Byt a) {n : Int} {i : Nat} (h : i < 128) : bitM (Zpa a n) i = if (i : Int) < n then bitM a i else 0 := by
 unfold bitM
 rw [Zry (by omega), Zts (ZqW hb _) _ (by omega)]
 by_cases e : (i : Int) < n
 ·rw [if_pos e, if_pos (by omega)]
 ·rw [if_neg e, if_neg (by omega)]
theorem Zqx {a b : Vec Int 16} (ha : Byt a.l) (hb : Byt b.l) (h : ∀ i, i < 128 → bitM a.l i = bitM b.l i) : a = b := by
 refine Vec.eq (List.ext_getElem? fun j => ?_)
 have la := a.h
 have lb := b.h
 by_cases hj : j < 16
 ·have e : a.l.getD j 0 = b.l.getD j 0 := ZuK (ZqW ha j) (ZqW hb j) (fun t ht => by
   have := h (8 * j + t) (by omega)
   unfold bitM at this
   rwa [show (8 * j + t) / 8 = j by omega, show (8 * j + t) % 8 = t by omega] at this)
  rw [List.getElem?_eq_getElem (by omega), List.getElem?_eq_getElem (by omega)]
  unfold List.getD at e
  rw [List.getElem?_eq_getElem (by omega), List.getElem?_eq_getElem (by omega)] at e
  exact congrArg some e
 ·rw [List.getElem?_eq_none (by omega), List.getElem?_eq_none (by omega)]
theorem Zo8 {a : Vec Int 16} (ha : Byt a.l) {n : Int} : Zo9 a n = a ↔ ∀ i : Nat, i < 128 → n ≤ (i : Int) → bitM a.l i = 0 := by
 constructor
 ·intro h i hi hn
  have := Zji ha (n := n) hi
  rw [if_neg (by omega)] at this
  rw [← this]
  exact congrArg (fun v : Vec Int 16 => bitM v.l i) h.symm
 ·intro h
  refine Zqx (ZmG n ha) ha (fun i hi => ?_)
  refine (Zji ha hi).trans ?_
  by_cases e : (i : Int) < n
  ·rw [if_pos e]
  ·rw [if_neg e, h i hi (by omega)]
theorem ZsM {a b : Vec Int 16} (ha : Byt a.l) (hb : Byt b.l) {n : Int} : Zo9 a n = Zo9 b n ↔ ∀ i : Nat, i < 128 → (i : Int) < n → bitM a.l i = bitM b.l i := by
 constructor
 ·intro h i hi hn
  have h1 := Zji ha (n := n) hi
  have h2 := Zji hb (n := n) hi
  rw [if_pos hn] at h1 h2
  rw [← h1, ← h2]
  exact congrArg (fun v : Vec Int 16 => bitM v.l i) h
 ·intro h
  refine Zqx (ZmG n ha) (ZmG n hb) (fun i hi => ?_)
  refine (Zji ha hi).trans (Eq.trans ?_ (Zji hb hi).symm)
  by_cases e : (i : Int) < n
  ·rw [if_pos e, if_pos e, h i hi e]
  ·rw [if_neg e, if_neg e]
theorem ZuM {a : List Int} (h : a.drop 4 = List.replicate 12 0) {i : Nat} (hi : 32 ≤ i) (h2 : i < 128) : bitM a i = 0 := by
 unfold bitM
 have e := congrArg (fun l => l.getD (i / 8 - 4) 0) h
 simp only [List.getD, List.getElem?_drop] at e
 rw [show 4 + (i / 8 - 4) = i / 8 by omega, List.getElem?_replicate, if_pos (show i / 8 - 4 < 12 by omega)] at e
 have e : a.getD (i / 8) 0 = 0 := e
 rw [e]
 unfold bitB
 rw [Int.zero_ediv]
 rfl
theorem ZtV {ip : Zba} (h : ZdA ip > 0) : ZdA ip = if ip.V = 4 then 32 else 128 := by
 unfold ZdA at h ⊢
 by_cases h6 : ip.V = 6
 ·rw [if_pos h6, if_neg (by omega)]
 ·rw [if_neg h6] at h ⊢
  split at h
  ·rename_i h4
   rw [if_pos h4, if_pos h4.1]
  ·omega
theorem ZuN {ip : Zba} (h : ZdA ip > 0) {i : Nat} (hi : ZdA ip ≤ (i : Int)) (h2 : i < 128) : bitM ip.A.l i = 0 := by
 unfold ZdA at h hi
 by_cases h6 : ip.V = 6
 ·rw [if_pos h6] at hi
  omega
 ·rw [if_neg h6] at h hi
  split at h
  ·rename_i h4
   rw [if_pos h4] at hi
   exact ZuM h4.2 (by omega) h2
  ·omega
section
variable {W w : World} {Hs : List HP}
theorem vecg {a : Vec Int 16} (i : Nat) : Vec.g a (i : Int) 0 = a.l.getD i 0 := by
 unfold Vec.g
 rw [Int.toNat_natCast]
theorem ZoU (s : Ss W Hs w) (ip : Zba) : WP (Zbb ip) w (fun r w' => r = decide (ZdA ip > 0) ∧ Ss W Hs w') := by
 unfold Zbb
 refine WP.slot' s (fun _ w s => WP.ite (fun h => WP.ret ⟨?_, s⟩) (fun h => ?_))
 ·unfold ZdA
  by_cases h6 : ip.V = 6
  ·simp [h6]
  ·rw [if_neg h6, if_neg (fun h' => h h'.1)]
   simp [h6]
 have h4 : ip.V = 4 := Decidable.not_not.1 h
 have hs : ZdA ip > 0 ↔ ∀ j, 4 ≤ j → j < 16 → ip.A.l.getD j 0 = 0 := by
  have hl := ip.A.h
  unfold ZdA
  rw [if_neg (by omega)]
  constructor
  ·intro h j h1 h2
   split at h
   ·rename_i hz
    have e := congrArg (fun l => l.getD (j - 4) 0) hz.2
    simp only [List.getD, List.getElem?_drop] at e
    rw [show 4 + (j - 4) = j by omega, List.getElem?_replicate, if_pos (show j - 4 < 12 by omega)] at e
    exact e
   ·omega
  ·intro h
   have hz : ip.A.l.drop 4 = List.replicate 12 0 := by
    rw [List.eq_replicate_iff]
    refine ⟨by rw [List.length_drop]; omega, fun b hb => ?_⟩
    obtain ⟨q, hq⟩ := List.mem_iff_getElem?.1 hb
    have hlt := (List.getElem?_eq_some_iff.1 hq).1
    rw [List.length_drop] at hlt
    rw [List.getElem?_drop] at hq
    have := h (4 + q) (by omega) (by omega)
    rw [List.getD, hq] at this
    exact this
   have e : (if ip.V = 4 ∧ ip.A.l.drop 4 = List.replicate 12 0 then (32 : Int) else 0) = 32 := if_pos ⟨h4, hz⟩
   omega
 refine WP.loopG (γ := Nat) (fun i (x : Int) w => x = (i : Int) ∧ 4 ≤ i ∧ i ≤ 16 ∧ (∀ j, 4 ≤ j → j < i → ip.A.l.getD j 0 = 0) ∧ Ss W Hs w) (fun i _ => 16 - i) 4 ⟨rfl, by omega, by omega, fun j h1 h2 => by omega, s⟩ ?_
 clear s
 rintro i _ w ⟨rfl, h1, h2, hz, s⟩
 show WP (Zbb.L1 ip (i : Int)) w _
 unfold Zbb.L1
 refine WP.ite (fun h => WP.chk ⟨by omega, by omega⟩ ?_) (fun h => WP.done ⟨?_, s⟩)
 ·rw [vecg]
  refine WP.ite (fun h' => WP.done ⟨?_, s⟩) (fun h' => ?_)
  ·rw [decide_eq_false]
   intro hh
   exact h' (hs.1 hh i h1 (by omega))
  ·rw [Zau (by omega) (by omega)]
   refine WP.next ⟨i + 1, ⟨by omega, by omega, by omega, fun j j1 j2 => ?_, s⟩, by omega⟩
   by_cases e : j = i
   ·subst e
    exact Decidable.not_not.1 h'
   ·exact hz j j1 (by omega)
 ·exact (decide_eq_true (hs.2 fun j j1 j2 => hz j j1 (by omega))).symm
theorem ZtH (s : Ss W Hs w) (ip : Zba) (h : ZdA ip > 0) : WP (Zee ip) w (fun r w' => r = ZdA ip ∧ Ss W Hs w') := by
 unfold Zee
 rw [ZtV h]
 exact WP.slot' s (fun _ w s => WP.ite (fun h => WP.ret ⟨by rw [if_pos h], s⟩) (fun h => WP.ret ⟨by rw [if_neg h], s⟩))
theorem Ztr (s : Ss W Hs w) (ip : Zba) (hb : Byt ip.A.l) {i : Nat} (hi : i < 128) : WP (Zbv ip (i : Int)) w (fun r w' => r = bitM ip.A.l i ∧ Ss W Hs w') := by
 unfold Zbv
 have e1 : IntKind.wrap .i64 (Int.tdiv (i : Int) 8) = ((i / 8 : Nat) : Int) := by
  rw [Int.tdiv_eq_ediv_of_nonneg (by omega), Zau (by omega) (by omega)]
  omega
 have e2 : Int.tmod (i : Int) 8 = ((i % 8 : Nat) : Int) := by
  rw [Int.tmod_eq_emod_of_nonneg (by omega)]
  omega
 have hc := ZqW hb (i / 8)
 rw [e1, e2, vecg, Zau (by omega) (by omega)]
 refine WP.slot' s (fun _ w s => WP.chk ⟨by omega, by omega⟩ ?_)
 refine WP.loopG (γ := Nat) (fun k (x : Int × Int) w => x.1 = ip.A.l.getD (i / 8) 0 / 2 ^ (k - i % 8) ∧ x.2 = (k : Int) ∧ i % 8 ≤ k ∧ k ≤ 7 ∧ Ss W Hs w) (fun k _ => 7 - k) (i % 8) ⟨by simp, rfl, Nat.le_refl _, by omega, s⟩ ?_
 clear s
 rintro k ⟨_, _⟩ w ⟨rfl, rfl, h1, h2, s⟩
 show WP (Zbv.L1 (ip.A.l.getD (i / 8) 0 / 2 ^ (k - i % 8)) (k : Int)) w _
 unfold Zbv.L1
 have hp : (0 : Int) < 2 ^ (k - i % 8) := Int.pow_pos (by omega)
 have hq : 0 ≤ ip.A.l.getD (i / 8) 0 / 2 ^ (k - i % 8) := Int.ediv_nonneg hc.1 (by omega)
 have hq2 : ip.A.l.getD (i / 8) 0 / 2 ^ (k - i % 8) ≤ 255 := by
  have := Int.ediv_le_self (2 ^ (k - i % 8)) hc.1
  omega
 refine WP.ite (fun h => ?_) (fun h => WP.done ⟨?_, s⟩)
 ·rw [Zau (n := (k : Int) + 1) (by omega) (by omega), Int.tdiv_eq_ediv_of_nonneg hq, Zau (by omega) (by omega)]
  refine WP.next ⟨k + 1, ⟨?_, by simp, by omega, by omega, s⟩, by omega⟩
  simp only
  rw [Int.ediv_ediv_of_nonneg (by omega), show k + 1 - i % 8 = (k - i % 8) + 1 by omega, Int.pow_succ]
 ·have hk : k = 7 := by omega
  subst hk
  rw [Int.tmod_eq_emod_of_nonneg hq]
  rfl
theorem Zmw (s : Ss W Hs w) (p : Zad) (hb : Byt p.IP.A.l) : WP (ZaM p) w (fun r w' => r = vpM p ∧ Ss W Hs w') := by
 have hz := Zl0 p.IP
 unfold ZaM
 refine WP.slot' s (fun _ w s => WP.step (ZoU s p.IP) ?_)
 rintro _ w ⟨rfl, s⟩
 refine WP.ite (fun h => WP.ret ⟨?_, s⟩) (fun h => ?_)
 ·unfold vpM
  rw [if_pos]
  have : ¬ ZdA p.IP > 0 := fun h' => h (decide_eq_true h')
  omega
 have hv : ZdA p.IP > 0 := of_decide_eq_true (Decidable.not_not.1 h)
 refine WP.step (ZtH s p.IP hv) ?_
 rintro _ w ⟨rfl, s⟩
 refine WP.step (R := fun y w' => y = decide (p.Len < 0 ∨ p.Len > ZdA p.IP) ∧ w = w') (WP.ite (fun h => WP.ret ⟨by simp [h], rfl⟩) (fun h => WP.ret ⟨by simp [h], rfl⟩)) ?_
 rintro _ _ ⟨rfl, rfl⟩
 refine WP.ite (fun h => WP.ret ⟨by unfold vpM; rw [if_neg (by omega), if_pos (of_decide_eq_true h)], s⟩) (fun h => ?_)
 have hn : ¬ (p.Len < 0 ∨ p.Len > ZdA p.IP) := fun h' => h (decide_eq_true h')
 have hv2 : vpM p = if ∀ i : Nat, i < 128 → p.Len ≤ (i : Int) → bitM p.IP.A.l i = 0 then 0 else 46 := by
  unfold vpM
  rw [if_neg (by omega), if_neg hn]
  by_cases e : Zo9 p.IP.A p.Len = p.IP.A
  ·rw [if_pos e, if_pos ((Zo8 hb).1 e)]
  ·rw [if_neg e, if_neg (fun h => e ((Zo8 hb).2 h))]
 refine WP.loopG (γ := Nat) (fun i (x : Int) w => x = (i : Int) ∧ p.Len ≤ (i : Int) ∧ (i : Int) ≤ ZdA p.IP ∧ (∀ j : Nat, p.Len ≤ (j : Int) → j < i → bitM p.IP.A.l j = 0) ∧ Ss W Hs w) (fun i _ => (ZdA p.IP).toNat - i) p.Len.toNat ⟨by omega, by omega, by omega, fun j h1 h2 => by omega, s⟩ ?_
 clear s
 rintro i _ w ⟨rfl, h1, h2, hq, s⟩
 show WP (ZaM.L1 p (ZdA p.IP) (i : Int)) w _
 unfold ZaM.L1
 refine WP.ite (fun h => WP.step (Ztr s p.IP hb (i := i) (by omega)) ?_) (fun h => WP.done ⟨?_, s⟩)
 ·rintro _ w ⟨rfl, s⟩
  refine WP.ite (fun e => WP.done ⟨?_, s⟩) (fun e => ?_)
  ·rw [hv2, if_neg (fun hh => by have := hh i (by omega) h1; omega)]
  ·have e0 : bitM p.IP.A.l i = 0 := (ZvN _ _).resolve_right e
   rw [Zau (by omega) (by omega)]
   refine WP.next ⟨i + 1, ⟨by omega, by omega, by omega, fun j j1 j2 => ?_, s⟩, by omega⟩
   by_cases ej : j = i
   ·subst ej
    exact e0
   ·exact hq j j1 (by omega)
 ·rw [hv2, if_pos]
  intro j j1 j2
  by_cases ej : j < i
  ·exact hq j j2 ej
  ·exact ZuN hv (by omega) j1
end
section
variable {W w : World} {Hs : List HP}
theorem Zsn {a : Nat} (ha : a < 256) {k : Nat} (hk : k ≤ 8) : WP (Zbn (a : Int) (k : Int)) w (fun y w' => y = hasB (a : Int) k ∧ w = w') := by
 unfold Zbn
 refine WP.loopG (γ := Nat) (fun i (x : Int × Int) w' => x = (((a / 2 ^ i : Nat) : Int), (i : Int)) ∧ i ≤ k ∧ w = w') (fun i _ => k - i) 0 ⟨by simp, Nat.zero_le _, rfl⟩ ?_
 rintro i _ _ ⟨rfl, hi, rfl⟩
 show WP (Zbn.L1 (k : Int) ((a / 2 ^ i : Nat) : Int) (i : Int)) w _
 unfold Zbn.L1
 have hle : a / 2 ^ i ≤ a := Nat.div_le_self ..
 refine WP.ite (fun h => WP.next ⟨i + 1, ⟨?_, by omega, rfl⟩, by omega⟩) (fun h => WP.done ⟨?_, rfl⟩)
 ·have e2 : a / 2 ^ i / 2 = a / 2 ^ (i + 1) := by rw [Nat.div_div_eq_div_mul, ← Nat.pow_succ]
  have e3 : a / 2 ^ (i + 1) ≤ a := Nat.div_le_self ..
  rw [show Int.tdiv ((a / 2 ^ i : Nat) : Int) 2 = ((a / 2 ^ i / 2 : Nat) : Int) from rfl, e2]
  generalize a / 2 ^ (i + 1) = q at e3 ⊢
  rw [Zau (by omega) (by omega), Zau (by omega) (by omega)]
  simp
 ·have : i = k := by omega
  subst this
  rw [show Int.tmod ((a / 2 ^ i : Nat) : Int) 2 = ((a / 2 ^ i % 2 : Nat) : Int) from rfl, ZgK, Nat.testBit_eq_decide_div_mod_eq, Bool.eq_iff_iff, beq_iff_eq, decide_eq_true_iff]
  omega
end
section
variable {W w : World} {Hs : List HP}
theorem ZoV (s : Ss W Hs w) (p : Zad) (hb : Byt p.IP.A.l) (ip : Zba) (hb2 : Byt ip.A.l) : WP (ZaY p ip) w (fun r w' => r = ctM p ip ∧ Ss W Hs w') := by
 unfold ZaY
 refine WP.slot' s (fun _ w s => WP.slot' s (fun _ w s => WP.step (Zmw s p hb) ?_))
 rintro _ w ⟨rfl, s⟩
 refine WP.step (ZoU s ip) ?_
 rintro _ w ⟨rfl, s⟩
 refine WP.step (R := fun y w' => y = decide (vpM p ≠ 0 ∨ ¬ ZdA ip > 0) ∧ w = w') (WP.ite (fun h => WP.ret ⟨by simp [h], rfl⟩) (fun h => WP.ret ⟨by rw [Bool.eq_iff_iff]; simp [Decidable.not_not.1 h], rfl⟩)) ?_
 rintro _ _ ⟨rfl, rfl⟩
 refine WP.step (R := fun y w' => y = decide (vpM p ≠ 0 ∨ ¬ ZdA ip > 0 ∨ p.IP.V ≠ ip.V) ∧ w = w') (WP.ite (fun h => WP.ret ⟨?_, rfl⟩) (fun h => WP.ret ⟨?_, rfl⟩)) ?_
 ·have := of_decide_eq_true h
  refine (decide_eq_true ?_).symm
  rcases this with h | h
  ·exact .inl h
  ·exact .inr (.inl h)
 ·have hn : ¬ (vpM p ≠ 0 ∨ ¬ ZdA ip > 0) := fun h' => h (decide_eq_true h')
  rw [bne, Bool.eq_iff_iff]
  simp only [Bool.not_eq_true', beq_eq_false_iff_ne, ne_eq, decide_eq_true_eq]
  exact ⟨fun h => .inr (.inr h), fun h => by
   rcases h with h | h | h
   ·exact absurd (.inl h) hn
   ·exact absurd (.inr h) hn
   ·exact h⟩
 rintro _ _ ⟨rfl, rfl⟩
 refine WP.ite (fun h => WP.ret ⟨?_, s⟩) (fun h => ?_)
 ·have := of_decide_eq_true h
  refine (decide_eq_false fun h2 => ?_).symm
  rcases this with h | h | h
  ·exact h h2.1
  ·exact h h2.2.1
  ·exact h h2.2.2.1
 have hn : ¬ (vpM p ≠ 0 ∨ ¬ ZdA ip > 0 ∨ p.IP.V ≠ ip.V) := fun h' => h (decide_eq_true h')
 have hv : vpM p = 0 := Decidable.not_not.1 fun h' => hn (.inl h')
 have hs : ZdA ip > 0 := Decidable.not_not.1 fun h' => hn (.inr (.inl h'))
 have hV : p.IP.V = ip.V := Decidable.not_not.1 fun h' => hn (.inr (.inr h'))
 obtain ⟨_, l0, l1, l2⟩ := ZpJ hv
 have hz := Zl0 p.IP
 have hct : ctM p ip = decide (∀ i : Nat, i < 128 → (i : Int) < p.Len → bitM ip.A.l i = bitM p.IP.A.l i) := by
  unfold ctM
  rw [decide_eq_decide, ← ZsM hb2 hb, l2]
  exact ⟨fun h => h.2.2.2, fun h => ⟨hv, hs, hV, h⟩⟩
 refine WP.loopG (γ := Nat) (fun i (x : Int) w => x = (i : Int) ∧ (i : Int) ≤ p.Len ∧ (∀ j : Nat, j < i → bitM ip.A.l j = bitM p.IP.A.l j) ∧ Ss W Hs w) (fun i _ => p.Len.toNat - i) 0 ⟨rfl, by omega, fun j h => by omega, s⟩ ?_
 clear s
 rintro i _ w ⟨rfl, h1, hq, s⟩
 show WP (ZaY.L1 p ip (i : Int)) w _
 unfold ZaY.L1
 refine WP.ite (fun h => WP.draw' s (fun w s => WP.step (Ztr s p.IP hb (i := i) (by omega)) ?_)) (fun h => WP.done ⟨?_, s⟩)
 ·rintro _ w ⟨rfl, s⟩
  refine WP.step (Ztr s ip hb2 (i := i) (by omega)) ?_
  rintro _ w ⟨rfl, s⟩
  refine WP.ite (fun e => WP.done ⟨?_, s⟩) (fun e => ?_)
  ·rw [hct]
   exact (decide_eq_false fun hh => e (hh i (by omega) (by omega)).symm).symm
  ·rw [Zau (by omega) (by omega)]
   refine WP.next ⟨i + 1, ⟨by omega, by omega, fun j j1 => ?_, s⟩, by omega⟩
   by_cases ej : j = i
   ·subst ej
    exact (Decidable.not_not.1 e).symm
   ·exact hq j (by omega)
 ·rw [hct]
  exact (decide_eq_true fun j _ j2 => hq j (by omega)).symm
end
def pp (port : Int) (p : Zac) (vid : Option Int) (c : Prop) [Decidable c] (t : TM) : Bool := !decide c || t.holds port p vid
theorem ZwT {port : Int} {p : Zac} {vid : Option Int} {c : Prop} [Decidable c] {t : TM} : (if c then [t] else []).all (TM.holds port p vid) = pp port p vid c t := by
 unfold pp
 by_cases h : c <;> simp [h]
theorem ZsL (port : Int) (p : Zac) (vid : Option Int) (m : Zbf) : ZhI port p vid m = ((((((((((pp port p vid (m.In ≠ 0) (.inn m.In) && pp port p vid (m.Vid ≠ 0) (.vid m.Vid)) && pp port p vid (m.Kind ≠ 0) (.kind m.Kind)) && pp port p vid (m.Proto ≠ 0) (.proto m.Proto))
  && pp port p vid (m.From.nets ≠ []) (.net false m.From.Not m.From.nets)) && pp port p vid (m.From.ports ≠ []) (.port false m.From.ports)) && pp port p vid (m.To.nets ≠ []) (.net true m.To.Not m.To.nets)) && pp port p vid (m.To.ports ≠ []) (.port true m.To.ports))
  && pp port p vid (bor .i64 m.Set m.Clear ≠ 0) (.flag m.Set m.Clear)) && pp port p vid (m.Type_ ≠ 0) (.typ m.Type_)) && pp port p vid (m.Pieces = true) .piece) := by
 unfold ZhI Zgs
 simp only [List.all_append, ZwT]
section
variable {W w : World} {Hs : List HP}
theorem gate {b R : Bool} {X : M Bool} (s : Ss W Hs w) (h1 : b = false → R = false) (h2 : b = true → WP X w (fun y w' => y = R ∧ Ss W Hs w')) : WP (if (!b) = true then pure false else X) w (fun y w' => y = R ∧ Ss W Hs w') := by
 cases hb : b with
 | true => exact WP.ite (fun h => by cases h) (fun _ => h2 hb)
 | false => exact WP.ite (fun _ => WP.ret ⟨(h1 hb).symm, s⟩) (fun h => absurd rfl h)
theorem orN1 {β : Type} {a b : Bool} {X : M Bool} {f : Bool → M β} {Q : β → World → Prop} (s : Ss W Hs w) (hX : WP X w (fun y w' => y = b ∧ Ss W Hs w')) (k : ∀ w, Ss W Hs w → WP (f (!(a && b))) w Q) : WP ((if ¬ (a = true) then pure true else X >>= fun r => pure (!r)) >>= f) w Q := by
 refine WP.step (R := fun y w' => y = (!(a && b)) ∧ Ss W Hs w') (WP.ite (fun h => WP.ret ⟨?_, s⟩) (fun h => WP.step hX ?_)) ?_
 ·cases a with
  | true => exact absurd rfl h
  | false => rfl
 ·rintro _ w ⟨rfl, s⟩
  refine WP.ret ⟨?_, s⟩
  rw [Decidable.not_not.1 h]
  rfl
 ·rintro _ w ⟨rfl, s⟩
  exact k w s
theorem orN2 {β : Type} {a b : Bool} {X : M Bool} {f : Bool → M β} {Q : β → World → Prop} (s : Ss W Hs w) (hX : WP X w (fun y w' => y = b ∧ Ss W Hs w')) (k : ∀ w, Ss W Hs w → WP (f (!(a && b))) w Q) : WP ((if (!a) = true then pure true else X >>= fun r => pure (!r)) >>= f) w Q := by
 refine WP.step (R := fun y w' => y = (!(a && b)) ∧ Ss W Hs w') (WP.ite (fun h => WP.ret ⟨?_, s⟩) (fun h => WP.step hX ?_)) ?_
 ·cases a with
  | true => cases h
  | false => rfl
 ·rintro _ w ⟨rfl, s⟩
  refine WP.ret ⟨?_, s⟩
  cases a with
  | true => rfl
  | false => exact absurd rfl h
 ·rintro _ w ⟨rfl, s⟩
  exact k w s
theorem ZvD (s : Ss W Hs w) (p : Zac) : WP (Zef p) w (fun y w' => y = ((Zga p false).1, (Zga p true).1, (Zga p false).2) ∧ Ss W Hs w') := by
 unfold Zef Zga
 refine WP.slot' s (fun _ w s => WP.slot' s (fun _ w s => WP.slot' s (fun _ w s => ?_)))
 refine WP.ite (fun h => ?_) (fun h => WP.ite (fun h2 => ?_) (fun h2 => WP.ite (fun h3 => ?_) (fun h3 => WP.ret ⟨?_, s⟩)))
 ·rw [if_pos h, if_pos h]
  exact WP.draw' s (fun w s => WP.ret ⟨rfl, s⟩)
 ·rw [if_neg h, if_neg h, if_pos h2, if_pos h2]
  exact WP.draw' s (fun w s => WP.ret ⟨rfl, s⟩)
 ·rw [if_neg h, if_neg h, if_neg h2, if_neg h2, if_pos h3, if_pos h3]
  exact WP.draw' s (fun w s => WP.ret ⟨rfl, s⟩)
 ·rw [if_neg h, if_neg h, if_neg h2, if_neg h2, if_neg h3, if_neg h3]
theorem Zsg (s : Ss W Hs w) (p : Zac) : WP (ZdP p) w (fun y w' => y = ((Zgh p false).1, (Zgh p true).1, (Zgh p false).2) ∧ Ss W Hs w') := by
 unfold ZdP Zgh
 refine WP.slot' s (fun _ w s => ?_)
 refine WP.ite (fun h => ?_) (fun h => WP.ite (fun h2 => ?_) (fun h2 => WP.ret ⟨?_, s⟩))
 ·rw [if_pos h, if_pos h]
  exact WP.draw' s (fun w s => WP.ret ⟨rfl, s⟩)
 ·rw [if_neg h, if_neg h, if_pos h2, if_pos h2]
  exact WP.draw' s (fun w s => WP.ret ⟨rfl, s⟩)
 ·rw [if_neg h, if_neg h, if_neg h2, if_neg h2]
theorem ZuR (p : Zac) : (Zga p true).2 = (Zga p false).2 := by
 unfold Zga
 split
 ·rfl
 ·split
  ·rfl
  ·split <;> rfl
theorem Zt8 (p : Zac) : (Zgh p true).2 = (Zgh p false).2 := by
 unfold Zgh
 split
 ·rfl
 ·split <;> rfl
theorem ZsP {port : Int} {p : Zac} {vid : Option Int} {sd : Zaf} {m : ZeT} {to has : Bool} (s : Ss W Hs w) (r : RdSd Hs sd m) (pb : PkB p) (hh : has = (Zga p to).2) (hl : m.nets.length ≤ 9000000000000000000) :
  WP (Zbc sd (Zga p to).1 has) w (fun y w' => y = pp port p vid (m.nets ≠ []) (.net to m.Not m.nets) ∧ Ss W Hs w') := by
 obtain ⟨hno, hb, ⟨i, A, e, ra⟩, -⟩ := r
 have hlen := (s.rd_len e ra).1
 unfold Zbc
 refine WP.slot' s (fun _ w s => WP.slot' s (fun _ w s => WP.ite (fun h => WP.ret ⟨?_, s⟩) (fun h => ?_)))
 ·have : m.nets = [] := List.length_eq_zero_iff.1 (by omega)
  unfold pp
  simp [this]
 have hne : m.nets ≠ [] := fun h' => by
  rw [h'] at hlen
  simp at hlen
  omega
 refine WP.loopG (γ := Nat) (fun k (x : Bool × Int) w => x.1 = (m.nets.take k).any (fun n => ctM n (Zga p to).1) ∧ x.2 = (k : Int) ∧ k ≤ m.nets.length ∧ Ss W Hs w) (fun k _ => m.nets.length - k) 0 ⟨rfl, rfl, Nat.zero_le _, s⟩ ?_
 clear s
 rintro k ⟨x1, x2⟩ w ⟨h1, h2, hk, s⟩
 dsimp only at h1 h2
 subst h1 h2
 show WP (Zbc.L1 sd _ has _ (k : Int)) w _
 unfold Zbc.L1
 refine WP.ite (fun hc => WP.draw' s (fun w s => ?_)) (fun hc => ?_)
 ·have hx := List.getElem?_eq_getElem (show k < m.nets.length by omega)
  generalize m.nets[k]'(show k < m.nets.length by omega) = x at hx
  have ht : m.nets.take (k + 1) = m.nets.take k ++ [x] := by
   rw [List.take_add_one, hx]
   rfl
  refine WP.rdx s i e ra (by omega) (x := x) (by rw [Int.toNat_natCast]; exact hx) rfl (WP.step (ZoV s x (hb x (List.mem_of_getElem? hx)) _ (pb.addr to)) ?_)
  rintro _ w ⟨rfl, s⟩
  refine WP.step (R := fun y w' => y = (m.nets.take (k + 1)).any (fun n => ctM n (Zga p to).1) ∧ w = w') (WP.ite (fun h' => WP.ret ⟨?_, rfl⟩) (fun h' => WP.ret ⟨?_, rfl⟩)) ?_
  ·dsimp only at h'
   rw [ht, List.any_append, h']
   rfl
  ·dsimp only at h'
   rw [ht, List.any_append, Bool.eq_false_iff.2 h']
   simp
  rintro _ _ ⟨rfl, rfl⟩
  refine WP.next ⟨k + 1, ⟨rfl, ?_, by omega, s⟩, by omega⟩
  show IntKind.wrap .i64 ((k : Int) + 1) = _
  rw [Zau (by omega) (by omega)]
  simp
 ·have hk2 : k = m.nets.length := by omega
  rw [hk2, List.take_length]
  refine WP.step (R := fun y w' => y = pp port p vid (m.nets ≠ []) (.net to m.Not m.nets) ∧ w = w') (WP.ite (fun h' => WP.ret ⟨?_, rfl⟩) (fun h' => WP.ret ⟨?_, rfl⟩)) ?_
  ·show _ = (!decide (m.nets ≠ []) || ((Zga p to).2 && !(m.nets.any (fun n => ctM n (Zga p to).1) == m.Not)))
   rw [← hh, h', hno, decide_eq_true hne]
   rfl
  ·show _ = (!decide (m.nets ≠ []) || ((Zga p to).2 && !(m.nets.any (fun n => ctM n (Zga p to).1) == m.Not)))
   rw [← hh, Bool.eq_false_iff.2 h', decide_eq_true hne]
   rfl
  rintro _ _ ⟨rfl, rfl⟩
  exact WP.done ⟨rfl, s⟩
theorem Zs6 {port : Int} {p : Zac} {vid : Option Int} {sd : Zaf} {m : ZeT} {to has : Bool} (s : Ss W Hs w) (r : RdSd Hs sd m) (hh : has = (Zgh p to).2) (hl : m.ports.length ≤ 9000000000000000000) :
  WP (Zbd sd (Zgh p to).1 has) w (fun y w' => y = pp port p vid (m.ports ≠ []) (.port to m.ports) ∧ Ss W Hs w') := by
 obtain ⟨-, -, -, ⟨i, A, e, ra⟩⟩ := r
 have hlen := (s.rd_len e ra).1
 unfold Zbd
 refine WP.slot' s (fun _ w s => WP.ite (fun h => WP.ret ⟨?_, s⟩) (fun h => ?_))
 ·have : m.ports = [] := List.length_eq_zero_iff.1 (by omega)
  unfold pp
  simp [this]
 have hne : m.ports ≠ [] := fun h' => by
  rw [h'] at hlen
  simp at hlen
  omega
 refine WP.loopG (γ := Nat) (fun k (x : Bool × Int) w => x.1 = (m.ports.take k).any (fun r => inR (Zgh p to).1 r.Lo r.Hi) ∧ x.2 = (k : Int) ∧ k ≤ m.ports.length ∧ Ss W Hs w) (fun k _ => m.ports.length - k) 0 ⟨rfl, rfl, Nat.zero_le _, s⟩ ?_
 clear s
 rintro k ⟨x1, x2⟩ w ⟨h1, h2, hk, s⟩
 dsimp only at h1 h2
 subst h1 h2
 show WP (Zbd.L1 sd _ has _ (k : Int)) w _
 unfold Zbd.L1
 refine WP.ite (fun hc => ?_) (fun hc => ?_)
 ·have hx := List.getElem?_eq_getElem (show k < m.ports.length by omega)
  generalize m.ports[k]'(show k < m.ports.length by omega) = x at hx
  have hxi : m.ports[Int.toNat (k : Int)]? = some x := by rw [Int.toNat_natCast]; exact hx
  have ht : m.ports.take (k + 1) = m.ports.take k ++ [x] := by
   rw [List.take_add_one, hx]
   rfl
  refine WP.step (R := fun y w' => y = (m.ports.take (k + 1)).any (fun r => inR (Zgh p to).1 r.Lo r.Hi) ∧ Ss W Hs w') (WP.ite (fun h' => WP.ret ⟨?_, s⟩) (fun h' => ?_)) ?_
  ·dsimp only at h'
   rw [ht, List.any_append, h']
   rfl
  ·dsimp only at h'
   refine WP.rdxp0 s i e ra (by omega) hxi rfl (Zdu _) ?_
   refine WP.step (R := fun y w' => y = inR (Zgh p to).1 x.Lo x.Hi ∧ Ss W Hs w') (WP.ite (fun h2 => WP.rdxp s i e ra (by omega) hxi rfl (ZdW _) (WP.ret ⟨?_, s⟩)) (fun h2 => WP.ret ⟨?_, s⟩)) ?_
   ·unfold inR
    exact decide_eq_decide.2 ⟨fun h3 => ⟨h2, h3⟩, fun h3 => h3.2⟩
   ·unfold inR
    exact (decide_eq_false (fun h3 => h2 h3.1)).symm
   rintro _ w ⟨rfl, s⟩
   refine WP.ret ⟨?_, s⟩
   rw [ht, List.any_append, Bool.eq_false_iff.2 h']
   simp
  rintro _ w ⟨rfl, s⟩
  refine WP.next ⟨k + 1, ⟨rfl, ?_, by omega, s⟩, by omega⟩
  show IntKind.wrap .i64 ((k : Int) + 1) = _
  rw [Zau (by omega) (by omega)]
  simp
 ·have hk2 : k = m.ports.length := by omega
  rw [hk2, List.take_length]
  refine WP.step (R := fun y w' => y = pp port p vid (m.ports ≠ []) (.port to m.ports) ∧ w = w') (WP.ite (fun h' => WP.ret ⟨?_, rfl⟩) (fun h' => WP.ret ⟨?_, rfl⟩)) ?_
  ·show _ = (!decide (m.ports ≠ []) || ((Zgh p to).2 && m.ports.any (fun r => inR (Zgh p to).1 r.Lo r.Hi)))
   rw [← hh, h', decide_eq_true hne]
   rfl
  ·show _ = (!decide (m.ports ≠ []) || ((Zgh p to).2 && m.ports.any (fun r => inR (Zgh p to).1 r.Lo r.Hi)))
   rw [← hh, Bool.eq_false_iff.2 h', decide_eq_true hne]
   rfl
  rintro _ _ ⟨rfl, rfl⟩
  exact WP.done ⟨rfl, s⟩
theorem Zvo : ∀ k : _root_.Fin 8, IntKind.wrap .i64 (1 * 2 ^ min (Int.toNat ((k.val : Nat) : Int)) 64) = 2 ^ k.val := by decide
theorem Zsi {port : Int} {p : Zac} {vid : Option Int} {r : Zae} {m : Zbf} (s : Ss W Hs w) (sc : RSc r m) (h1 : 0 ≤ m.Set ∧ m.Set ≤ 255) (h2 : 0 ≤ m.Clear ∧ m.Clear ≤ 255) :
  WP (Za7 r p) w (fun y w' => y = pp port p vid (bor .i64 m.Set m.Clear ≠ 0) (.flag m.Set m.Clear) ∧ Ss W Hs w') := by
 obtain ⟨-, -, -, -, -, -, c7, c8, -, -⟩ := sc
 obtain ⟨a, ha⟩ := Int.eq_ofNat_of_zero_le h1.1
 obtain ⟨c, hc⟩ := Int.eq_ofNat_of_zero_le h2.1
 have a8 : a < 256 := by omega
 have c8' : c < 256 := by omega
 unfold Za7
 rw [c7, c8, ha, hc]
 refine WP.slot' s (fun _ w s => WP.slot' s (fun _ w s => andW (r := (c : Int) = 0) beq_iff_eq (WP.ite (fun h => WP.ret ⟨?_, s⟩) (fun h => ?_))))
 ·have h := of_decide_eq_true h
  have : bor .i64 (a : Int) (c : Int) = 0 := (Zwz a8 c8').2 ⟨by omega, by omega⟩
  unfold pp
  rw [this]
  rfl
 have hb : bor .i64 (a : Int) (c : Int) ≠ 0 := fun h' => h (decide_eq_true (by have := (Zwz a8 c8').1 h'; omega))
 have e : pp port p vid (bor .i64 (a : Int) (c : Int) ≠ 0) (.flag (a : Int) (c : Int)) = decide (p.L4 = 3 ∧ band .i64 p.Tcp.Flags (a : Int) = a ∧ band .i64 p.Tcp.Flags (c : Int) = 0) := by
  unfold pp TM.holds
  rw [decide_eq_true hb]
  rfl
 rw [e]
 refine WP.ite (fun h4 => WP.ret ⟨(decide_eq_false (fun h' => h4 h'.1)).symm, s⟩) (fun h4 => ?_)
 have h4 := Decidable.not_not.1 h4
 have e2 : decide (p.L4 = 3 ∧ band .i64 p.Tcp.Flags (a : Int) = a ∧ band .i64 p.Tcp.Flags (c : Int) = 0) = Zuu p.Tcp.Flags a c := by
  rw [Zut _ a8 c8']
  exact decide_eq_decide.2 ⟨fun h' => h'.2, fun h' => ⟨h4, h'⟩⟩
 rw [e2]
 unfold Zuu
 refine WP.loopG (γ := Nat) (fun k (x : Int) w => x = (k : Int) ∧ k ≤ 8 ∧ ((List.range k).all fun k => !((hasB (a : Int) k && decide (band .i64 p.Tcp.Flags (2 ^ k) ≠ 0) == false) || (hasB (c : Int) k && decide (band .i64 p.Tcp.Flags (2 ^ k) ≠ 0)))) = true ∧ Ss W Hs w) (fun k _ => 8 - k) 0 ⟨rfl, by omega, rfl, s⟩ ?_
 clear s
 rintro k _ w ⟨rfl, hk, hall, s⟩
 show WP (Za7.L1 _ p (k : Int)) w _
 unfold Za7.L1
 refine WP.ite (fun hc2 => WP.draw' s (fun w s => WP.chk (by omega) ?_)) (fun hc2 => ?_)
 ·have hk2 : k < 8 := by omega
  have em : IntKind.wrap .i64 (1 * 2 ^ min (Int.toNat (k : Int)) 64) = 2 ^ k := Zvo ⟨k, hk2⟩
  rw [em, c7, c8, ha, hc]
  refine WP.step (Zsn a8 (by omega)) ?_
  rintro _ _ ⟨rfl, rfl⟩
  refine WP.step (R := fun y w' => y = (hasB (a : Int) k && decide (band .i64 p.Tcp.Flags (2 ^ k) ≠ 0) == false) ∧ w = w') (WP.ite (fun h' => WP.ret ⟨?_, rfl⟩) (fun h' => WP.ret ⟨?_, rfl⟩)) ?_
  ·rw [h']
   cases hq : (band .i64 p.Tcp.Flags (2 ^ k) != 0) with
   | true => rw [decide_eq_true (bne_iff_ne.1 hq)]; rfl
   | false => rw [decide_eq_false (fun h => by rw [bne_iff_ne.2 h] at hq; cases hq)]; rfl
  ·rw [Bool.eq_false_iff.2 h']
   rfl
  rintro _ _ ⟨rfl, rfl⟩
  refine WP.step (R := fun y w' => y = ((hasB (a : Int) k && decide (band .i64 p.Tcp.Flags (2 ^ k) ≠ 0) == false) || (hasB (c : Int) k && decide (band .i64 p.Tcp.Flags (2 ^ k) ≠ 0))) ∧ w = w') (WP.ite (fun h' => WP.ret ⟨?_, rfl⟩) (fun h' => WP.step (Zsn c8' (by omega)) ?_)) ?_
  ·rw [h']
   rfl
  ·rintro _ _ ⟨rfl, rfl⟩
   refine WP.step (R := fun y w' => y = (hasB (c : Int) k && decide (band .i64 p.Tcp.Flags (2 ^ k) ≠ 0)) ∧ w = w') (WP.ite (fun h' => WP.ret ⟨?_, rfl⟩) (fun h' => WP.ret ⟨?_, rfl⟩)) ?_
   ·rw [h']
    cases hq : (band .i64 p.Tcp.Flags (2 ^ k) != 0) with
    | true => rw [decide_eq_true (bne_iff_ne.1 hq)]; rfl
    | false => rw [decide_eq_false (fun h => by rw [bne_iff_ne.2 h] at hq; cases hq)]; rfl
   ·rw [Bool.eq_false_iff.2 h']
    rfl
   rintro _ _ ⟨rfl, rfl⟩
   refine WP.ret ⟨?_, rfl⟩
   rw [Bool.eq_false_iff.2 h', Bool.false_or]
  rintro _ _ ⟨rfl, rfl⟩
  refine WP.ite (fun h' => WP.done ⟨?_, s⟩) (fun h' => WP.next ⟨k + 1, ⟨?_, hk2, ?_, s⟩, by omega⟩)
  ·refine (Bool.eq_false_iff.2 (fun h3 => ?_)).symm
   have := List.all_eq_true.1 h3 k (List.mem_range.2 hk2)
   rw [h'] at this
   cases this
  ·rw [Zau (by omega) (by omega)]
   simp
  ·rw [List.range_succ, List.all_append, hall]
   simp only [List.all_cons, List.all_nil, Bool.and_true, Bool.true_and]
   rw [Bool.eq_false_iff.2 h']
   rfl
 ·have hk2 : k = 8 := by omega
  subst hk2
  exact WP.done ⟨hall.symm, s⟩
end
theorem Ztl {m : Zbf} (h : ckM m = 0) : (0 ≤ m.Set ∧ m.Set ≤ 255) ∧ 0 ≤ m.Clear ∧ m.Clear ≤ 255 := by
 unfold ckM at h
 cases hf : ZrG m with
 | false =>
  rw [hf] at h
  cases h
 | true =>
  unfold ZrG inR at hf
  simp only [Bool.and_eq_true, decide_eq_true_eq] at hf
  omega
section
variable {W w : World} {Hs : List HP}
theorem Zv1 {port : Int} {vid : Option Int} (s : Ss W Hs w) (p : Zac) : WP (Zc2 p) w (fun y w' => y = TM.piece.holds port p vid ∧ Ss W Hs w') := by
 unfold Zc2 TM.holds
 refine WP.slot' s (fun _ w s => ?_)
 refine WP.step (R := fun y w' => y = decide (p.Kind = 2 ∧ (p.Ip4.MF = true ∨ p.Ip4.Off > 0)) ∧ Ss W Hs w') (WP.ite (fun h => WP.step (R := fun y w' => y = decide (p.Kind = 2 ∧ (p.Ip4.MF = true ∨ p.Ip4.Off > 0)) ∧ Ss W Hs w') (WP.ite (fun h2 => WP.ret ⟨(decide_eq_true ⟨h, .inl h2⟩).symm, s⟩) (fun h2 => WP.ret ⟨decide_eq_decide.2 ⟨fun h' => ⟨h, .inr h'⟩, fun h' => h'.2.elim (fun h' => absurd h' h2) id⟩, s⟩)) (fun y w h => WP.ret h)) (fun h => WP.ret ⟨(decide_eq_false (fun h' => h h'.1)).symm, s⟩)) ?_
 rintro _ w ⟨rfl, s⟩
 refine WP.step (R := fun y w' => y = decide ((p.Kind = 2 ∧ (p.Ip4.MF = true ∨ p.Ip4.Off > 0)) ∨ (p.Kind = 3 ∧ p.Ip6.Frag.Has = true)) ∧ Ss W Hs w') (WP.ite (fun h => WP.ret ⟨(decide_eq_true (.inl (of_decide_eq_true h))).symm, s⟩) (fun h => andW (r := p.Ip6.Frag.Has = true) Iff.rfl (WP.ret ⟨?_, s⟩))) (fun y w h => WP.ret h)
 exact decide_eq_decide.2 ⟨.inr, fun h' => h'.elim (fun h' => absurd (decide_eq_true h') h) id⟩
theorem ZuC {β : Type} {port : Int} {p : Zac} {vid : Option Int} {c : Prop} [Decidable c] {t : TM} {X : M Bool} {f : Bool → M β} {Q : β → World → Prop} (s : Ss W Hs w) (hX : WP X w (fun y w' => y = (!t.holds port p vid) ∧ Ss W Hs w')) (k : ∀ w, Ss W Hs w → WP (f (!pp port p vid c t)) w Q) : WP ((if c then X else pure false) >>= f) w Q := by
 refine WP.step (R := fun y w' => y = (!pp port p vid c t) ∧ Ss W Hs w') (WP.ite (fun h => hX.mono (fun y w h' => ⟨?_, h'.2⟩)) (fun h => WP.ret ⟨?_, s⟩)) ?_
 ·rw [h'.1]
  unfold pp
  rw [decide_eq_true h]
  rfl
 ·unfold pp
  rw [decide_eq_false h]
  rfl
 ·rintro _ w ⟨rfl, s⟩
  exact k w s
theorem ZrR {r : Zae} {m : Zbf} {port : Int} {p : Zac} {vid : Option Int} (s : Ss W Hs w) (rr : RdR Hs r m) (hc : ckM m = 0) (vr : VidR Hs p vid) (pb : PkB p) : WP (Zdf r port p) w (fun y w' => y = ZhI port p vid m ∧ Ss W Hs w') := by
 have sc := rr.sc
 obtain ⟨c1, c2, c3, c4, c5, c6, c7, c8, c9, c10⟩ := id sc
 have sm := Zow hc
 obtain ⟨bs, bc⟩ := Ztl hc
 have sm1 := sm.fn
 have sm2 := sm.fp
 have sm3 := sm.tn
 have sm4 := sm.tp
 have hm := ZsL port p vid m
 unfold Zdf
 rw [c3, c4, c5, c6, c9, c10]
 refine WP.slot' s (fun _ w s => WP.slot' s (fun _ w s => ZuC (t := .inn m.In) s (WP.ret ⟨?_, s⟩) (fun w s => gate s (fun h => by rw [hm, h]; rfl) (fun g1 => WP.draw' s (fun w s => ?_)))))
 ·show (port != _) = !(_ == port)
  rw [bne, BEq.comm]
 refine ZuC (t := .vid m.Vid) s (WP.step (R := fun y w' => y = (!TM.holds port p vid (.vid m.Vid)) ∧ Ss W Hs w') ?_ (fun y w h => WP.ret h)) (fun w s => gate s (fun h => by rw [hm, h, g1]; rfl) (fun g2 => ?_))
 ·cases vid with
  | none =>
   have h := vr.no rfl
   exact WP.ite (fun _ => WP.ret ⟨rfl, s⟩) (fun h' => absurd (by omega) h')
  | some x =>
   obtain ⟨hl, i, A, a, e, ha, H⟩ := vr.some_ x rfl
   refine WP.ite (fun h' => by omega) (fun _ => ?_)
   refine WP.idxs (a := a) (n := p.Tags.len) (k := p.Tags.cap) (by rw [← ha]) (by omega) (by omega) ?_
   refine WP.ldh s i e H ?_ (WP.ret ⟨rfl, s⟩)
   rw [ZeN]
   rfl
 refine ZuC (t := .kind m.Kind) s (WP.ret ⟨rfl, s⟩) (fun w s => gate s (fun h => by rw [hm, h, g1, g2]; rfl) (fun g3 => ?_))
 refine WP.step (R := fun y w' => y = (decide (m.Proto ≠ 0) && !decide (p.Kind = 2 ∧ p.Ip4.Proto = m.Proto)) ∧ Ss W Hs w') (WP.ite (fun h => andW (r := p.Ip4.Proto = m.Proto) beq_iff_eq (WP.ret ⟨?_, s⟩)) (fun h => WP.ret ⟨?_, s⟩)) ?_
 ·rw [decide_eq_true h]
  rfl
 ·rw [decide_eq_false h]
  rfl
 rintro _ w ⟨rfl, s⟩
 refine WP.step (R := fun y w' => y = (!pp port p vid (m.Proto ≠ 0) (.proto m.Proto)) ∧ Ss W Hs w') (WP.ite (fun h => andW (r := p.Ip6.Next = m.Proto) beq_iff_eq (WP.ret ⟨?_, s⟩)) (fun h => WP.ret ⟨?_, s⟩)) ?_
 ·show _ = !(!decide (m.Proto ≠ 0) || decide ((p.Kind = 2 ∧ p.Ip4.Proto = m.Proto) ∨ (p.Kind = 3 ∧ p.Ip6.Next = m.Proto)))
  rw [Bool.and_eq_true, Bool.not_eq_true', decide_eq_false_iff_not] at h
  rw [h.1]
  show _ = !decide _
  congr 1
  exact decide_eq_decide.2 ⟨.inr, fun h' => h'.elim (fun h' => absurd h' h.2) id⟩
 ·show _ = !(!decide (m.Proto ≠ 0) || decide ((p.Kind = 2 ∧ p.Ip4.Proto = m.Proto) ∨ (p.Kind = 3 ∧ p.Ip6.Next = m.Proto)))
  by_cases h1 : m.Proto ≠ 0
  ·rw [decide_eq_true h1] at h ⊢
   have : p.Kind = 2 ∧ p.Ip4.Proto = m.Proto := Decidable.byContradiction fun h' => h (by rw [decide_eq_false h']; rfl)
   rw [decide_eq_true (Or.inl this)]
   rfl
  ·rw [decide_eq_false h1]
   rfl
 rintro _ w ⟨rfl, s⟩
 refine gate s (fun h => by rw [hm, h, g1, g2, g3]; rfl) (fun g4 => ?_)
 refine WP.step (ZvD s p) ?_
 rintro _ w ⟨rfl, s⟩
 refine WP.slot' s (fun _ w s => WP.slot' s (fun _ w s => WP.step (Zsg s p) ?_))
 rintro _ w ⟨rfl, s⟩
 refine WP.step (ZsP (port := port) (vid := vid) (to := false) s rr.from_ pb rfl (by omega)) ?_
 rintro _ w ⟨rfl, s⟩
 refine orN1 s (ZsP (port := port) (vid := vid) (to := true) s rr.to_ pb (ZuR p).symm (by omega)) (fun w s => ?_)
 refine orN2 s (Zs6 (port := port) (vid := vid) (to := false) s rr.from_ rfl (by omega)) (fun w s => ?_)
 refine orN2 s (Zs6 (port := port) (vid := vid) (to := true) s rr.to_ (Zt8 p).symm (by omega)) (fun w s => ?_)
 refine orN2 s (Zsi (port := port) (vid := vid) s sc bs bc) (fun w s => ?_)
 refine gate s (fun h => ?_) (fun g5 => ?_)
 ·rw [hm, g1, g2, g3, g4]
  simp only [Bool.true_and, Bool.and_true] at h ⊢
  rw [Bool.eq_false_iff] at h ⊢
  intro h'
  simp only [Bool.and_eq_true] at h'
  refine h ?_
  simp only [Bool.and_eq_true]
  exact ⟨⟨⟨⟨h'.1.1.1.1.1.1, h'.1.1.1.1.2⟩, h'.1.1.1.1.1.2⟩, h'.1.1.1.2⟩, h'.1.1.2⟩
 simp only [Bool.and_eq_true] at g5
 obtain ⟨⟨⟨⟨q1, q2⟩, q3⟩, q4⟩, q5⟩ := g5
 refine ZuC (t := .typ m.Type_) s (andW (r := p.Icmp.Type_ = IntKind.wrap .i64 (m.Type_ - 1)) beq_iff_eq (WP.ret ⟨rfl, s⟩)) (fun w s => gate s (fun h => by rw [hm, h, g1, g2, g3, g4, q1, q2, q3, q4, q5]; rfl) (fun g6 => ?_))
 refine WP.step (R := fun y w' => y = pp port p vid (m.Pieces = true) .piece ∧ Ss W Hs w') (WP.ite (fun h => WP.ret ⟨?_, s⟩) (fun h => WP.step (Zv1 (port := port) (vid := vid) s p) ?_)) ?_
 ·unfold pp
  rw [decide_eq_false h]
  rfl
 ·rintro _ w ⟨rfl, s⟩
  refine WP.ret ⟨?_, s⟩
  unfold pp
  rw [decide_eq_true (Decidable.not_not.1 h)]
  rfl
 rintro _ w ⟨rfl, s⟩
 refine WP.ret ⟨?_, s⟩
 rw [hm, g1, g2, g3, g4, q1, q2, q3, q4, q5, g6]
 rfl
theorem Zsp {A : HP} {sl : Sl} {xs : List Zae} {ms : List Zbf} {port : Int} {p : Zac} {vid : Option Int} (s : Ss W Hs w) (i : Nat) (e : nth Hs i = some A) (r : Rdb A Zak sl xs) (hr : RdL Hs xs ms) (hc : ∀ m ∈ ms, ckM m = 0) (hl : ms.length ≤ 9000000000000000000) (vr : VidR Hs p vid) (pb : PkB p) :
  WP (Za8 sl port p) w (fun y w' => y = ZnU port p vid ms ∧ Ss W Hs w') := by
 have len := (s.rd_len e r).1
 have lx := hr.len
 unfold Za8 ZnU
 refine WP.slot' s (fun _ w s => WP.slot' s (fun _ w s => ?_))
 refine WP.loopG (γ := Nat) (fun k (x : Int × Za2) w => x.1 = (k : Int) ∧ k ≤ ms.length ∧ ZiP port p vid 0 ms = ZiP port p vid k (ms.drop k) ∧ Ss W Hs w) (fun k _ => ms.length - k) 0 ⟨rfl, Nat.zero_le _, rfl, s⟩ ?_
 clear s
 rintro k ⟨x1, x2⟩ w ⟨h1, hk, hF, s⟩
 dsimp only at h1
 subst h1
 show WP (Za8.L1 sl port p (k : Int) x2) w _
 unfold Za8.L1
 refine WP.ite (fun hcc => WP.draw' s (fun w s => ?_)) (fun hcc => ?_)
 ·have hm := List.getElem?_eq_getElem (show k < ms.length by omega)
  have hx := List.getElem?_eq_getElem (show k < xs.length by omega)
  generalize ms[k]'(show k < ms.length by omega) = m at hm
  generalize xs[k]'(show k < xs.length by omega) = x at hx
  have hxi : xs[Int.toNat (k : Int)]? = some x := by rw [Int.toNat_natCast]; exact hx
  have rr := hr.at_ k x m hx hm
  rw [ZmH hm] at hF
  refine WP.rdx s i e r (by omega) hxi rfl (WP.step (ZrR s rr (hc m (List.mem_of_getElem? hm)) vr pb) ?_)
  rintro _ w ⟨rfl, s⟩
  refine WP.ite (fun h => WP.draw' s (fun w s => ?_)) (fun h => ?_)
  ·refine WP.rdxp0 s i e r (by omega) hxi rfl (Zcq _) (WP.rdxp s i e r (by omega) hxi rfl (Zdj _) (WP.done ⟨?_, s⟩))
   rw [hF, if_pos h, rr.sc.1, rr.sc.2.1]
  ·rw [if_neg h] at hF
   refine WP.next ⟨k + 1, ⟨?_, by omega, hF, s⟩, by omega⟩
   show IntKind.wrap .i64 ((k : Int) + 1) = _
   rw [Zau (by omega) (by omega)]
   simp
 ·have hk2 : k = ms.length := by omega
  rw [hk2, List.drop_length] at hF
  exact WP.done ⟨by rw [hF]; rfl, s⟩
end
def RlsF (ys : List Zae) (ms : List Zbf) : HP := fun h => ys.length = ms.length ∧ ∀ (i : Nat) (m : Zbf) (x : Zae), ms[i]? = some m → ys[i]? = some x → RlH m x h
theorem RlsF.up {ys : List Zae} {ms : List Zbf} : Upw (RlsF ys ms) := Upw.tt.and (Upw.all fun i => Upw.all fun m => Upw.all fun x => Upw.imp (Upw.imp RlH.up))
theorem RlsF.nil {h : PH} : RlsF [] [] h := ⟨rfl, fun i m x h => by cases h⟩
theorem RlsF.snoc {ys : List Zae} {ms : List Zbf} {x : Zae} {m : Zbf} {h : PH} (a : RlsF ys ms h) (b : RlH m x h) : RlsF (ys ++ [x]) (ms ++ [m]) h := by
 have hl := a.1
 refine ⟨by simp [hl], fun i m' x' h1 h2 => ?_⟩
 rcases Ze6 h1 with ⟨i1, h1⟩ | ⟨i1, rfl⟩
 ·rcases Ze6 h2 with ⟨i2, h2⟩ | ⟨i2, -⟩
  ·exact a.2 i m' x' h1 h2
  ·omega
 ·rcases Ze6 h2 with ⟨i2, -⟩ | ⟨-, rfl⟩
  ·omega
  ·exact b
theorem RlsF.rd {L : List HP} {ys : List Zae} {ms : List Zbf} {i : Nat} (e : nth L i = some (RlsF ys ms)) {W w : World} (s : Ss W L w) (hb : ∀ m ∈ ms, BytR m) : RdL L ys ms := by
 obtain ⟨h0, hh0⟩ := s.has e
 refine ⟨hh0.1, fun j x m hx hm => ?_⟩
 obtain ⟨⟨sc, f, t⟩, -⟩ := hh0.2 j m x hm hx
 have b := hb m (List.mem_of_getElem? hm)
 exact ⟨sc, ⟨f, b.1, ⟨i, _, e, fun h hh => ZbD h (hh.2 j m x hm hx).2.1⟩, ⟨i, _, e, fun h hh => ZbD h (hh.2 j m x hm hx).2.2.1⟩⟩, ⟨t, b.2, ⟨i, _, e, fun h hh => ZbD h (hh.2 j m x hm hx).2.2.2.1⟩, ⟨i, _, e, fun h hh => ZbD h (hh.2 j m x hm hx).2.2.2.2⟩⟩⟩
section
variable {W w : World} {Hs : List HP}
theorem Zsq {x : Zae} {m : Zbf} (s : Ss W Hs w) (r : RdR Hs x m) (b : BndR m) : WP (ZdQ x) w (fun y w' => Ss W (RlH m y :: Hs) w') := by
 obtain ⟨⟨c1, c2, c3, c4, c5, c6, c7, c8, c9, c10⟩, f, t⟩ := r
 unfold ZdQ
 refine WP.slot' s (fun _ w s => WP.slot' s (fun _ w s => WP.step (ZlK s f b.1) ?_))
 rintro _ w ⟨sn, sp, un, up, rfl, s⟩
 refine WP.step (ZlK s t.push.push b.2) ?_
 rintro _ w ⟨sn2, sp2, un2, up2, rfl, s⟩
 refine WP.ret ?_
 refine Ss.frz1 (Ss.group (l := [_, _, _, _]) s) (fun h hs => ?_)
 obtain ⟨h1, k1, l1, m1, a1, hs⟩ := Zki hs
 obtain ⟨h2, k2, l2, m2, a2, hs⟩ := Zki hs
 obtain ⟨h3, k3, l3, m3, a3, hs⟩ := Zki hs
 obtain ⟨h4, l4, a4⟩ := Zsf hs
 exact ⟨⟨⟨c1, c2, c3, c4, c5, c6, c7, c8, c9, c10⟩, rfl, rfl⟩, Ze5 (Zfd ((l3.trans m2).trans m1)) (Zek a3), Ze5 (Zfd (((l4.trans m3).trans m2).trans m1)) (Zek a4), Ze5 (Zfd l1) (Zek a1), Ze5 (Zfd (l2.trans m1)) (Zek a2)⟩
theorem Zqt {A : HP} {sl : Sl} {xs : List Zae} {ms : List Zbf} (s : Ss W Hs w) (i : Nat) (e : nth Hs i = some A) (r : Rdb A Zak sl xs) (hr : RdL Hs xs ms) (hb : ∀ m ∈ ms, BndR m) (hl : ms.length * 192 ≤ reachBytes) :
  WP (ZaU sl) w (fun y w' => ∃ ys sp, Ss W (RlsF ys ms :: vec Zak y ys sp :: Hs) w') := by
 have hrb : reachBytes = 140737488351232 := rfl
 have len := (s.rd_len e r).1
 have lx := hr.len
 have s := s.mk0 (A := vec Zak Sl.nil [] []) Zdc
 have s := s.mk0 (A := RlsF [] []) RlsF.nil
 unfold ZaU
 refine WP.loopG (γ := Nat × List Zae × List Zae) (fun g (x : Sl × Int) w => x.2 = (g.1 : Int) ∧ g.1 ≤ ms.length ∧ g.2.1.length = g.1 ∧ Ss W (RlsF g.2.1 (ms.take g.1) :: vec Zak x.1 g.2.1 g.2.2 :: Hs) w) (fun g _ => ms.length - g.1) (0, [], []) ⟨rfl, Nat.zero_le _, rfl, s⟩ ?_
 clear s
 rintro ⟨k, ys, sp⟩ ⟨y, _⟩ w ⟨h1, hk, hy, s⟩
 dsimp only at h1 hk hy s
 subst h1
 show WP (ZaU.L1 sl y (k : Int)) w _
 unfold ZaU.L1
 refine WP.ite (fun hc => ?_) (fun hc => ?_)
 ·have hm := List.getElem?_eq_getElem (show k < ms.length by omega)
  have hx := List.getElem?_eq_getElem (show k < xs.length by omega)
  generalize ms[k]'(show k < ms.length by omega) = m at hm
  generalize xs[k]'(show k < xs.length by omega) = x at hx
  have ht : ms.take (k + 1) = ms.take k ++ [m] := by
   rw [List.take_add_one, hm]
   rfl
  refine WP.rdx s (i + 2) e r (by omega) (x := x) (by rw [Int.toNat_natCast]; exact hx) rfl (WP.step (Zsq s (hr.at_ k x m hx hm).push.push (hb m (List.mem_of_getElem? hm))) (fun z w s => WP.slot' s (fun _ w s => ?_)))
  refine WP.appl s 2 rfl (by rw [hy, List.length_singleton]; omega) (by decide) (fun y2 w sp2 s => ?_)
  have s : Ss W (RlH m z :: RlsF ys (ms.take k) :: vec Zak y2 (ys ++ [z]) sp2 :: Hs) w := s
  have s := Ss.merge s (C := RlsF (ys ++ [z]) (ms.take k ++ [m])) (fun h1 h2 h l1 l2 a1 a2 => (RlsF.up _ _ l2 a2).snoc (RlH.up _ _ l1 a1))
  refine WP.next ⟨(k + 1, ys ++ [z], sp2), ⟨?_, by dsimp only; omega, by simp [hy], by rw [ht]; exact s⟩, by dsimp only; omega⟩
  show IntKind.wrap .i64 ((k : Int) + 1) = _
  rw [Zau (by omega) (by omega)]
  simp
 ·have hk2 : k = ms.length := by omega
  rw [hk2, List.take_length] at s
  exact WP.done ⟨ys, sp, s⟩
end
theorem ZoZ {W w : World} {Hs : List HP} (s : Ss W Hs w) (b : Int) {n : Int} (h0 : 0 < n) (h1 : n ≤ 9000000000000000000) : WP (Zc9 b n) w (fun y w' => (0 ≤ y ∧ y < n) ∧ Ss W Hs w') := by
 unfold Zc9
 have ha := Int.natAbs_tmod b n
 have hlt : (Int.tmod b n).natAbs < n.natAbs := by
  rw [ha]
  exact Nat.mod_lt _ (by omega)
 refine WP.chk (by omega) (WP.ite (fun h => WP.ret ⟨?_, s⟩) (fun h => WP.ret ⟨by omega, s⟩))
 rw [Zau (by omega) (by omega)]
 omega
theorem Zez.set {xs : List ZcK} {es : List ExtC} {h : PH} (a : Zez xs es h) {j : Nat} {x : ZcK} {e : ExtC} (hx : xs[j]? = some x) (he : es[j]? = some e) (b : Int) : Zez (xs.set j { x with Kind := b }) (es.set j { e with kind := b }) h := by
 refine ⟨by simp [a.1], fun i x' e' h1 h2 => ?_⟩
 have hj := (List.getElem?_eq_some_iff.1 hx).1
 have hj2 := (List.getElem?_eq_some_iff.1 he).1
 by_cases hi : i = j
 ·subst hi
  rw [List.getElem?_set_self hj] at h1
  rw [List.getElem?_set_self hj2] at h2
  cases h1
  cases h2
  exact a.2 i x e hx he
 ·rw [List.getElem?_set_ne (fun h => hi h.symm)] at h1 h2
  exact a.2 i x' e' h1 h2
def Znm (W : World) (Base : List HP) (y : Zac) (w : World) : Prop := ∃ (k : PkC) (o : OwnX), o.xs.map (fun x => x.Kind) = k.exts.map (fun e => e.kind) ∧ PkL k ∧ Ss W (OwnP y k o ++ Base) w
section
variable {W w : World} {Base : List HP}
theorem Zuy {es : List ExtC} {j : Nat} {e : ExtC} (he : es[j]? = some e) (b : Int) (h : ∀ e ∈ es, e.data.length ≤ reachBytes ∧ e.opts.length * 32 ≤ reachBytes ∧ ∀ o ∈ e.opts, o.data.length ≤ reachBytes) : ∀ x ∈ es.set j { e with kind := b }, x.data.length ≤ reachBytes ∧ x.opts.length * 32 ≤ reachBytes ∧ ∀ o ∈ x.opts, o.data.length ≤ reachBytes := by
 intro x hx
 rcases List.mem_or_eq_of_mem_set hx with hx | rfl
 ·exact h x hx
 ·exact h e (List.mem_of_getElem? he)
theorem Zq4 {N : Int → World → Prop} {D : Bool → World → Prop} {y : Zac} {u : Sl} {bs : List Int} {i : Nat} {t : Nat} (e : nth Base t = some (rdS (cI .i64) false u bs)) (hi : i < bs.length) (c : Znm W Base y w)
  (hN : ∀ w, Znm W Base y w → N (IntKind.wrap .i64 ((i : Int) + 1)) w) : WP (Zaa.K1 u y (i : Int)) w (WP.Rd N D) := by
 have hb := List.getElem?_eq_getElem hi
 generalize bs[i] = b at hb
 have hbi : bs[Int.toNat (i : Int)]? = some b := by rw [Int.toNat_natCast]; exact hb
 unfold Zaa.K1
 refine WP.loopG (γ := Nat) (fun j (x : Int) w => x = (j : Int) ∧ j ≤ y.Ip6.Exts.len ∧ Znm W Base y w) (fun j _ => y.Ip6.Exts.len - j) 0 ⟨rfl, Nat.zero_le _, c⟩ ?_
 clear c
 rintro j _ w ⟨rfl, hj, k, o, hk, bd, s⟩
 have lx := (s.vec_len (i := 3) rfl).1
 obtain ⟨h0, hh0⟩ := s.has (i := 4) rfl
 have le := hh0.1
 have hr : reachBytes = 140737488351232 := rfl
 have be := bd.ex.1
 show WP (Zaa.L2 u y (i : Int) (j : Int)) w _
 unfold Zaa.L2
 refine WP.ite (fun hc => WP.draw' s (fun w s => WP.rdx s (t + 10) e ZbD (by omega) hbi rfl ?_)) (fun hc => WP.done (hN w ⟨k, o, hk, bd, s⟩))
 have hx := List.getElem?_eq_getElem (show j < o.xs.length by omega)
 have he := List.getElem?_eq_getElem (show j < k.exts.length by omega)
 generalize o.xs[j]'(show j < o.xs.length by omega) = x at hx
 generalize k.exts[j]'(show j < k.exts.length by omega) = ec at he
 refine WP.stxp0 s 3 rfl (by omega) (x := x) (by rw [Int.toNat_natCast]; exact hx) rfl (Zi2 x b) (fun w s => ?_)
 have s := s.close (i := 4) rfl (B := Zez (o.xs.set j { x with Kind := b }) (k.exts.set j { ec with kind := b })) (fun h hh => Zez.set hh hx he b)
 refine WP.next ⟨j + 1, ⟨?_, by omega, { k with exts := k.exts.set j { ec with kind := b } }, { o with xs := o.xs.set j { x with Kind := b } }, ?_, ?_, ?_⟩, by omega⟩
 ·rw [Zau (by omega) (by omega)]
  simp
 ·rw [List.map_set, List.map_set, hk]
 ·exact ⟨bd.tags, bd.o4, bd.d4, ⟨by rw [List.length_set]; exact bd.ex.1, Zuy he b bd.ex.2⟩, bd.d6, bd.di, bd.du, bd.oT, bd.dT⟩
 ·rw [Int.toNat_natCast] at s
  exact s
theorem Zq3 {N : Int → World → Prop} {D : Bool → World → Prop} {y : Zac} {u : Sl} {bs : List Int} {i : Nat} {t : Nat} (e : nth Base t = some (rdS (cI .i64) false u bs)) (hi : i < bs.length) (c : Znm W Base y w)
  (hN : ∀ w, Znm W Base y w → N (IntKind.wrap .i64 ((i : Int) + 1)) w) : WP (Zaa.K2 u y (i : Int)) w (WP.Rd N D) := by
 have hb := List.getElem?_eq_getElem hi
 generalize bs[i] = b at hb
 have hbi : bs[Int.toNat (i : Int)]? = some b := by rw [Int.toNat_natCast]; exact hb
 obtain ⟨k, o, hk, bd, s⟩ := c
 have l6 := (s.vec_len (i := 5) rfl).1
 have hr : reachBytes = 140737488351232 := rfl
 have b6 := bd.d6
 unfold Zaa.K2
 refine WP.ite (fun hc => WP.draw' s (fun w s => ?_)) (fun hc => Zq4 e hi ⟨k, o, hk, bd, s⟩ hN)
 refine WP.rdx s (t + 10) e ZbD (by omega) hbi rfl (WP.idxr s (t + 10) e ZbD (by omega) hbi rfl (fun a ha => WP.ldr s (t + 10) e ZbD hb ha (by rfl) ?_))
 refine WP.step (ZoZ s b (n := (y.Ip6.Data.len : Int)) (by omega) (by omega)) ?_
 rintro r w ⟨⟨r0, r1⟩, s⟩
 refine WP.samer s (t + 10) e ZbD hb ha (by rfl) ?_
 refine WP.stx s 5 rfl r0 (by omega) rfl (fun w s => ?_)
 exact Zq4 e hi ⟨{ k with d6 := k.d6.set (Int.toNat r) (IntKind.wrap .u8 b) }, o, hk, ⟨bd.tags, bd.o4, bd.d4, bd.ex, by rw [List.length_set]; exact bd.d6, bd.di, bd.du, bd.oT, bd.dT⟩, s⟩ hN
theorem ZuI {N : Int → World → Prop} {D : Bool → World → Prop} {y : Zac} {u : Sl} {bs : List Int} {i : Nat} {t : Nat} (e : nth Base t = some (rdS (cI .i64) false u bs)) (hi : i < bs.length) (c : Znm W Base y w)
  (hN : ∀ w, Znm W Base y w → N (IntKind.wrap .i64 ((i : Int) + 1)) w) : WP (Zaa.K3 u y (i : Int)) w (WP.Rd N D) := by
 have hb := List.getElem?_eq_getElem hi
 generalize bs[i] = b at hb
 have hbi : bs[Int.toNat (i : Int)]? = some b := by rw [Int.toNat_natCast]; exact hb
 obtain ⟨k, o, hk, bd, s⟩ := c
 have l4 := (s.vec_len (i := 2) rfl).1
 have hr : reachBytes = 140737488351232 := rfl
 have b4 := bd.d4
 unfold Zaa.K3
 refine WP.ite (fun hc => WP.draw' s (fun w s => ?_)) (fun hc => Zq3 e hi ⟨k, o, hk, bd, s⟩ hN)
 refine WP.rdx s (t + 10) e ZbD (by omega) hbi rfl (WP.idxr s (t + 10) e ZbD (by omega) hbi rfl (fun a ha => WP.ldr s (t + 10) e ZbD hb ha (by rfl) ?_))
 refine WP.step (ZoZ s b (n := (y.Ip4.Data.len : Int)) (by omega) (by omega)) ?_
 rintro r w ⟨⟨r0, r1⟩, s⟩
 refine WP.samer s (t + 10) e ZbD hb ha (by rfl) ?_
 refine WP.stx s 2 rfl r0 (by omega) rfl (fun w s => ?_)
 exact Zq3 e hi ⟨{ k with d4 := k.d4.set (Int.toNat r) (IntKind.wrap .u8 b) }, o, hk, ⟨bd.tags, bd.o4, by rw [List.length_set]; exact bd.d4, bd.ex, bd.d6, bd.di, bd.du, bd.oT, bd.dT⟩, s⟩ hN
theorem ZuH {N : Int → World → Prop} {D : Bool → World → Prop} {y : Zac} {u : Sl} {bs : List Int} {i : Nat} {t : Nat} (e : nth Base t = some (rdS (cI .i64) false u bs)) (hi : i < bs.length) (c : Znm W Base y w)
  (hN : ∀ w, Znm W Base y w → N (IntKind.wrap .i64 ((i : Int) + 1)) w) : WP (ZcI (fun s_ : Int => Zaa.L3 u y (i : Int) s_) 0) w (WP.Rd N D) := by
 have hb := List.getElem?_eq_getElem hi
 generalize hbe : bs[i] = b at hb
 have hbi : bs[Int.toNat (i : Int)]? = some b := by rw [Int.toNat_natCast]; exact hb
 refine WP.loopG (γ := Nat) (fun j (x : Int) w => x = (j : Int) ∧ j ≤ y.Tags.len ∧ Znm W Base y w) (fun j _ => y.Tags.len - j) 0 ⟨rfl, Nat.zero_le _, c⟩ ?_
 clear c
 rintro j _ w ⟨rfl, hj, k, o, hk, bd, s⟩
 have lx := (s.vec_len (i := 0) rfl).1
 have hr : reachBytes = 140737488351232 := rfl
 have bt := bd.tags
 show WP (Zaa.L3 u y (i : Int) (j : Int)) w _
 unfold Zaa.L3
 refine WP.ite (fun hc => WP.draw' s (fun w s => WP.rdx s (t + 10) e ZbD (by omega) hbi rfl ?_)) (fun hc => WP.step (ZuI (N := N) (D := D) e hi ⟨k, o, hk, bd, s⟩ hN) (fun y w h => WP.done h))
 have hx := List.getElem?_eq_getElem (show j < k.tags.length by omega)
 generalize k.tags[j]'(show j < k.tags.length by omega) = x at hx
 refine WP.stxp s 0 rfl (by omega) (x := x) (by rw [Int.toNat_natCast]; exact hx) rfl (Znw x b) (fun w s => ?_)
 refine WP.next ⟨j + 1, ⟨?_, by omega, { k with tags := k.tags.set j { x with VID := b } }, o, hk, ?_, ?_⟩, by omega⟩
 ·rw [Zau (by omega) (by omega)]
  simp
 ·exact ⟨by rw [List.length_set]; exact bd.tags, bd.o4, bd.d4, bd.ex, bd.d6, bd.di, bd.du, bd.oT, bd.dT⟩
 ·rw [Int.toNat_natCast] at s
  exact s
end
section
variable {W w : World} {Hs : List HP}
theorem ZpD {u v : Sl} {xs : List Zae} {ms : List Zbf} {bs : List Int} {port : Int} {p : Zac} {k0 : PkC} (s : Ss W Hs w) (T : RTab Hs) (i : Nat) (e : nth Hs i = some (rdS Zak false u xs)) (j : Nat) (e2 : nth Hs j = some (rdS (cI .i64) false v bs))
  (r1 : RdL Hs xs ms) (hb : ∀ m ∈ ms, BndR m) (hl : ms.length * 192 ≤ reachBytes) (hbs : bs.length * 8 ≤ reachBytes) (pr : PkR Hs p k0) (pl : PkL k0) (pb : PkB p) :
  WP (Zaa u port p v) w (fun y w' => y = true ∧ ∃ L, Ss W L w') := by
 have hrb : reachBytes = 140737488351232 := rfl
 have n1 := (s.rd_len e ZbD).1
 have n2 := (s.rd_len e2 ZbD).1
 unfold Zaa
 refine WP.slot' s (fun _ w s => WP.step (Zqt s i e ZbD r1 hb hl) ?_)
 rintro r2 w ⟨ys, sp, s⟩
 have rd2 := RlsF.rd (i := 0) rfl s r1.byt
 refine WP.step (ZvZ s 1 rfl Zc3 rd2) ?_
 rintro r3 w ⟨f3, s⟩
 have s : Ss W (SetQ r3 ms :: Hs) w := Ss.drop (Ss.drop (s.use [1, 1] rfl))
 refine numW (WP.ite (fun h => ZuW s T.push (fun w s => WP.ret ⟨rfl, _, s⟩)) (fun h => ?_))
 obtain ⟨o3, b, rfl⟩ := f3.ok h
 have s : Ss W (SetH (pt b 0) ms :: Hs) w := s
 have m256 := (ZmB o3).1
 have fin := Zuw r1 o3
 refine WP.ite (fun h => by cases h) (fun _ => WP.step (Zn9 s pr.push pl) ?_)
 rintro y w ⟨o, hk, ps, s⟩
 have pby := ps.byt pb
 refine WP.slot' s (fun _ w s => ?_)
 refine WP.loopG (γ := Nat) (fun i (x : Int) w => x = (i : Int) ∧ i ≤ bs.length + 1 ∧ Znm W (SetH (pt b 0) ms :: Hs) y w) (fun i _ => bs.length + 1 - i) 0 ⟨rfl, by omega, k0, o, hk, pl, s⟩ ?_
 clear s hk pl pr
 rintro q _ w ⟨rfl, hq, k, o, hk, bd, s⟩
 show WP (Zaa.L1 u port v (some (pt b 0), 0, 0) y (q : Int)) w _
 unfold Zaa.L1
 refine WP.ite (fun hc => ?_) (fun hc => ZuW s (T.push.pushL (OwnP y k o)) (fun w s => WP.done ⟨rfl, _, s⟩))
 have py : PkR (OwnP y k o ++ SetH (pt b 0) ms :: Hs) y k := OwnP.rd hk
 refine WP.step (Zn9 s py bd) ?_
 rintro z w ⟨o2, hk2, pz, s⟩
 have pz' := OwnP.rd (y := z) (Hs := OwnP y k o ++ SetH (pt b 0) ms :: Hs) hk2
 have py' := py.pushL (OwnP z k o2)
 refine WP.slot' s (fun _ w s => WP.step (ZuT (ms := ms) s 20 rfl (py'.vid s) pby fin (by omega)) ?_)
 rintro _ w ⟨rfl, s⟩
 have r1' : RdL (OwnP z k o2 ++ (OwnP y k o ++ SetH (pt b 0) ms :: Hs)) xs ms := (r1.push.pushL (OwnP y k o)).pushL (OwnP z k o2)
 refine WP.slot' s (fun _ w s => WP.draw' s (fun w s => WP.step (Zsp s (i + 21) e ZbD r1' (ZmB o3).2 (by omega) (pz'.vid s) (pz.byt pby)) ?_))
 rintro _ w ⟨rfl, s⟩
 refine orX (fun h => h (pz.judge port _ ms).symm) (ZtA s pz py' pz' bd) (fun w s => WP.ite (fun h => by cases h) (fun _ => ?_))
 have s := Ss.weak (l := OwnP z k o2) s
 refine WP.ite (fun hlt => ?_) (fun hlt => ?_)
 ·refine ZuH (t := j + 1) e2 (by omega) ⟨k, o, hk, bd, s⟩ (fun w c => ⟨q + 1, ⟨?_, by omega, c⟩, by omega⟩)
  rw [Zau (by omega) (by omega)]
  simp
 ·refine WP.next ⟨q + 1, ⟨?_, by omega, k, o, hk, bd, s⟩, by omega⟩
  rw [Zau (by omega) (by omega)]
  simp
end
end Go.Proofs.YtobemldccnnblaaGreatDoor.Lx
