
import Derived.Test.YtfgcobigollfjaaDoorAddrRefC
set_option linter.unusedVariables false
set_option linter.unusedSimpArgs false
namespace Go.Proofs.YtfgcobigollfjaaDoor.Lx
open Go Go.Proofs Go.RowKit
def endM (l : List Int) (st : S6) : Except Flt S6 := if st.gap < 0 ∧ st.gs.length ≠ 8 then .error (42, l.length) else .ok st
theorem Zj3 {l : List Int} {f : Nat} {op : Bool} {st : S6} (h : ¬ (st.at_ = l.length ∧ op = true)) : Zfn l (f + 1) op st = match Zd7 l st with
  | .error e => .error e
  | .ok (done, st1) => if done = true ∨ st1.at_ = l.length then endM l st1 else match betM l st1 with
   | .error e => .error e
   | .ok st2 => Zfn l f (decide (ZeU l st1.at_)) st2 := by
 conv => lhs; unfold Zfn
 rw [if_neg h]
 cases Zd7 l st with
 | error e => rfl
 | ok x =>
  obtain ⟨done, st1⟩ := x
  simp only
  split
  ·rfl
  ·unfold betM
   by_cases hd : ZeU l st1.at_
   ·cases hm : Zb8 l st1 with
    | error e => rfl
    | ok y =>
     obtain ⟨y, st2⟩ := y
     have hy : y = true := by
      unfold Zb8 at hm
      rw [if_neg (fun h => h hd)] at hm
      split at hm
      ·cases hm
      ·cases hm
       rfl
     subst hy
     rw [decide_eq_true hd]
     rfl
   ·have hm : Zb8 l st1 = .ok (false, st1) := by
     unfold Zb8
     rw [if_pos hd]
    rw [hm]
    simp only
    rw [if_neg (by decide), decide_eq_false hd]
    by_cases h58 : l.getD st1.at_ 0 ≠ 58
    ·rw [if_pos h58, if_neg (show ¬ false = true by decide), if_pos h58]
    ·rw [if_neg h58, if_neg (show ¬ false = true by decide), if_neg h58]
theorem Zm9 {l : List Int} {st st2 : S6} (ok : Ok6 l st) (hn : st.at_ ≠ l.length) (h : betM l st = .ok st2) : Ok6 l st2 ∧ st2.gs = st.gs ∧ st.at_ < st2.at_ := by
 unfold betM at h
 have ha := ok.a
 cases hd : Zb8 l st with
 | error e =>
  rw [hd] at h
  cases h
 | ok x =>
  obtain ⟨y, st'⟩ := x
  rw [hd] at h
  obtain ⟨m1, m2, m3⟩ := Zer ok hd
  simp only at h
  have hgs : st'.gs = st.gs := by
   unfold Zb8 at hd
   split at hd
   ·cases hd
    rfl
   ·split at hd
    ·cases hd
    ·cases hd
     rfl
  split at h
  ·rename_i hy
   cases h
   have := (m3 hy).1
   exact ⟨m1, hgs, by omega⟩
  ·rename_i hy
   have e2 := m2 (by simpa using hy)
   subst e2
   split at h
   ·cases h
   ·cases h
    exact ⟨⟨by show st'.at_ + 1 ≤ l.length; omega, m1.g, m1.p1, m1.p2, m1.p3, m1.v⟩, rfl, by show st'.at_ < st'.at_ + 1; omega⟩
theorem Zmi {l : List Int} {st : S6} {f : Flt} (ha : st.at_ ≤ l.length) (h : betM l st = .error f) : Bad l f := by
 unfold betM at h
 cases hd : Zb8 l st with
 | error e =>
  rw [hd] at h
  cases h
  exact Zfq ha hd
 | ok x =>
  obtain ⟨y, st'⟩ := x
  rw [hd] at h
  simp only at h
  split at h
  ·cases h
  ·rename_i hy
   split at h
   ·cases h
    have : st' = st := by
     unfold Zb8 at hd
     split at hd
     ·cases hd
      rfl
     ·split at hd
      ·cases hd
      ·cases hd
       exact absurd rfl hy
    subst this
    exact ⟨by simp, ha⟩
   ·cases h
theorem Zlb {l : List Int} {st st1 : S6} {y : Bool} (h : Zd7 l st = .ok (y, st1)) (hy : y = false) : st1.gs ≠ [] := by
 subst hy
 unfold Zd7 at h
 split at h
 ·cases h
 ·split at h
  ·split at h
   ·cases h
   ·cases hf : Ze8 l st.at_ with
    | error g =>
     rw [hf] at h
     cases h
    | ok x =>
     rw [hf] at h
     cases h
  ·split at h
   ·cases h
   ·split at h
    ·cases h
    ·cases h
     simp
def SixR (W : World) (Hs : List HP) (x : Except Flt S6) (r : Vec Int 16 × Int × Int) (w : World) : Prop :=
 match x with
 | .error f => r.2 = (f.1, (f.2 : Int)) ∧ Ss W Hs w
 | .ok st => r = (st.bytes, 0, 0) ∧ Ss W Hs w
def SixI (W : World) (Hs : List HP) (b : Nat) (t : ByteArray) (X : Except Flt S6) (g : Option (Nat × Bool × S6)) (y : Bool) (w : World) : Prop :=
 match g with
 | some (f, op, st) => y = false ∧ Ok6 (strI t) st ∧ (0 < st.at_ ↔ (st.gs ≠ [] ∨ st.gap ≥ 0)) ∧ t.size + 1 ≤ f + st.at_ ∧ ¬ (st.at_ = (strI t).length ∧ op = true) ∧ Zfn (strI t) f op st = X ∧ Ss W (R6P b t (live st) :: Hs) w
 | none => ∃ r : R6, (r.err = 0 → y = true ∧ ∃ st : S6, st.gs = r.gs ∧ st.gap = r.gap ∧ Ok6 (strI t) st ∧ X = endM (strI t) st) ∧ (r.err ≠ 0 → ∃ k : Nat, r.at_ = (k : Int) ∧ X = .error (r.err, k)) ∧ Ss W (R6P b t r :: Hs) w
section
variable {W w : World} {Hs : List HP}
theorem Znz {b : Nat} {t : ByteArray} {r : R6} {st : S6} (s : Ss W (R6P b t r :: Hs) w) (hgs : st.gs = r.gs) (hgap : st.gap = r.gap) (ok : Ok6 (strI t) st) : WP (ZbR (fun s_ : (Int × (Vec Int 16)) => Zao.L1 b s_.1 s_.2) (0, (Vec.rep 16 0))) w (fun x w' => x = (st.bytes, 0, 0) ∧ Ss W Hs w') := by
 have o1 := ok.g
 have o2 := ok.p1
 have o3 := ok.p2
 have o4 := ok.p3
 obtain ⟨gs, gap, p, e, a⟩ := r
 simp only at hgs hgap
 subst hgs hgap
 obtain ⟨g, sp, s⟩ := s.openR6
 have hl := (s.vec_len (i := 1) rfl).1
 rw [List.length_map] at hl
 refine WP.loopG (γ := Nat) (fun i (p' : Int × Vec Int 16) w => p'.1 = (i : Int) ∧ p'.2.l = two (st.words i) ∧ i ≤ st.gs.length ∧ Ss W (R6Hs b t g ⟨st.gs, st.gap, p, e, a⟩ sp ++ Hs) w) (fun i _ => st.gs.length - i) 0 ⟨rfl, rfl, Nat.zero_le _, s⟩ ?_
 clear s
 rintro i ⟨_, v⟩ w ⟨rfl, hv, hi, s⟩
 simp only at hv
 show WP (Zao.L1 b (i : Int) v) w _
 unfold Zao.L1
 have K1 : ∀ {w : World} (j : Nat), j = st.pos i → i < st.gs.length → Ss W (R6Hs b t g ⟨st.gs, st.gap, p, e, a⟩ sp ++ Hs) w → WP (Zao.K1 b (i : Int) v (j : Int)) w (WP.Rd (fun p' w => ∃ g' : Nat, (p'.1 = (g' : Int) ∧ p'.2.l = two (st.words g') ∧ g' ≤ st.gs.length ∧ Ss W (R6Hs b t g ⟨st.gs, st.gap, p, e, a⟩ sp ++ Hs) w) ∧ st.gs.length - g' < st.gs.length - i) (fun x w' => x = (st.bytes, 0, 0) ∧ Ss W Hs w')) := by
  intro w j hj hil s
  have hj8 : j < 8 := by
   rw [hj]
   unfold S6.pos
   split <;> omega
  unfold Zao.K1
  have e1 : IntKind.wrap .i64 (2 * (j : Int)) = ((2 * j : Nat) : Int) := by
   rw [ZaP (by omega) (by omega)]
   omega
  have e2 : IntKind.wrap .i64 (((2 * j : Nat) : Int) + 1) = ((2 * j + 1 : Nat) : Int) := by
   rw [ZaP (by omega) (by omega)]
   omega
  rw [e1, e2]
  have hx : (st.gs.getD i 0) < 65536 := by
   rw [List.getD, List.getElem?_eq_getElem hil]
   exact ok.v _ (List.getElem_mem _)
  have hxi : (st.gs.map fun n : Nat => (n : Int))[Int.toNat (i : Int)]? = some ((st.gs.getD i 0 : Nat) : Int) := by
   rw [Int.toNat_natCast, List.getElem?_map, List.getD, List.getElem?_eq_getElem hil]
   rfl
  refine WP.ld s 0 rfl (o := 1) rfl (Za5 _) ?_
  refine WP.rdxp0 s 1 rfl ZcG (by omega) (x := ((st.gs.getD i 0 : Nat) : Int)) (y := ((st.gs.getD i 0 : Nat) : Int)) hxi rfl (At.whole _) (WP.chk ⟨by omega, by omega⟩ ?_)
  refine WP.ld s 0 rfl (o := 1) rfl (Za5 _) ?_
  refine WP.rdxp0 s 1 rfl ZcG (by omega) (x := ((st.gs.getD i 0 : Nat) : Int)) (y := ((st.gs.getD i 0 : Nat) : Int)) hxi rfl (At.whole _) (WP.chk ⟨by omega, by omega⟩ ?_)
  have d1 : IntKind.wrap .u8 (IntKind.wrap .i64 (Int.tdiv ((st.gs.getD i 0 : Nat) : Int) 256)) = ((st.gs.getD i 0 / 256 : Nat) : Int) := by
   rw [Int.tdiv_eq_ediv_of_nonneg (by omega), ZaP (by omega) (by omega), Zfg (by omega) (by omega)]
   omega
  have d2 : IntKind.wrap .u8 (Int.tmod ((st.gs.getD i 0 : Nat) : Int) 256) = ((st.gs.getD i 0 % 256 : Nat) : Int) := by
   rw [Int.tmod_eq_emod_of_nonneg (by omega), Zfg (by omega) (by omega)]
   omega
  rw [d1, d2]
  refine WP.next ⟨i + 1, ⟨?_, ?_, by omega, s⟩, by omega⟩
  ·show IntKind.wrap .i64 ((i : Int) + 1) = _
   rw [ZaP (by omega) (by omega)]
   omega
  ·show ((v.l.set _ _).set _ _) = _
   rw [hv, Int.toNat_natCast, Int.toNat_natCast, Zkw, hj]
   rfl
 refine WP.ld s 0 rfl (o := 1) rfl (Za5 _) ?_
 refine WP.ite (fun h => ?_) (fun h => WP.done ⟨?_, s.drop.drop⟩)
 ·have h : (i : Int) < (g.len : Int) := h
  have hl : g.len = st.gs.length := hl
  have hil : i < st.gs.length := by omega
  refine WP.ld s 0 rfl (o := 2) rfl (Zcn _) ?_
  refine WP.step (R := fun y w' => y = decide (st.gap ≥ 0 ∧ (i : Int) ≥ st.gap) ∧ w = w') (WP.ite (fun h => WP.ld s 0 rfl (o := 2) rfl (Zcn _) (WP.ret ⟨?_, rfl⟩)) (fun h => WP.ret ⟨?_, rfl⟩)) ?_
  ·show decide ((i : Int) ≥ st.gap) = _
   exact decide_eq_decide.2 ⟨fun h' => ⟨h, h'⟩, fun h' => h'.2⟩
  ·exact (decide_eq_false fun h' => h h'.1).symm
  rintro _ _ ⟨rfl, rfl⟩
  refine WP.ite (fun h => ?_) (fun h => ?_)
  ·have h := of_decide_eq_true h
   refine WP.ld s 0 rfl (o := 1) rfl (Za5 _) ?_
   have e1 : IntKind.wrap .i64 (IntKind.wrap .i64 (8 - (g.len : Int)) + (i : Int)) = ((i + (8 - st.gs.length) : Nat) : Int) := by
    rw [ZaP (n := 8 - _) (by omega) (by omega), ZaP (by omega) (by omega)]
    omega
   simp only
   rw [e1]
   exact K1 _ (by unfold S6.pos; rw [if_pos h]) hil s
  ·exact K1 _ (by unfold S6.pos; rw [if_neg (fun h' => h (decide_eq_true h'))]) hil s
 ·have h : ¬ (i : Int) < (g.len : Int) := h
  have hl : g.len = st.gs.length := hl
  have : i = st.gs.length := by omega
  subst this
  have : v = st.bytes := Vec.eq hv
  rw [this]
theorem Znq {b : Nat} {t : ByteArray} {X : Except Flt S6} {y : Bool} (s : SixI W Hs b t X none y w) : WP (Zao.K3 t b) w (SixR W Hs X) := by
 have hl := Zdb t
 obtain ⟨r, h1, h2, s⟩ := s
 have K2 : ∀ {r : R6} {w : World}, (r.err = 0 → ∃ st : S6, st.gs = r.gs ∧ st.gap = r.gap ∧ Ok6 (strI t) st ∧ X = .ok st) → (r.err ≠ 0 → ∃ k : Nat, r.at_ = (k : Int) ∧ X = .error (r.err, k)) → Ss W (R6P b t r :: Hs) w → WP (Zao.K2 b) w (SixR W Hs X) := by
  intro r w h1 h2 s
  unfold Zao.K2
  obtain ⟨g, sp, s⟩ := s.openR6
  refine WP.ld s 0 rfl (o := 4) rfl (ZbG _) (WP.ite (fun h => ?_) (fun h => ?_))
  ·have h : r.err ≠ 0 := h
   obtain ⟨k, k1, k2⟩ := h2 h
   refine WP.draw' s (fun w s => WP.ld s 0 rfl (o := 4) rfl (ZbG _) (WP.ld s 0 rfl (o := 5) rfl (ZdY _) (WP.same s 0 rfl (o := 5) rfl (ZdY _) (WP.same s 0 rfl (o := 4) rfl (ZbG _) (WP.ret ?_)))))
   rw [k2]
   refine ⟨?_, s.drop.drop⟩
   simp only
   rw [k1]
  ·have h : r.err = 0 := Decidable.not_not.1 h
   obtain ⟨st, e1, e2, e3, e4⟩ := h1 h
   rw [e4]
   exact Znz s.closeR6 e1 e2 e3
 unfold Zao.K3
 obtain ⟨g, sp, s⟩ := s.openR6
 have hgl := (s.vec_len (i := 1) rfl).1
 rw [List.length_map] at hgl
 have hgl : g.len = r.gs.length := hgl
 refine WP.ld s 0 rfl (o := 4) rfl (ZbG _) ?_
 refine WP.step (R := fun z w' => z = decide (r.err = 0 ∧ r.gap < 0) ∧ w = w') (WP.ite (fun h => WP.ld s 0 rfl (o := 2) rfl (Zcn _) (WP.ret ⟨?_, rfl⟩)) (fun h => WP.ret ⟨?_, rfl⟩)) ?_
 ·have h : r.err = 0 := h
  show decide (r.gap < 0) = _
  exact decide_eq_decide.2 ⟨fun h' => ⟨h, h'⟩, fun h' => h'.2⟩
 ·have h : ¬ r.err = 0 := h
  exact (decide_eq_false fun h' => h h'.1).symm
 rintro _ _ ⟨rfl, rfl⟩
 refine WP.step (R := fun z w' => z = decide (r.err = 0 ∧ r.gap < 0 ∧ r.gs.length < 8) ∧ w = w') (WP.ite (fun h => WP.ld s 0 rfl (o := 1) rfl (Za5 _) (WP.ret ⟨?_, rfl⟩)) (fun h => WP.ret ⟨?_, rfl⟩)) ?_
 ·have h := of_decide_eq_true h
  show decide ((g.len : Int) < 8) = _
  exact decide_eq_decide.2 ⟨fun h' => ⟨h.1, h.2, by omega⟩, fun h' => by omega⟩
 ·exact (decide_eq_false fun h' => h (decide_eq_true ⟨h'.1, h'.2.1⟩)).symm
 rintro _ _ ⟨rfl, rfl⟩
 refine WP.ite (fun h => ?_) (fun h => ?_)
 ·obtain ⟨e0, e1, e2⟩ := of_decide_eq_true h
  obtain ⟨_, st, f1, f2, f3, f4⟩ := h1 e0
  refine WP.step (ZeS s.closeR6 e0 _ _) (fun _ w s => K2 (fun h => absurd h (by simp)) (fun _ => ⟨t.size, rfl, ?_⟩) s)
  rw [f4]
  unfold endM
  rw [if_pos (by rw [f1, f2]; exact ⟨e1, by omega⟩), hl]
 ·have h : ¬ (r.err = 0 ∧ r.gap < 0 ∧ r.gs.length < 8) := fun h' => h (decide_eq_true h')
  refine K2 (fun e0 => ?_) h2 s.closeR6
  obtain ⟨_, st, f1, f2, f3, f4⟩ := h1 e0
  refine ⟨st, f1, f2, f3, ?_⟩
  rw [f4]
  unfold endM
  have := f3.g
  rw [if_neg (fun h' => h ⟨e0, by rw [← f2]; exact h'.1, by rw [← f1]; omega⟩)]
theorem ZhK {b : Nat} {t : ByteArray} (ht : t.size ≤ 1000) {X : Except Flt S6} {g : Option (Nat × Bool × S6)} {y : Bool} (s : SixI W Hs b t X g y w) : WP (Zao.K4 t b y) w (SixR W Hs X) := by
 have hl := Zdb t
 unfold Zao.K4
 refine WP.loopG (γ := Option (Nat × Bool × S6)) (fun g (y : Bool) w => SixI W Hs b t X g y w) (fun g _ => match g with | some (f, _, _) => f + 1 | none => 0) g s ?_
 clear s g y
 rintro g y w s
 unfold Zao.L2
 cases g with
 | none =>
  have s0 := s
  obtain ⟨r, h1, h2, s⟩ := s
  obtain ⟨g, sp, s⟩ := s.openR6
  refine WP.step (R := fun z w' => z = false ∧ w = w') (WP.ite (fun h => WP.ld s 0 rfl (o := 4) rfl (ZbG _) (WP.ret ⟨?_, rfl⟩)) (fun h => WP.ret ⟨rfl, rfl⟩)) ?_
  ·refine beq_eq_false_iff_ne.2 fun h' => h (h1 h').1
  rintro _ _ ⟨rfl, rfl⟩
  refine WP.ite (fun h => by cases h) (fun _ => WP.step (Znq s0) (fun r w h => WP.done h))
 | some x =>
  obtain ⟨f, op, st⟩ := x
  obtain ⟨rfl, ok, hp, hf, hop, hX, s⟩ := s
  have oka := ok.a
  have okg := ok.g
  obtain ⟨f, rfl⟩ : ∃ k, f = k + 1 := ⟨f - 1, by omega⟩
  rw [Zj3 hop] at hX
  refine WP.step (R := fun z w' => z = true ∧ w = w') (WP.ite (fun h => ?_) (fun h => absurd (by decide) h)) ?_
  ·obtain ⟨g, sp, s⟩ := s.openR6
   exact WP.ld s 0 rfl (o := 4) rfl (ZbG _) (WP.ret ⟨rfl, rfl⟩)
  rintro _ _ ⟨rfl, rfl⟩
  refine WP.ite (fun _ => WP.step (ZkF s okg ht (by omega) hp) ?_) (fun h => absurd rfl h)
  clear s
  intro r w hr
  cases hg : Zd7 (strI t) st with
  | error e =>
   rw [hg] at hr hX
   obtain ⟨rfl, s⟩ := hr
   have hb := (Zhv (l := strI t) (st := st) (by omega) hg).1
   refine WP.step (R := fun z w' => z = false ∧ w = w') (WP.ite (fun h => absurd rfl h) (fun _ => WP.ret ⟨rfl, rfl⟩)) ?_
   rintro _ _ ⟨rfl, rfl⟩
   refine WP.ite (fun h => by cases h) (fun _ => WP.next ⟨none, ⟨_, fun h => absurd h hb, fun _ => ⟨e.2, rfl, hX.symm⟩, s⟩, by simp only; omega⟩)
  | ok x =>
   obtain ⟨done, st1⟩ := x
   rw [hg] at hr hX
   obtain ⟨rfl, p, hpp, s⟩ := hr
   obtain ⟨k1, -, k2⟩ := Zg0 ok hg
   simp only at hX
   by_cases hd : done = true ∨ st1.at_ = (strI t).length
   ·rw [if_pos hd] at hX
    rw [hl] at hd
    rw [decide_eq_true hd]
    refine WP.step (R := fun z w' => z = false ∧ w = w') (WP.ite (fun h => absurd rfl h) (fun _ => WP.ret ⟨rfl, rfl⟩)) ?_
    rintro _ _ ⟨rfl, rfl⟩
    refine WP.ite (fun h => by cases h) (fun _ => WP.next ⟨none, ⟨_, fun _ => ⟨rfl, st1, rfl, rfl, k1, hX.symm⟩, fun h => absurd rfl h, s⟩, by simp only; omega⟩)
   ·rw [if_neg hd] at hX
    have hne : st1.at_ ≠ (strI t).length := fun h => hd (.inr h)
    have hdf : done = false := by cases done with | false => rfl | true => exact absurd (.inl rfl) hd
    have k3 := k2 hdf
    have k1a := k1.a
    have k1g := k1.g
    rw [hl] at hd
    rw [decide_eq_false hd]
    have hpe := hpp hdf
    subst hpe
    have s : Ss W (R6P b t (live st1) :: Hs) w := s
    refine WP.step (R := fun z w' => z = true ∧ w = w') (WP.ite (fun h => ?_) (fun h => absurd (by decide) h)) ?_
    ·obtain ⟨g, sp, s⟩ := s.openR6
     exact WP.ld s 0 rfl (o := 4) rfl (ZbG _) (WP.ret ⟨rfl, rfl⟩)
    rintro _ _ ⟨rfl, rfl⟩
    refine WP.ite (fun _ => WP.step (Zko s k1g ht (by omega)) ?_) (fun h => absurd rfl h)
    clear s
    intro r w hr
    cases hb : betM (strI t) st1 with
    | error e =>
     rw [hb] at hr hX
     obtain ⟨rfl, s⟩ := hr
     have hbad := (Zmi k1.a hb).1
     exact WP.next ⟨none, ⟨_, fun h => absurd h hbad, fun _ => ⟨e.2, rfl, hX.symm⟩, s⟩, by simp only; omega⟩
    | ok st2 =>
     rw [hb] at hr hX
     obtain ⟨rfl, s⟩ := hr
     simp only at hX
     obtain ⟨m1, m2, m3⟩ := Zm9 k1 hne hb
     have m1a := m1.a
     by_cases hend : ZeU (strI t) st1.at_ ∧ st2.at_ = t.size
     ·rw [decide_eq_true hend]
      have hfp : ∃ q, f = q + 1 := ⟨f - 1, by omega⟩
      obtain ⟨q, rfl⟩ := hfp
      rw [decide_eq_true hend.1] at hX
      unfold Zfn at hX
      rw [if_pos ⟨by omega, rfl⟩] at hX
      refine WP.next ⟨none, ⟨_, fun _ => ⟨rfl, st2, rfl, rfl, m1, ?_⟩, fun h => absurd rfl h, s⟩, by simp only; omega⟩
      rw [← hX]
      unfold endM
      have hgap : st2.gap ≥ 0 := by
       unfold betM Zb8 at hb
       rw [if_neg (fun h => h hend.1)] at hb
       split at hb
       ·cases hb
       ·rename_i x y z hz
        split at hz
        ·cases hz
        ·cases hz
         simp only at hb
         cases hb
         simp only
         omega
      rw [if_neg (by omega)]
     ·rw [decide_eq_false hend]
      refine WP.next ⟨some (f, decide (ZeU (strI t) st1.at_), st2), ⟨rfl, m1, ⟨fun _ => .inl (by rw [m2]; exact Zlb hg hdf), fun _ => by omega⟩, by omega, fun h => hend ⟨of_decide_eq_true h.2, by omega⟩, hX, s⟩, by simp only; omega⟩
theorem ZlR (s : Ss W Hs w) (t : ByteArray) (ht : t.size ≤ 1000) : WP (Zao t) w (SixR W Hs (ZfF (strI t))) := by
 have hl := Zdb t
 unfold Zao
 refine WP.slot' s (fun _ w s => WP.slot' s (fun _ w s => WP.newv s (fun b w s => ?_)))
 have s : Ss W (R6P b t ⟨[], -1, 0, 0, 0⟩ :: Hs) w := Ss.closeR6 (g := Sl.nil) (sp := []) ((s.mk0 (A := vec (cI .i64) Sl.nil [] []) Zed).use [1, 0] (r := Hs) rfl)
 refine WP.step (Zms t ht 0 (Nat.zero_le _)) ?_
 rintro _ _ ⟨rfl, rfl⟩
 refine WP.ite (fun h => ?_) (fun h => ?_)
 ·have h := of_decide_eq_true h
  have hX : ZfF (strI t) = Zfn (strI t) ((strI t).length + 1) true ⟨2, [], 0⟩ := by
   unfold ZfF Zb8
   rw [if_neg (fun h' => h' h), if_neg (by simp)]
   rfl
  have h2 := (Zls.1 h).1
  obtain ⟨g, sp, s⟩ := s.openR6
  refine WP.st s 0 rfl (o := 2) rfl (Zdh _ _) (fun w s => ?_)
  refine WP.st s 0 rfl (o := 3) rfl (ZcC _ _) (fun w s => ?_)
  have s : Ss W (R6P b t (live ⟨2, [], 0⟩) :: Hs) w := Ss.closeR6 (g := g) (sp := sp) s
  have ok2 : Ok6 (strI t) ⟨2, [], 0⟩ := ⟨by show 2 ≤ _; omega, by simp, by simp, by simp, fun h => by simp, fun x h => by cases h⟩
  by_cases h3 : t.size = 2
  ·rw [show ((t.size : Int) == 2) = true from beq_iff_eq.2 (by omega)]
   refine ZhK ht (g := none) ⟨_, fun _ => ⟨rfl, ⟨2, [], 0⟩, rfl, rfl, ok2, ?_⟩, fun h => absurd rfl h, s⟩
   rw [hX]
   unfold Zfn
   rw [if_pos ⟨by show 2 = _; omega, rfl⟩]
   rfl
  ·rw [show ((t.size : Int) == 2) = false from beq_eq_false_iff_ne.2 (by omega)]
   exact ZhK ht (g := some ((strI t).length + 1, true, ⟨2, [], 0⟩)) ⟨rfl, ok2, by simp, by simp only; omega, fun h => h3 (by have : 2 = (strI t).length := h.1; omega), hX.symm, s⟩
 ·have h : ¬ ZeU (strI t) 0 := fun h' => h (decide_eq_true h')
  have hX : ZfF (strI t) = Zfn (strI t) ((strI t).length + 1) false ⟨0, [], -1⟩ := by
   unfold ZfF Zb8
   rw [if_pos h]
   rfl
  have ok0 : Ok6 (strI t) ⟨0, [], -1⟩ := ⟨by simp, by simp, by simp, by simp, fun h => by simp, fun x h => by cases h⟩
  exact ZhK ht (g := some ((strI t).length + 1, false, ⟨0, [], -1⟩)) ⟨rfl, ok0, by simp, by simp only; omega, fun h => (by cases h.2), hX.symm, s⟩
end
end Go.Proofs.YtfgcobigollfjaaDoor.Lx
