
import Derived.Test.YtpmhinidiplhiaaDoorRulesSide2
set_option linter.unusedVariables false
set_option linter.unusedSimpArgs false
namespace Go.Proofs.YtpmhinidiplhiaaDoor.Lx
open Go Go.Proofs Go.RowKit
section
variable {W w : World} {Hs : List HP} {b : Nat} {wl : List Zaw} {e : Int} {m : ZaO} {ws : List Wd} {f : PF}
theorem ZqQ {x : Wd} {xs : List Wd} (s : Ss W (RrA b wl e m (x :: xs) :: Hs) w) {t : ByteArray} (ht : x.1 = strI t) : WP (ZaX (some (pt b 0)) t) w (fun r w' => r = true ∧ ∃ q d, RrFs e wl m xs q ∧ 0 < q.2 ∧ wl[q.2 - 1]? = some d ∧ wdOf d = x ∧ Ss W (RrHs b wl m q.1 ++ Hs) w') := by
 unfold ZaX
 refine WP.draw' s (fun w s => WP.nilck (errA s ?_))
 obtain ⟨⟨rr, i⟩, hq, s1⟩ := ZfT s
 obtain ⟨h1, h2, h3, h4, h5, h6, h7⟩ := hq
 have h50 := h5.1
 simp only at h1 h2 h3 h4 h5 h6 h7 s1
 obtain ⟨r, hr, hx, hxs, hi⟩ := Zhu h6
 have hr' : wl[(i : Int).toNat]? = some r := by rw [Int.toNat_natCast]; exact hr
 have hl := (s1.rd_cap (i := 1) rfl).1
 have hw : IntKind.wrap .i64 ((i : Int) + 1) = ((i + 1 : Nat) : Int) := by
  rw [Zat (by omega) (by omega)]
  omega
 refine WP.step (R := fun y w' => y = false ∧ w = w') (WP.ite (fun h => absurd rfl h) (fun _ => WP.nilck (WP.ld (x := rr.i) s1 0 rfl (o := 1) rfl (Zba _) (WP.nilck (WP.ld (x := rr.l) s1 0 rfl (o := 0) (by simp [Addr.add]) (ZbF _) (WP.ret ⟨?_, rfl⟩)))))) ?_
 ·rw [h1, hl]
  exact beq_eq_false_iff_ne.2 (by omega)
 rintro _ _ ⟨rfl, rfl⟩
 refine WP.step (R := fun y w' => y = false ∧ w = w') (WP.ite (fun h => by cases h) (fun _ => WP.nilck (WP.ld (x := rr.l) s1 0 rfl (o := 0) (by simp [Addr.add]) (ZbF _) (WP.nilck (WP.ld (x := rr.i) s1 0 rfl (o := 1) rfl (Zba _) ?_))))) ?_
 ·rw [h1]
  refine WP.rdxp0 s1 1 rfl ZeE (by omega) hr' rfl (ZaZ _) (WP.ret ⟨?_, rfl⟩)
  rw [Bool.not_eq_false', beq_iff_eq, Zbv, ← ht, ← hx]
  rfl
 rintro _ _ ⟨rfl, rfl⟩
 refine WP.ite (fun h => by cases h) (fun _ => WP.nilck (WP.ld (x := rr.i) s1 0 rfl (o := 1) rfl (Zba _) (WP.nilck ?_)))
 rw [h1, hw]
 refine WP.st s1 0 rfl (o := 1) rfl (Zd9 _ _) (fun w s => WP.ret ⟨rfl, ?_⟩)
 exact ⟨(⟨rr.l, ((i + 1 : Nat) : Int), rr.end_, rr.rule, rr.err, rr.at_⟩, i + 1), r, ⟨rfl, h2, h3, hi, h5, hxs, h7⟩, Nat.succ_pos _, hr, hx, s⟩
theorem ZlZ (n : Int) : WP (ZcT n) w (fun y w' => y = ZdR n ∧ w = w') := by
 unfold ZcT ZdR
 refine WP.step (R := fun y w' => y = decide (n = 6 ∨ n = 17) ∧ w = w') (WP.ite (fun h => WP.ret ⟨(decide_eq_true (.inl h)).symm, rfl⟩) (fun h => WP.ret ⟨?_, rfl⟩)) (fun y w h => WP.ret h)
 rw [Bool.eq_iff_iff, beq_iff_eq, decide_eq_true_iff]
 exact ⟨.inr, fun h' => h'.elim (fun h' => absurd h' h) id⟩
theorem Znr (n : Int) : WP (ZcX n) w (fun y w' => y = ZeA n ∧ w = w') := by
 unfold ZcX ZeA
 refine WP.step (R := fun y w' => y = decide (n = 1 ∨ n = 58) ∧ w = w') (WP.ite (fun h => WP.ret ⟨(decide_eq_true (.inl h)).symm, rfl⟩) (fun h => WP.ret ⟨?_, rfl⟩)) (fun y w h => WP.ret h)
 rw [Bool.eq_iff_iff, beq_iff_eq, decide_eq_true_iff]
 exact ⟨.inr, fun h' => h'.elim (fun h' => absurd h' h) id⟩
theorem Zeh {e proto : Int} {x : Wd} {xs : List Wd} : Zdz e proto (x :: xs) = if x.1 = tx "port" then (if ZdR proto = true then ZeR e [] xs else .error (165, x.2)) else .ok ([], x :: xs) := rfl
def ZjJ (nt : Bool) (ns : List Zak) (X : PE (List ZaM × List Wd)) : PE (Zc6 × List Wd) := match X with
 | .error f => .error f
 | .ok (ps, r) => .ok (⟨nt, ns, ps⟩, r)
theorem ZlK {j : Zan} {nt : Bool} {ns sp : List Zak} (hj : j.Not = nt) (hp : j.Ports = Sl.nil) (s : Ss W (RrA b wl e m ws :: vec cPfx j.Nets ns sp :: Hs) w) :
  WP (Zac.K2 (some (pt b 0)) j) w (fun r w' => ZoV W Hs b wl e m r w' (ZjJ nt ns (Zdz e m.Proto ws))) := by
 unfold Zac.K2
 have pass : ∀ {w : World}, Ss W (RrA b wl e m ws :: vec cPfx j.Nets ns sp :: Hs) w → ZoV W Hs b wl e m j w (.ok (⟨nt, ns, []⟩, ws)) := by
  intro w s
  have s := s.mk0 (A := vec cRg j.Ports [] []) (by rw [hp]; exact ZcK)
  have s : Ss W (vec cPfx j.Nets ns sp :: vec cRg j.Ports [] [] :: (RrA b wl e m ws :: Hs)) w := by
   have s := s.use [2, 0] rfl
   exact s
  exact ZnH hj s
 by_cases hc : ∃ x xs, ws = x :: xs ∧ x.1 = tx "port"
 rotate_left
 ·have ht : Zdc (tx "port") ws = none := by
   cases ws with
   | nil => rfl
   | cons x xs =>
    rw [show Zdc (tx "port") (x :: xs) = if x.1 = tx "port" then some xs else none from rfl, if_neg (fun h => hc ⟨x, xs, rfl, h⟩)]
  have hs : Zdz e m.Proto ws = .ok ([], ws) := by
   cases ws with
   | nil => rfl
   | cons x xs =>
    rw [Zeh, if_neg (fun h => hc ⟨x, xs, rfl, h⟩)]
  rw [hs]
  refine WP.step (ZeC s Zo7) ?_
  intro y w h
  rw [ht] at h
  obtain ⟨rfl, s⟩ := h
  exact WP.ite (fun _ => WP.ret (pass s)) (fun h => absurd (by decide) h)
 obtain ⟨x, xs, rfl, hx⟩ := hc
 clear pass
 have hs : Zdz e m.Proto (x :: xs) = if ZdR m.Proto = true then ZeR e [] xs else .error (165, x.2) := by
  rw [Zeh, if_pos hx]
 rw [hs]
 refine WP.step (ZqQ s (hx.trans Zo7.symm)) ?_
 rintro _ w ⟨rfl, ⟨rr, i⟩, d, hq, hi, hd, hdx, s⟩
 have sA := Zil hq s
 refine WP.ite (fun h => absurd rfl h) (fun _ => WP.nilck (Zpv sA (WP.step (ZlZ m.Proto) ?_)))
 rintro _ _ ⟨rfl, rfl⟩
 have sA0 := sA.mk0 (A := vec cRg j.Ports [] []) (by rw [hp]; exact ZcK)
 refine WP.ite (fun h => ?_) (fun h => ?_)
 ·rw [if_neg h]
  obtain ⟨h1, h2, h3, h4, h5, h6, h7⟩ := hq
  have h50 := h5.1
  simp only at h1 h2 h3 h4 h5 h6 h7 s hi hd
  refine WP.draw' s (fun w s => WP.nilck (WP.ld (x := rr.l) s 0 rfl (o := 0) (by simp [Addr.add]) (ZbF _) (WP.nilck (WP.ld (x := rr.i) s 0 rfl (o := 1) rfl (Zba _) ?_))))
  have hw : IntKind.wrap .i64 (rr.i - 1) = ((i - 1 : Nat) : Int) := by
   rw [h1, Zat (by omega) (by omega)]
   omega
  rw [hw]
  refine WP.rdxp s 1 rfl ZeE (by omega) (x := d) (by rw [Int.toNat_natCast]; exact hd) rfl (Zbh _) ?_
  have hat : d.at_ = x.2 := by rw [← hdx]; rfl
  rw [hat]
  refine WP.step (ZcA (Zil (q := (rr, i)) ⟨h1, h2, h3, h4, h5, h6, h7⟩ s) (by decide) x.2) ?_
  intro _ w s
  unfold Zac.K1
  have s := s.mk0 (A := vec cRg j.Ports [] []) (by rw [hp]; exact ZcK)
  refine Zif (W := W) (Hs := Hs) (b := b) (wl := wl) (e := e) (m := m) (X := .error (165, x.2)) (nt := nt) (nn := j.Nets) (ns := ns) (sp := sp) (fun ps r h => by cases h) (fun f h => by cases h; rfl) (.error (165, x.2)) (acc := []) (sp2 := []) ⟨hj, rfl⟩ (by simp) ⟨rfl, ?_⟩
  have s := s.use [2, 0, 0] rfl
  exact s
 ·have h' : ZdR m.Proto = true := Decidable.not_not.1 h
  rw [if_pos h']
  unfold Zac.K1
  refine Zif (W := W) (Hs := Hs) (b := b) (wl := wl) (e := e) (m := m) (X := ZeR e [] xs) (nt := nt) (nn := j.Nets) (ns := ns) (sp := sp) (fun ps r h => by rw [h]; rfl) (fun f h => by rw [h]; rfl) (.ok (true, [], xs)) (acc := []) (sp2 := []) ⟨hj, rfl⟩ (by simp) ⟨rfl, rfl, by simp, rfl, ?_⟩
  have s := sA0.use [2, 0, 0] rfl
  exact s
theorem ZmQ {j : Zan} (s : Ss W (RrD b f :: Hs) w) : WP (Zac.K2 (some (pt b 0)) j) w (fun r w' => Ss W (RrD b f :: Hs) w') := by
 unfold Zac.K2
 refine WP.step (ZeD s _) ?_
 rintro _ w ⟨rfl, s⟩
 exact WP.ite (fun _ => WP.ret s) (fun h => absurd (by decide) h)
theorem Zm0 {X : PE (List Zak × List Wd)} {Z : PE (Zc6 × List Wd)} {nt : Bool} (hX : ∀ ns r, X = .ok (ns, r) → Z = ZjJ nt ns (Zdz e m.Proto r)) (hE : ∀ f, X = .error f → Z = .error f) {x : Bool × Zan}
  (hx : x.2.Not = nt ∧ x.2.Nets = Sl.nil ∧ x.2.Ports = Sl.nil) (h1 : x.1 = true) (h2 : Zgz e m.Kind [] ws = X) (s : Ss W (RrA b wl e m ws :: Hs) w) :
  WP (Zci (fun s_ : (Bool × Zan) => Zac.L2 (some (pt b 0)) s_.1 s_.2) x) w (fun r w' => ZoV W Hs b wl e m r w' Z) := by
 have s0 := (s.mk0 (A := vec cPfx x.2.Nets [] []) (by rw [hx.2.1]; exact ZcK)).use [1, 0] rfl
 refine WP.loopG (γ := Ph Zak × List Zak × List Zak) (fun g (x : Bool × Zan) w => (x.2.Not = nt ∧ x.2.Ports = Sl.nil) ∧ g.2.1.length ≤ 17 ∧ (match g.1 with
   | .ok (more, a, ws) => x.1 = more ∧ a = g.2.1 ∧ g.2.1.length ≤ 16 ∧ (if more = true then Zgz e m.Kind g.2.1 ws else .ok (g.2.1, ws)) = X ∧ Ss W (RrA b wl e m ws :: vec cPfx x.2.Nets g.2.1 g.2.2 :: Hs) w
   | .error f => X = .error f ∧ Ss W (RrD b f :: vec cPfx x.2.Nets g.2.1 g.2.2 :: Hs) w)) (fun g _ => g.1.mu) (.ok (true, [], ws), [], []) ⟨⟨hx.1, hx.2.2⟩, by simp, h1, rfl, by simp, h2, s0⟩ ?_
 clear hx s s0 h1 h2
 rintro ⟨g, acc, sp⟩ ⟨more, j⟩ w ⟨⟨hj1, hj2⟩, hacc, h⟩
 simp only at hj1 hj2 hacc h
 show WP (Zac.L2 (some (pt b 0)) more j) w _
 unfold Zac.L2
 cases g with
 | error f =>
  obtain ⟨hXf, s⟩ := h
  refine WP.step (R := fun y w' => y = false ∧ w = w') (WP.ite (fun _ => WP.nilck (errD s (fun h => WP.ret ⟨beq_eq_false_iff_ne.2 h, rfl⟩))) (fun _ => WP.ret ⟨rfl, rfl⟩)) ?_
  rintro _ _ ⟨rfl, rfl⟩
  refine WP.ite (fun h => by cases h) (fun _ => WP.step (ZmQ (j := j) s) (fun r w h => WP.done ?_))
  rw [hE f hXf]
  exact (h.use [1] rfl).drop
 | ok g =>
  obtain ⟨mr, a, ws⟩ := g
  obtain ⟨h1, h2, h16, h3, s⟩ := h
  subst h1
  subst h2
  cases more with
  | false =>
   refine WP.step (R := fun y w' => y = false ∧ w = w') (WP.ite (fun h => by cases h) (fun _ => WP.ret ⟨rfl, rfl⟩)) ?_
   rintro _ _ ⟨rfl, rfl⟩
   refine WP.ite (fun h => by cases h) (fun _ => WP.step (ZlK (j := j) hj1 hj2 s) (fun r w h => WP.done ?_))
   rw [hX a ws h3.symm]
   exact h
  | true =>
   refine WP.step (R := fun y w' => y = true ∧ w = w') (WP.ite (fun _ => WP.nilck (errA s (WP.ret ⟨rfl, rfl⟩))) (fun h => absurd rfl h)) ?_
   rintro _ _ ⟨rfl, rfl⟩
   refine WP.ite (fun _ => WP.draw' s (fun w s => ?_)) (fun h => absurd rfl h)
   have hpl := (s.vec_len (i := 1) rfl).1
   rw [hpl]
   refine WP.step (ZqX s a.length) ?_
   intro p w h
   simp only [if_true] at h3
   rw [Zgo] at h3
   cases hr : net1 e m.Kind a.length ws with
   | error f =>
    rw [hr] at h h3
    refine WP.slot' h (fun _ w s => WP.appl s 1 rfl (by simp only [List.length_singleton]; omega) (by decide) (fun q w sp3 s => ?_))
    have s : Ss W (RrD b f :: (vec cPfx q (a ++ [p]) sp3 :: Hs)) w := s
    refine WP.step (ZeD s _) ?_
    rintro _ w ⟨rfl, s⟩
    exact WP.next ⟨(.error f, a ++ [p], sp3), ⟨⟨hj1, hj2⟩, by simp only [List.length_append, List.length_singleton]; omega, h3.symm, s⟩, by simp [Ph.mu]⟩
   | ok q =>
    obtain ⟨p', r⟩ := q
    rw [hr] at h h3
    obtain ⟨hp, s⟩ := h
    simp only at hp s h3
    subst hp
    have hlen := ZnG hr
    refine WP.slot' s (fun _ w s => WP.appl s 1 rfl (by simp only [List.length_singleton]; omega) (by decide) (fun q w sp3 s => ?_))
    have s : Ss W (RrA b wl e m r :: (vec cPfx q (a ++ [p]) sp3 :: Hs)) w := s
    refine WP.step (ZeC s Zgl) ?_
    intro y w h
    cases ht : Zdc comma r with
    | none =>
     rw [ht] at h h3
     obtain ⟨rfl, s⟩ := h
     exact WP.next ⟨(.ok (false, a ++ [p], r), a ++ [p], sp3), ⟨⟨hj1, hj2⟩, by simp only [List.length_append, List.length_singleton]; omega, rfl, rfl, by simp only [List.length_append, List.length_singleton]; omega, h3, s⟩, by simp [Ph.mu]⟩
    | some r2 =>
     rw [ht] at h h3
     obtain ⟨rfl, s⟩ := h
     have hlt := ZdL ht
     exact WP.next ⟨(.ok (true, a ++ [p], r2), a ++ [p], sp3), ⟨⟨hj1, hj2⟩, by simp only [List.length_append, List.length_singleton]; omega, rfl, rfl, by simp only [List.length_append, List.length_singleton]; omega, h3, s⟩, by simp only [Ph.mu]; omega⟩
theorem ZkO (kind proto : Int) : ZgQ e kind proto ws = match Zdc (tx "any") ws with
  | some r => ZjJ false [] (Zdz e proto r)
  | none => match Zgz e kind [] ((Zdc (tx "not") ws).getD ws) with
   | .error f => .error f
   | .ok (l, r) => ZjJ (Zdc (tx "not") ws).isSome l (Zdz e proto r) := by
 unfold ZgQ ZrE ZjJ
 cases Zdc (tx "any") ws with
 | some r =>
  simp only
  cases Zdz e proto r <;> rfl
 | none =>
  simp only
  cases Zgz e kind [] ((Zdc (tx "not") ws).getD ws) with
  | error f => rfl
  | ok q =>
   simp only
   cases Zdz e proto q.2 <;> rfl
theorem ZlT (s : Ss W (RrA b wl e m ws :: Hs) w) : WP (Zac (some (pt b 0))) w (fun r w' => ZoV W Hs b wl e m r w' (ZgQ e m.Kind m.Proto ws)) := by
 unfold Zac
 rw [ZkO]
 refine WP.slot' s (fun _ w s => WP.slot' s (fun _ w s => WP.step (ZeC s ZrC) ?_))
 intro y w h
 cases ht : Zdc (tx "any") ws with
 | some r =>
  rw [ht] at h
  obtain ⟨rfl, s⟩ := h
  refine WP.ite (fun h => absurd rfl h) (fun _ => ZlK (sp := []) rfl rfl ?_)
  exact (s.mk0 (A := vec cPfx ZaC.Nets [] []) ZcK).use [1, 0] rfl
 | none =>
  rw [ht] at h
  obtain ⟨rfl, s⟩ := h
  refine WP.ite (fun _ => WP.step (ZeC s ZsN) ?_) (fun h => absurd (by decide) h)
  intro y w h
  have go : ∀ {w : World} {y : Bool} {r : List Wd}, Ss W (RrA b wl e m r :: Hs) w → WP (Zci (fun s_ : (Bool × Zan) => Zac.L2 (some (pt b 0)) s_.1 s_.2) (true, (⟨y, ZaC.Nets, ZaC.Ports⟩ : Zan))) w (fun r' w' => ZoV W Hs b wl e m r' w' (match Zgz e m.Kind [] r with
   | .error f => .error f
   | .ok (l, r) => ZjJ y l (Zdz e m.Proto r))) := by
   intro w y r s
   exact Zm0 (X := Zgz e m.Kind [] r) (nt := y) (fun ns r h => by rw [h]) (fun f h => by rw [h]) ⟨rfl, rfl, rfl⟩ rfl rfl s
  cases hn : Zdc (tx "not") ws with
  | some r =>
   rw [hn] at h
   obtain ⟨rfl, s⟩ := h
   exact go s
  | none =>
   rw [hn] at h
   obtain ⟨rfl, s⟩ := h
   exact go s
end
end Go.Proofs.YtpmhinidiplhiaaDoor.Lx
