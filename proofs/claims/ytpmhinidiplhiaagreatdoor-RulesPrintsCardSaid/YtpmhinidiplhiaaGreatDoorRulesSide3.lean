
import Derived.Test.YtpmhinidiplhiaaGreatDoorRulesSide2
set_option linter.unusedVariables false
set_option linter.unusedSimpArgs false
namespace Go.Proofs.YtpmhinidiplhiaaGreatDoor.Lx
open Go Go.Proofs Go.RowKit
section
variable {W w : World} {Hs : List HP} {b : Nat} {wl : List ZaI} {e : Int} {m : Za9} {ws : List Wd} {f : PF}
theorem Zrh {x : Wd} {xs : List Wd} (s : Ss W (RrA b wl e m (x :: xs) :: Hs) w) {t : ByteArray} (ht : x.1 = strI t) : WP (Zbh (some (pt b 0)) t) w (fun r w' => r = true ∧ ∃ q d, RrFs e wl m xs q ∧ 0 < q.2 ∧ wl[q.2 - 1]? = some d ∧ wdOf d = x ∧ Ss W (RrHs b wl m q.1 ++ Hs) w') := by
 unfold Zbh
 refine WP.draw' s (fun w s => WP.nilck (errA s ?_))
 obtain ⟨⟨rr, i⟩, hq, s1⟩ := Zgo s
 obtain ⟨h1, h2, h3, h4, h5, h6, h7⟩ := hq
 have h50 := h5.1
 simp only at h1 h2 h3 h4 h5 h6 h7 s1
 obtain ⟨r, hr, hx, hxs, hi⟩ := Zib h6
 have hr' : wl[(i : Int).toNat]? = some r := by rw [Int.toNat_natCast]; exact hr
 have hl := (s1.rd_cap (i := 1) rfl).1
 have hw : IntKind.wrap .i64 ((i : Int) + 1) = ((i + 1 : Nat) : Int) := by
  rw [Zah (by omega) (by omega)]
  omega
 refine WP.step (R := fun y w' => y = false ∧ w = w') (WP.ite (fun h => absurd rfl h) (fun _ => WP.nilck (WP.ld (x := rr.i) s1 0 rfl (o := 1) rfl (Zbx _) (WP.nilck (WP.ld (x := rr.l) s1 0 rfl (o := 0) (by simp [Addr.add]) (Zb3 _) (WP.ret ⟨?_, rfl⟩)))))) ?_
 ·rw [h1, hl]
  exact beq_eq_false_iff_ne.2 (by omega)
 rintro _ _ ⟨rfl, rfl⟩
 refine WP.step (R := fun y w' => y = false ∧ w = w') (WP.ite (fun h => by cases h) (fun _ => WP.nilck (WP.ld (x := rr.l) s1 0 rfl (o := 0) (by simp [Addr.add]) (Zb3 _) (WP.nilck (WP.ld (x := rr.i) s1 0 rfl (o := 1) rfl (Zbx _) ?_))))) ?_
 ·rw [h1]
  refine WP.rdxp0 s1 1 rfl ZdQ (by omega) hr' rfl (Zbj _) (WP.ret ⟨?_, rfl⟩)
  rw [Bool.not_eq_false', beq_iff_eq, ZbX, ← ht, ← hx]
  rfl
 rintro _ _ ⟨rfl, rfl⟩
 refine WP.ite (fun h => by cases h) (fun _ => WP.nilck (WP.ld (x := rr.i) s1 0 rfl (o := 1) rfl (Zbx _) (WP.nilck ?_)))
 rw [h1, hw]
 refine WP.st s1 0 rfl (o := 1) rfl (ZeI _ _) (fun w s => WP.ret ⟨rfl, ?_⟩)
 exact ⟨(⟨rr.l, ((i + 1 : Nat) : Int), rr.end_, rr.rule, rr.err, rr.at_⟩, i + 1), r, ⟨rfl, h2, h3, hi, h5, hxs, h7⟩, Nat.succ_pos _, hr, hx, s⟩
theorem Zmw (n : Int) : WP (ZdB n) w (fun y w' => y = ZdW n ∧ w = w') := by
 unfold ZdB ZdW
 refine WP.step (R := fun y w' => y = decide (n = 6 ∨ n = 17) ∧ w = w') (WP.ite (fun h => WP.ret ⟨(decide_eq_true (.inl h)).symm, rfl⟩) (fun h => WP.ret ⟨?_, rfl⟩)) (fun y w h => WP.ret h)
 rw [Bool.eq_iff_iff, beq_iff_eq, decide_eq_true_iff]
 exact ⟨.inr, fun h' => h'.elim (fun h' => absurd h' h) id⟩
theorem Zn1 (n : Int) : WP (ZdF n) w (fun y w' => y = Zfm n ∧ w = w') := by
 unfold ZdF Zfm
 refine WP.step (R := fun y w' => y = decide (n = 1 ∨ n = 58) ∧ w = w') (WP.ite (fun h => WP.ret ⟨(decide_eq_true (.inl h)).symm, rfl⟩) (fun h => WP.ret ⟨?_, rfl⟩)) (fun y w h => WP.ret h)
 rw [Bool.eq_iff_iff, beq_iff_eq, decide_eq_true_iff]
 exact ⟨.inr, fun h' => h'.elim (fun h' => absurd h' h) id⟩
theorem Zgv {e proto : Int} {x : Wd} {xs : List Wd} : ZeF e proto (x :: xs) = if x.1 = tx "port" then (if ZdW proto = true then ZfP e [] xs else .error (165, x.2)) else .ok ([], x :: xs) := rfl
def Znb (nt : Bool) (ns : List Zap) (X : PE (List ZaZ × List Wd)) : PE (ZcT × List Wd) := match X with
 | .error f => .error f
 | .ok (ps, r) => .ok (⟨nt, ns, ps⟩, r)
theorem Zmg {j : Zae} {nt : Bool} {ns sp : List Zap} (hj : j.Not = nt) (hp : j.Ports = Sl.nil) (s : Ss W (RrA b wl e m ws :: vec cPfx j.Nets ns sp :: Hs) w) :
  WP (Zac.K2 (some (pt b 0)) j) w (fun r w' => Zpp W Hs b wl e m r w' (Znb nt ns (ZeF e m.Proto ws))) := by
 unfold Zac.K2
 have pass : ∀ {w : World}, Ss W (RrA b wl e m ws :: vec cPfx j.Nets ns sp :: Hs) w → Zpp W Hs b wl e m j w (.ok (⟨nt, ns, []⟩, ws)) := by
  intro w s
  have s := s.mk0 (A := vec cRg j.Ports [] []) (by rw [hp]; exact Zdo)
  have s : Ss W (vec cPfx j.Nets ns sp :: vec cRg j.Ports [] [] :: (RrA b wl e m ws :: Hs)) w := by
   have s := s.use [2, 0] rfl
   exact s
  exact Zon hj s
 by_cases hc : ∃ x xs, ws = x :: xs ∧ x.1 = tx "port"
 rotate_left
 ·have ht : Zd7 (tx "port") ws = none := by
   cases ws with
   | nil => rfl
   | cons x xs =>
    rw [show Zd7 (tx "port") (x :: xs) = if x.1 = tx "port" then some xs else none from rfl, if_neg (fun h => hc ⟨x, xs, rfl, h⟩)]
  have hs : ZeF e m.Proto ws = .ok ([], ws) := by
   cases ws with
   | nil => rfl
   | cons x xs =>
    rw [Zgv, if_neg (fun h => hc ⟨x, xs, rfl, h⟩)]
  rw [hs]
  refine WP.step (Ze5 s Zpz) ?_
  intro y w h
  rw [ht] at h
  obtain ⟨rfl, s⟩ := h
  exact WP.ite (fun _ => WP.ret (pass s)) (fun h => absurd (by decide) h)
 obtain ⟨x, xs, rfl, hx⟩ := hc
 clear pass
 have hs : ZeF e m.Proto (x :: xs) = if ZdW m.Proto = true then ZfP e [] xs else .error (165, x.2) := by
  rw [Zgv, if_pos hx]
 rw [hs]
 refine WP.step (Zrh s (hx.trans Zpz.symm)) ?_
 rintro _ w ⟨rfl, ⟨rr, i⟩, d, hq, hi, hd, hdx, s⟩
 have sA := Zi3 hq s
 refine WP.ite (fun h => absurd rfl h) (fun _ => WP.nilck (ZpS sA (WP.step (Zmw m.Proto) ?_)))
 rintro _ _ ⟨rfl, rfl⟩
 have sA0 := sA.mk0 (A := vec cRg j.Ports [] []) (by rw [hp]; exact Zdo)
 refine WP.ite (fun h => ?_) (fun h => ?_)
 ·rw [if_neg h]
  obtain ⟨h1, h2, h3, h4, h5, h6, h7⟩ := hq
  have h50 := h5.1
  simp only at h1 h2 h3 h4 h5 h6 h7 s hi hd
  refine WP.draw' s (fun w s => WP.nilck (WP.ld (x := rr.l) s 0 rfl (o := 0) (by simp [Addr.add]) (Zb3 _) (WP.nilck (WP.ld (x := rr.i) s 0 rfl (o := 1) rfl (Zbx _) ?_))))
  have hw : IntKind.wrap .i64 (rr.i - 1) = ((i - 1 : Nat) : Int) := by
   rw [h1, Zah (by omega) (by omega)]
   omega
  rw [hw]
  refine WP.rdxp s 1 rfl ZdQ (by omega) (x := d) (by rw [Int.toNat_natCast]; exact hd) rfl (ZbF _) ?_
  have hat : d.at_ = x.2 := by rw [← hdx]; rfl
  rw [hat]
  refine WP.step (Zdg (Zi3 (q := (rr, i)) ⟨h1, h2, h3, h4, h5, h6, h7⟩ s) (by decide) x.2) ?_
  intro _ w s
  unfold Zac.K1
  have s := s.mk0 (A := vec cRg j.Ports [] []) (by rw [hp]; exact Zdo)
  refine ZiW (W := W) (Hs := Hs) (b := b) (wl := wl) (e := e) (m := m) (X := .error (165, x.2)) (nt := nt) (nn := j.Nets) (ns := ns) (sp := sp) (fun ps r h => by cases h) (fun f h => by cases h; rfl) (.error (165, x.2)) (acc := []) (sp2 := []) ⟨hj, rfl⟩ (by simp) ⟨rfl, ?_⟩
  have s := s.use [2, 0, 0] rfl
  exact s
 ·have h' : ZdW m.Proto = true := Decidable.not_not.1 h
  rw [if_pos h']
  unfold Zac.K1
  refine ZiW (W := W) (Hs := Hs) (b := b) (wl := wl) (e := e) (m := m) (X := ZfP e [] xs) (nt := nt) (nn := j.Nets) (ns := ns) (sp := sp) (fun ps r h => by rw [h]; rfl) (fun f h => by rw [h]; rfl) (.ok (true, [], xs)) (acc := []) (sp2 := []) ⟨hj, rfl⟩ (by simp) ⟨rfl, rfl, by simp, rfl, ?_⟩
  have s := sA0.use [2, 0, 0] rfl
  exact s
theorem Znp {j : Zae} (s : Ss W (RrD b f :: Hs) w) : WP (Zac.K2 (some (pt b 0)) j) w (fun r w' => Ss W (RrD b f :: Hs) w') := by
 unfold Zac.K2
 refine WP.step (Ze6 s _) ?_
 rintro _ w ⟨rfl, s⟩
 exact WP.ite (fun _ => WP.ret s) (fun h => absurd (by decide) h)
theorem ZnC {X : PE (List Zap × List Wd)} {Z : PE (ZcT × List Wd)} {nt : Bool} (hX : ∀ ns r, X = .ok (ns, r) → Z = Znb nt ns (ZeF e m.Proto r)) (hE : ∀ f, X = .error f → Z = .error f) {x : Bool × Zae}
  (hx : x.2.Not = nt ∧ x.2.Nets = Sl.nil ∧ x.2.Ports = Sl.nil) (h1 : x.1 = true) (h2 : Zh2 e m.Kind [] ws = X) (s : Ss W (RrA b wl e m ws :: Hs) w) :
  WP (Zb9 (fun s_ : (Bool × Zae) => Zac.L2 (some (pt b 0)) s_.1 s_.2) x) w (fun r w' => Zpp W Hs b wl e m r w' Z) := by
 have s0 := (s.mk0 (A := vec cPfx x.2.Nets [] []) (by rw [hx.2.1]; exact Zdo)).use [1, 0] rfl
 refine WP.loopG (γ := Ph Zap × List Zap × List Zap) (fun g (x : Bool × Zae) w => (x.2.Not = nt ∧ x.2.Ports = Sl.nil) ∧ g.2.1.length ≤ 17 ∧ (match g.1 with
   | .ok (more, a, ws) => x.1 = more ∧ a = g.2.1 ∧ g.2.1.length ≤ 16 ∧ (if more = true then Zh2 e m.Kind g.2.1 ws else .ok (g.2.1, ws)) = X ∧ Ss W (RrA b wl e m ws :: vec cPfx x.2.Nets g.2.1 g.2.2 :: Hs) w
   | .error f => X = .error f ∧ Ss W (RrD b f :: vec cPfx x.2.Nets g.2.1 g.2.2 :: Hs) w)) (fun g _ => g.1.mu) (.ok (true, [], ws), [], []) ⟨⟨hx.1, hx.2.2⟩, by simp, h1, rfl, by simp, h2, s0⟩ ?_
 clear hx s s0 h1 h2
 rintro ⟨g, acc, sp⟩ ⟨more, j⟩ w ⟨⟨hj1, hj2⟩, hacc, h⟩
 simp only at hj1 hj2 hacc h
 show WP (Zac.L2 (some (pt b 0)) more j) w _
 unfold Zac.L2
 cases g with
 | error f =>
  obtain ⟨hXf, s⟩ := h
  refine WP.step (R := fun y w' => y = false ∧ w = w') (WP.ite (fun _ => WP.nilck (errD s (fun h => WP.ret ⟨beq_eq_false_iff_ne.2 h, rfl⟩))) (fun _ => WP.ret ⟨rfl, rfl⟩)) ?_
  rintro _ _ ⟨rfl, rfl⟩
  refine WP.ite (fun h => by cases h) (fun _ => WP.step (Znp (j := j) s) (fun r w h => WP.done ?_))
  rw [hE f hXf]
  exact (h.use [1] rfl).drop
 | ok g =>
  obtain ⟨mr, a, ws⟩ := g
  obtain ⟨h1, h2, h16, h3, s⟩ := h
  subst h1
  subst h2
  cases more with
  | false =>
   refine WP.step (R := fun y w' => y = false ∧ w = w') (WP.ite (fun h => by cases h) (fun _ => WP.ret ⟨rfl, rfl⟩)) ?_
   rintro _ _ ⟨rfl, rfl⟩
   refine WP.ite (fun h => by cases h) (fun _ => WP.step (Zmg (j := j) hj1 hj2 s) (fun r w h => WP.done ?_))
   rw [hX a ws h3.symm]
   exact h
  | true =>
   refine WP.step (R := fun y w' => y = true ∧ w = w') (WP.ite (fun _ => WP.nilck (errA s (WP.ret ⟨rfl, rfl⟩))) (fun h => absurd rfl h)) ?_
   rintro _ _ ⟨rfl, rfl⟩
   refine WP.ite (fun _ => WP.draw' s (fun w s => ?_)) (fun h => absurd rfl h)
   have hpl := (s.vec_len (i := 1) rfl).1
   rw [hpl]
   refine WP.step (Zrq s a.length) ?_
   intro p w h
   simp only [if_true] at h3
   rw [Zk2] at h3
   cases hr : net1 e m.Kind a.length ws with
   | error f =>
    rw [hr] at h h3
    refine WP.slot' h (fun _ w s => WP.appl s 1 rfl (by simp only [List.length_singleton]; omega) (by decide) (fun q w sp3 s => ?_))
    have s : Ss W (RrD b f :: (vec cPfx q (a ++ [p]) sp3 :: Hs)) w := s
    refine WP.step (Ze6 s _) ?_
    rintro _ w ⟨rfl, s⟩
    exact WP.next ⟨(.error f, a ++ [p], sp3), ⟨⟨hj1, hj2⟩, by simp only [List.length_append, List.length_singleton]; omega, h3.symm, s⟩, by simp [Ph.mu]⟩
   | ok q =>
    obtain ⟨p', r⟩ := q
    rw [hr] at h h3
    obtain ⟨hp, s⟩ := h
    simp only at hp s h3
    subst hp
    have hlen := Zom hr
    refine WP.slot' s (fun _ w s => WP.appl s 1 rfl (by simp only [List.length_singleton]; omega) (by decide) (fun q w sp3 s => ?_))
    have s : Ss W (RrA b wl e m r :: (vec cPfx q (a ++ [p]) sp3 :: Hs)) w := s
    refine WP.step (Ze5 s ZgZ) ?_
    intro y w h
    cases ht : Zd7 comma r with
    | none =>
     rw [ht] at h h3
     obtain ⟨rfl, s⟩ := h
     exact WP.next ⟨(.ok (false, a ++ [p], r), a ++ [p], sp3), ⟨⟨hj1, hj2⟩, by simp only [List.length_append, List.length_singleton]; omega, rfl, rfl, by simp only [List.length_append, List.length_singleton]; omega, h3, s⟩, by simp [Ph.mu]⟩
    | some r2 =>
     rw [ht] at h h3
     obtain ⟨rfl, s⟩ := h
     have hlt := Zep ht
     exact WP.next ⟨(.ok (true, a ++ [p], r2), a ++ [p], sp3), ⟨⟨hj1, hj2⟩, by simp only [List.length_append, List.length_singleton]; omega, rfl, rfl, by simp only [List.length_append, List.length_singleton]; omega, h3, s⟩, by simp only [Ph.mu]; omega⟩
theorem Zn4 (kind proto : Int) : Zmf e kind proto ws = match Zd7 (tx "any") ws with
  | some r => Znb false [] (ZeF e proto r)
  | none => match Zh2 e kind [] ((Zd7 (tx "not") ws).getD ws) with
   | .error f => .error f
   | .ok (l, r) => Znb (Zd7 (tx "not") ws).isSome l (ZeF e proto r) := by
 unfold Zmf Zr5 Znb
 cases Zd7 (tx "any") ws with
 | some r =>
  simp only
  cases ZeF e proto r <;> rfl
 | none =>
  simp only
  cases Zh2 e kind [] ((Zd7 (tx "not") ws).getD ws) with
  | error f => rfl
  | ok q =>
   simp only
   cases ZeF e proto q.2 <;> rfl
theorem Zmo (s : Ss W (RrA b wl e m ws :: Hs) w) : WP (Zac (some (pt b 0))) w (fun r w' => Zpp W Hs b wl e m r w' (Zmf e m.Kind m.Proto ws)) := by
 unfold Zac
 rw [Zn4]
 refine WP.slot' s (fun _ w s => WP.slot' s (fun _ w s => WP.step (Ze5 s Zr4) ?_))
 intro y w h
 cases ht : Zd7 (tx "any") ws with
 | some r =>
  rw [ht] at h
  obtain ⟨rfl, s⟩ := h
  refine WP.ite (fun h => absurd rfl h) (fun _ => Zmg (sp := []) rfl rfl ?_)
  exact (s.mk0 (A := vec cPfx Za0.Nets [] []) Zdo).use [1, 0] rfl
 | none =>
  rw [ht] at h
  obtain ⟨rfl, s⟩ := h
  refine WP.ite (fun _ => WP.step (Ze5 s Ztq) ?_) (fun h => absurd (by decide) h)
  intro y w h
  have go : ∀ {w : World} {y : Bool} {r : List Wd}, Ss W (RrA b wl e m r :: Hs) w → WP (Zb9 (fun s_ : (Bool × Zae) => Zac.L2 (some (pt b 0)) s_.1 s_.2) (true, (⟨y, Za0.Nets, Za0.Ports⟩ : Zae))) w (fun r' w' => Zpp W Hs b wl e m r' w' (match Zh2 e m.Kind [] r with
   | .error f => .error f
   | .ok (l, r) => Znb y l (ZeF e m.Proto r))) := by
   intro w y r s
   exact ZnC (X := Zh2 e m.Kind [] r) (nt := y) (fun ns r h => by rw [h]) (fun f h => by rw [h]) ⟨rfl, rfl, rfl⟩ rfl rfl s
  cases hn : Zd7 (tx "not") ws with
  | some r =>
   rw [hn] at h
   obtain ⟨rfl, s⟩ := h
   exact go s
  | none =>
   rw [hn] at h
   obtain ⟨rfl, s⟩ := h
   exact go s
end
end Go.Proofs.YtpmhinidiplhiaaGreatDoor.Lx
