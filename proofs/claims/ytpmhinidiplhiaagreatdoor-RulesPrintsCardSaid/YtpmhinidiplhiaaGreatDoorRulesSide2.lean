
import Derived.Test.YtpmhinidiplhiaaGreatDoorRulesSide
set_option linter.unusedVariables false
set_option linter.unusedSimpArgs false
namespace Go.Proofs.YtpmhinidiplhiaaGreatDoor.Lx
open Go Go.Proofs Go.RowKit
def Zho (a b : Option Int) : Option ZaZ := match a, b with
 | some a, some b => if a ≤ b then some ⟨a, b⟩ else none
 | _, _ => none
theorem ZpQ (t : List Int) : ZkS t = Zho (numR (t.take (ZbE t 45)) 0 65535) (numR (if ZbE t 45 < t.length then t.drop (ZbE t 45 + 1) else t.take (ZbE t 45)) 0 65535) := rfl
section
variable {W w : World} {Hs : List HP} {b : Nat} {wl : List ZaI} {e : Int} {m : Za9} {ws : List Wd} {f : PF}
theorem ZiX (s : Ss W (RrD b f :: Hs) w) (n : Int) (r : ZaI) (q : ByteArray × ByteArray × Bool) (t2 : ByteArray) : WP (ZaT.K1 (some (pt b 0)) n r q t2) w (fun _ w' => Ss W (RrD b f :: Hs) w') := by
 unfold ZaT.K1
 refine WP.step (Zi0 q.1 0 65535) ?_
 rintro x _ ⟨-, -, rfl⟩
 refine WP.step (Zi0 t2 0 65535) ?_
 rintro y _ ⟨-, -, rfl⟩
 refine WP.nilck (errD s (fun h => ?_))
 refine WP.step (R := fun y w' => y = false ∧ w = w') (WP.ite (fun h' => absurd h' h) (fun _ => WP.ret ⟨rfl, rfl⟩)) ?_
 rintro _ _ ⟨rfl, rfl⟩
 exact WP.ite (fun h => by cases h) (fun _ => WP.ret s)
theorem ZkY (s : Ss W (RrA b wl e m ws :: Hs) w) {n : Nat} (r : ZaI) (q : ByteArray × ByteArray × Bool) (t2 : ByteArray) : WP (ZaT.K1 (some (pt b 0)) (n : Int) r q t2) w (fun x w' => ResR W Hs b wl e m x w' (match Zho (numR (strI q.1) 0 65535) (numR (strI t2) 0 65535) with
  | none => .error (164, r.at_)
  | some p => if n = 16 then .error (164, r.at_) else .ok (p, ws))) := by
 unfold ZaT.K1
 refine WP.step (Zi0 q.1 0 65535) ?_
 rintro x _ ⟨a1, a2, rfl⟩
 refine WP.step (Zi0 t2 0 65535) ?_
 rintro y _ ⟨b1, b2, rfl⟩
 refine WP.nilck (errA s ?_)
 have bad : ∀ {w : World}, Ss W (RrA b wl e m ws :: Hs) w → WP (ZaX (some (pt b 0)) 164 r.at_ >>= fun r15 => pure (⟨x.1, y.1⟩ : ZaZ)) w (fun x w' => ResR W Hs b wl e m x w' (.error (164, r.at_))) := by
  intro w s
  refine WP.step (Zdg s (by decide) r.at_) ?_
  intro _ w s
  exact WP.ret s
 refine WP.step (R := fun z w' => z = decide (Zho (numR (strI q.1) 0 65535) (numR (strI t2) 0 65535) = none ∨ n = 16) ∧ w = w') (WP.ite (fun _ => ?_) (fun h => absurd rfl h)) ?_
 ·cases ha : numR (strI q.1) 0 65535 with
  | none =>
   rw [ha] at a1
   refine WP.step (R := fun z w' => z = true ∧ w = w') (WP.ite (fun _ => WP.ret ⟨rfl, rfl⟩) (fun h => absurd (by rw [a1]; decide) h)) ?_
   rintro _ _ ⟨rfl, rfl⟩
   refine WP.step (R := fun z w' => z = true ∧ w = w') (WP.ite (fun _ => WP.ret ⟨rfl, rfl⟩) (fun h => absurd rfl h)) ?_
   rintro _ _ ⟨rfl, rfl⟩
   refine WP.step (R := fun z w' => z = true ∧ w = w') (WP.ite (fun _ => WP.ret ⟨rfl, rfl⟩) (fun h => absurd rfl h)) ?_
   rintro _ _ ⟨rfl, rfl⟩
   exact WP.ret ⟨(decide_eq_true (.inl rfl)).symm, rfl⟩
  | some v =>
   have hv := a2 v ha
   rw [ha] at a1
   refine WP.step (R := fun z w' => z = !y.2 ∧ w = w') (WP.ite (fun h => absurd a1 h) (fun _ => WP.ret ⟨rfl, rfl⟩)) ?_
   rintro _ _ ⟨rfl, rfl⟩
   cases hb : numR (strI t2) 0 65535 with
   | none =>
    rw [hb] at b1
    have b1 : y.2 = false := b1
    rw [b1]
    refine WP.step (R := fun z w' => z = true ∧ w = w') (WP.ite (fun _ => WP.ret ⟨rfl, rfl⟩) (fun h => absurd rfl h)) ?_
    rintro _ _ ⟨rfl, rfl⟩
    refine WP.step (R := fun z w' => z = true ∧ w = w') (WP.ite (fun _ => WP.ret ⟨rfl, rfl⟩) (fun h => absurd rfl h)) ?_
    rintro _ _ ⟨rfl, rfl⟩
    exact WP.ret ⟨(decide_eq_true (.inl rfl)).symm, rfl⟩
   | some u =>
    have hu := b2 u hb
    rw [hb] at b1
    have b1 : y.2 = true := b1
    rw [b1, hv, hu]
    refine WP.step (R := fun z w' => z = decide (v > u) ∧ w = w') (WP.ite (fun h => by cases h) (fun _ => WP.ret ⟨rfl, rfl⟩)) ?_
    rintro _ _ ⟨rfl, rfl⟩
    refine WP.step (R := fun z w' => z = decide (Zho (some v) (some u) = none ∨ n = 16) ∧ w = w') (WP.ite (fun h => WP.ret ⟨?_, rfl⟩) (fun h => WP.ret ⟨?_, rfl⟩)) (fun z w h => WP.ret h)
    ·have := of_decide_eq_true h
     refine (decide_eq_true (.inl ?_)).symm
     unfold Zho
     simp only
     rw [if_neg (by omega)]
    ·have h' : ¬ v > u := fun h' => h (decide_eq_true h')
     rw [Bool.eq_iff_iff, beq_iff_eq, decide_eq_true_iff]
     constructor
     ·intro hn
      exact .inr (by omega)
     ·rintro (h2 | h2)
      ·unfold Zho at h2
       simp only at h2
       rw [if_pos (by omega)] at h2
       cases h2
      ·omega
 rintro _ _ ⟨rfl, rfl⟩
 refine WP.ite (fun h => ?_) (fun h => WP.ret ?_)
 ·cases hr : Zho (numR (strI q.1) 0 65535) (numR (strI t2) 0 65535) with
  | none => exact bad s
  | some p =>
   have := of_decide_eq_true h
   rw [hr] at this
   have hn : n = 16 := this.elim (fun h => by cases h) id
   simp only
   rw [if_pos hn]
   exact bad s
 ·have hh : ¬ (Zho (numR (strI q.1) 0 65535) (numR (strI t2) 0 65535) = none ∨ n = 16) := fun h' => h (decide_eq_true h')
  cases hr : Zho (numR (strI q.1) 0 65535) (numR (strI t2) 0 65535) with
  | none => exact absurd (.inl hr) hh
  | some p =>
   simp only
   rw [if_neg (fun h => hh (.inr h))]
   refine ⟨?_, s⟩
   cases ha : numR (strI q.1) 0 65535 with
   | none => rw [ha] at hr; cases hr
   | some v =>
    cases hb : numR (strI t2) 0 65535 with
    | none => rw [ha, hb] at hr; cases hr
    | some u =>
     rw [ha, hb] at hr
     rw [a2 v ha, b2 u hb]
     unfold Zho at hr
     simp only at hr
     split at hr
     ·exact Option.some.inj hr
     ·cases hr
theorem ZoX (s : Ss W (RrA b wl e m ws :: Hs) w) (n : Nat) : WP (ZaT (some (pt b 0)) (n : Int)) w (fun x w' => ResR W Hs b wl e m x w' (Zmp e n ws)) := by
 unfold ZaT
 have hws := wsOk s
 refine WP.slot' s (fun _ w s => WP.step (ZgC s) ?_)
 intro r w h
 have dead : ∀ {w : World} {f : PF}, r.s.size ≤ 2000 → Ss W (RrD b f :: Hs) w → WP (slot 129 >>= fun b3 => Zc3 r.s ZjF >>= fun r4 => (if ¬ (r4.2.2 = true) then ZaT.K1 (some (pt b 0)) (n : Int) r r4 r4.1 else ZaT.K1 (some (pt b 0)) (n : Int) r r4 r4.2.1)) w (fun _ w' => Ss W (RrD b f :: Hs) w') := by
  intro w f hs s
  refine WP.slot' s (fun _ w s => WP.step (Zq2 s r.s (by omega) (q := 45) (by decide) ZpB) ?_)
  rintro q w ⟨-, -, s⟩
  exact WP.ite (fun _ => ZiX s _ _ _ _) (fun _ => ZiX s _ _ _ _)
 cases ws with
 | nil =>
  obtain ⟨hz, s1⟩ := h
  exact dead (by rw [hz]; decide) s1
 | cons x xs =>
  obtain ⟨hx, s1⟩ := h
  clear s
  have s := s1
  clear s1
  subst hx
  have hsz : r.s.size ≤ 2000 := by
   have := hws _ (List.mem_cons_self ..)
   rw [← ZbJ]
   exact this
  rw [ZhB]
  by_cases hc : (wdOf r).1 = comma
  ·rw [if_pos hc] at s ⊢
   exact dead hsz s
  rw [if_neg hc] at s ⊢
  have hr : (wdOf r).1 = strI r.s := rfl
  have hl := ZbJ r.s
  rw [hr, ZpQ]
  refine WP.slot' s (fun _ w s => WP.step (Zq2 s r.s (by omega) (q := 45) (by decide) ZpB) ?_)
  rintro q w ⟨⟨c1, c2⟩, c3, s⟩
  have c1 : q.2.2 = decide (ZbE (strI r.s) 45 < r.s.size) := c1
  have c2 : ZbE (strI r.s) 45 < r.s.size → strI q.1 = (strI r.s).take (ZbE (strI r.s) 45) ∧ strI q.2.1 = (strI r.s).drop (ZbE (strI r.s) 45 + 1) := c2
  have c3 : ¬ ZbE (strI r.s) 45 < r.s.size → q.1 = r.s := c3
  by_cases hf : ZbE (strI r.s) 45 < r.s.size
  ·rw [if_pos (show ZbE (strI r.s) 45 < (strI r.s).length by omega), ← (c2 hf).1, ← (c2 hf).2]
   exact WP.ite (fun h => absurd (by rw [c1]; exact decide_eq_true hf) h) (fun _ => ZkY s r q q.2.1)
  ·have hle := Zqy (strI r.s) 45
   have e1 : (strI r.s).take (ZbE (strI r.s) 45) = strI q.1 := by
    rw [List.take_of_length_le (by omega), c3 hf]
   rw [if_neg (show ¬ ZbE (strI r.s) 45 < (strI r.s).length by omega), e1]
   exact WP.ite (fun _ => ZkY s r q q.1) (fun h => absurd (by rw [c1, decide_eq_false hf]; decide) h)
def Zpp (W : World) (Hs : List HP) (b : Nat) (wl : List ZaI) (e : Int) (m : Za9) (r : Zae) (w : World) : PE (ZcT × List Wd) → Prop
 | .ok q => Ss W (ZhO r q.1 :: RrA b wl e m q.2 :: Hs) w
 | .error f => Ss W (RrD b f :: Hs) w
theorem Zon {j : Zae} {nt : Bool} {ns sp : List Zap} {ps sp2 : List ZaZ} (h : j.Not = nt) (s : Ss W (vec cPfx j.Nets ns sp :: vec cRg j.Ports ps sp2 :: Hs) w) : Ss W (ZhO j ⟨nt, ns, ps⟩ :: Hs) w :=
 (Ss.group (l := [vec cPfx j.Nets ns sp, vec cRg j.Ports ps sp2]) s).first (fun h' hh => ⟨(sp, sp2), h, hh⟩)
abbrev Ph (α : Type) := PE (Bool × List α × List Wd)
def Ph.mu {α : Type} : Ph α → Nat
 | .ok (true, _, ws) => ws.length + 1
 | _ => 0
theorem ZiW {X : PE (List ZaZ × List Wd)} {Z : PE (ZcT × List Wd)} {nt : Bool} {nn : Sl} {ns sp : List Zap} (hX : ∀ ps r, X = .ok (ps, r) → Z = .ok (⟨nt, ns, ps⟩, r)) (hE : ∀ f, X = .error f → Z = .error f) (g : Ph ZaZ) {x : Bool × Zae} {acc : List ZaZ} {sp2 : List ZaZ}
  (hx : x.2.Not = nt ∧ x.2.Nets = nn) (hacc : acc.length ≤ 17)
  (h : match g with
   | .ok (more, a, ws) => x.1 = more ∧ a = acc ∧ acc.length ≤ 16 ∧ (if more = true then ZfP e acc ws else .ok (acc, ws)) = X ∧ Ss W (vec cPfx nn ns sp :: vec cRg x.2.Ports acc sp2 :: RrA b wl e m ws :: Hs) w
   | .error f => X = .error f ∧ Ss W (vec cPfx nn ns sp :: vec cRg x.2.Ports acc sp2 :: RrD b f :: Hs) w) :
  WP (Zb9 (fun s_ : (Bool × Zae) => Zac.L1 (some (pt b 0)) s_.1 s_.2) x) w (fun r w' => Zpp W Hs b wl e m r w' Z) := by
 refine WP.loopG (γ := Ph ZaZ × List ZaZ × List ZaZ) (fun g (x : Bool × Zae) w => (x.2.Not = nt ∧ x.2.Nets = nn) ∧ g.2.1.length ≤ 17 ∧ (match g.1 with
   | .ok (more, a, ws) => x.1 = more ∧ a = g.2.1 ∧ g.2.1.length ≤ 16 ∧ (if more = true then ZfP e g.2.1 ws else .ok (g.2.1, ws)) = X ∧ Ss W (vec cPfx nn ns sp :: vec cRg x.2.Ports g.2.1 g.2.2 :: RrA b wl e m ws :: Hs) w
   | .error f => X = .error f ∧ Ss W (vec cPfx nn ns sp :: vec cRg x.2.Ports g.2.1 g.2.2 :: RrD b f :: Hs) w)) (fun g _ => g.1.mu) (g, acc, sp2) ⟨hx, hacc, h⟩ ?_
 clear h hx hacc
 rintro ⟨g, acc, sp2⟩ ⟨more, j⟩ w ⟨⟨hj1, hj2⟩, hacc, h⟩
 simp only at hj1 hj2 hacc h
 show WP (Zac.L1 (some (pt b 0)) more j) w _
 unfold Zac.L1
 cases g with
 | error f =>
  obtain ⟨hXf, s⟩ := h
  have s1 : Ss W (RrD b f :: (vec cPfx nn ns sp :: vec cRg j.Ports acc sp2 :: Hs)) w := by
   have s := s.use [2] rfl
   exact s
  refine WP.step (R := fun y w' => y = false ∧ w = w') (WP.ite (fun _ => WP.nilck (errD s1 (fun h => WP.ret ⟨beq_eq_false_iff_ne.2 h, rfl⟩))) (fun _ => WP.ret ⟨rfl, rfl⟩)) ?_
  rintro _ _ ⟨rfl, rfl⟩
  refine WP.ite (fun h => by cases h) (fun _ => WP.done ?_)
  rw [hE f hXf]
  have s := (s1.use [1, 1] rfl).drop.drop
  exact s
 | ok g =>
  obtain ⟨mr, a, ws⟩ := g
  obtain ⟨h1, h2, h16, h3, s⟩ := h
  subst h1
  subst h2
  have s1 : Ss W (RrA b wl e m ws :: (vec cPfx nn ns sp :: vec cRg j.Ports a sp2 :: Hs)) w := by
   have s := s.use [2] rfl
   exact s
  cases more with
  | false =>
   refine WP.step (R := fun y w' => y = false ∧ w = w') (WP.ite (fun h => by cases h) (fun _ => WP.ret ⟨rfl, rfl⟩)) ?_
   rintro _ _ ⟨rfl, rfl⟩
   refine WP.ite (fun h => by cases h) (fun _ => WP.done ?_)
   rw [hX a ws h3.symm]
   have s2 : Ss W (vec cPfx j.Nets ns sp :: vec cRg j.Ports a sp2 :: (RrA b wl e m ws :: Hs)) w := by
    rw [hj2]
    exact s
   exact Zon hj1 s2
  | true =>
   refine WP.step (R := fun y w' => y = true ∧ w = w') (WP.ite (fun _ => WP.nilck (errA s1 (WP.ret ⟨rfl, rfl⟩))) (fun h => absurd rfl h)) ?_
   rintro _ _ ⟨rfl, rfl⟩
   refine WP.ite (fun _ => WP.draw' s1 (fun w s => ?_)) (fun h => absurd rfl h)
   have hpl := (s.vec_len (i := 2) rfl).1
   rw [hpl]
   refine WP.step (ZoX s a.length) ?_
   intro p w h
   simp only [if_true] at h3
   rw [ZjQ] at h3
   cases hr : Zmp e a.length ws with
   | error f =>
    rw [hr] at h h3
    refine WP.slot' h (fun _ w s => WP.appl s 2 rfl (by simp only [List.length_singleton]; omega) (by decide) (fun q w sp3 s => ?_))
    have s : Ss W (RrD b f :: (vec cPfx nn ns sp :: vec cRg q (a ++ [p]) sp3 :: Hs)) w := s
    refine WP.step (Ze6 s _) ?_
    rintro _ w ⟨rfl, s⟩
    refine WP.next ⟨(.error f, a ++ [p], sp3), ⟨⟨hj1, hj2⟩, by simp only [List.length_append, List.length_singleton]; omega, h3.symm, ?_⟩, by simp [Ph.mu]⟩
    have s := s.use [1, 1, 0] rfl
    exact s
   | ok q =>
    obtain ⟨p', r⟩ := q
    rw [hr] at h h3
    obtain ⟨hp, s⟩ := h
    simp only at hp s h3
    subst hp
    have hlen := ZkT hr
    refine WP.slot' s (fun _ w s => WP.appl s 2 rfl (by simp only [List.length_singleton]; omega) (by decide) (fun q w sp3 s => ?_))
    have s : Ss W (RrA b wl e m r :: (vec cPfx nn ns sp :: vec cRg q (a ++ [p]) sp3 :: Hs)) w := s
    refine WP.step (Ze5 s ZgZ) ?_
    intro y w h
    cases ht : Zd7 comma r with
    | none =>
     rw [ht] at h h3
     obtain ⟨rfl, s⟩ := h
     refine WP.next ⟨(.ok (false, a ++ [p], r), a ++ [p], sp3), ⟨⟨hj1, hj2⟩, by simp only [List.length_append, List.length_singleton]; omega, rfl, rfl, by simp only [List.length_append, List.length_singleton]; omega, h3, ?_⟩, by simp [Ph.mu]⟩
     have s := s.use [1, 1, 0] rfl
     exact s
    | some r2 =>
     rw [ht] at h h3
     obtain ⟨rfl, s⟩ := h
     have hlt := Zep ht
     refine WP.next ⟨(.ok (true, a ++ [p], r2), a ++ [p], sp3), ⟨⟨hj1, hj2⟩, by simp only [List.length_append, List.length_singleton]; omega, rfl, rfl, by simp only [List.length_append, List.length_singleton]; omega, h3, ?_⟩, by simp only [Ph.mu]; omega⟩
     have s := s.use [1, 1, 0] rfl
     exact s
end
end Go.Proofs.YtpmhinidiplhiaaGreatDoor.Lx
