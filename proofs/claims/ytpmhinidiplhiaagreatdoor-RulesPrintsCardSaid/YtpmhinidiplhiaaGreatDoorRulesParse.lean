
import Derived.Test.YtpmhinidiplhiaaGreatDoorRulesLen
set_option linter.unusedVariables false
set_option linter.unusedSimpArgs false
namespace Go.Proofs.YtpmhinidiplhiaaGreatDoor.Lx
open Go Go.Proofs Go.RowKit
theorem Zpq : RSc ZaP zRl := ⟨rfl, rfl, rfl, rfl, rfl, rfl, rfl, rfl, rfl, rfl⟩
def Zua (r : Zag) (m : Za9) : HP := fun h => RSc r m ∧ seps [ZhO r.From m.From, ZhO r.To m.To] h
def ParR (W : World) (Hs : List HP) (r : Zag × Int × Int) (w : World) : PE Za9 → Prop
 | .ok m => r.2 = (0, 0) ∧ Ss W (Zua r.1 m :: Hs) w
 | .error f => r = (ZaP, f.1, f.2) ∧ f.1 ≠ 0 ∧ Ss W Hs w
abbrev Zko (b : Nat) (kvs : List (ByteArray × Int)) : HP := mapH cS (cI .i64) b kvs
def Zm2 (kvs : List (ByteArray × Int)) (seen : List (List Int)) : Prop := (∀ p ∈ kvs, p.2 > 0) ∧ ∀ t : ByteArray, (∃ x, (t, x) ∈ kvs) ↔ strI t ∈ seen
theorem Zjm : ∀ (l cur : List Int) (p : Int) (ws : List Wd), lexM cur p l = .ok ws → ws.length ≤ l.length + 1 ∧ (cur = [] → ws.length ≤ l.length) ∧ ∀ w ∈ ws, w.1.length ≤ cur.length + l.length
 | [], cur, p, ws, h => by
  have h : ws = if cur = [] then [] else [(cur, p - cur.length)] := by
   rw [lexM] at h
   exact (Except.ok.inj h).symm
  subst h
  split
  ·exact ⟨by simp, fun _ => by simp, by simp⟩
  ·rename_i hc
   exact ⟨by simp, fun h => absurd h hc, by simp⟩
 | c :: cs, cur, p, ws, h => by
  by_cases hw : Zin c = true
  ·rw [Zos hw] at h
   obtain ⟨h1, -, h3⟩ := Zjm cs _ _ _ h
   refine ⟨by simp; omega, fun hc => ?_, fun w hm => ?_⟩
   ·simp
    omega
   ·have := h3 w hm
    simp at this ⊢
    omega
  ·rw [Zot (by simpa using hw)] at h
   split at h
   ·cases h
   ·rename_i r hr
    cases h
    have key : r.length ≤ cs.length + 1 ∧ ∀ w ∈ r, w.1.length ≤ 1 + cs.length := by
     split at hr
     ·split at hr
      ·cases hr
      ·rename_i r' hr'
       cases hr
       obtain ⟨-, h2, h3⟩ := Zjm cs [] _ _ hr'
       refine ⟨by simp only [List.length_cons]; have := h2 rfl; omega, fun w hm => ?_⟩
       rcases List.mem_cons.1 hm with rfl | hm
       ·simp
       ·have := h3 w hm
        simp at this
        omega
     ·split at hr
      ·obtain ⟨-, h2, h3⟩ := Zjm cs [] _ _ hr
       refine ⟨by have := h2 rfl; omega, fun w hm => ?_⟩
       have := h3 w hm
       simp at this
       omega
      ·cases hr
    split
    ·rename_i hc
     refine ⟨by simp only [List.length_cons]; omega, fun _ => by simp only [List.length_cons]; omega, fun w hm => ?_⟩
     have := key.2 w hm
     simp only [List.length_cons]
     omega
    ·rename_i hc
     refine ⟨by simp only [List.length_cons]; omega, fun h => absurd h hc, fun w hm => ?_⟩
     rcases List.mem_cons.1 hm with rfl | hm
     ·simp
     ·have := key.2 w hm
      simp only [List.length_cons]
      omega
section
variable {W w : World} {Hs : List HP} {b : Nat} {wl : List ZaI} {e : Int} {m : Za9} {ws : List Wd} {f : PF}
theorem ldI {β : Type} {g : Int → M β} {Q : β → World → Prop} (s : Ss W (RrA b wl e m ws :: Hs) w) (k : ∀ i : Nat, i + ws.length = wl.length → WP (g (i : Int)) w Q) : WP (ld (cI .i64) (Addr.add (pt b 0) 1) >>= g) w Q := by
 obtain ⟨⟨rr, i⟩, hq, s1⟩ := Zgo s
 obtain ⟨h1, h2, h3, h4, h5, h6, h7⟩ := hq
 refine WP.ld (x := rr.i) s1 0 rfl (o := 1) rfl (Zbx _) ?_
 have h1 : rr.i = (i : Int) := h1
 have h4 : i ≤ wl.length := h4
 rw [h1]
 refine k i ?_
 have : ws.length = wl.length - i := by rw [h6]; simp
 omega
theorem ldID {β : Type} {g : Int → M β} {Q : β → World → Prop} (s : Ss W (RrD b f :: Hs) w) (k : ∀ i, WP (g i) w Q) : WP (ld (cI .i64) (Addr.add (pt b 0) 1) >>= g) w Q := by
 obtain ⟨rr, hq, s1⟩ := s.openx 0 rfl
 exact WP.ld (x := rr.i) s1 0 rfl (o := 1) rfl (Zbx _) (k _)
theorem ZgF (s : Ss W (RrD b f :: Hs) w) : WP (Zao.K1 b) w (fun r w' => ParR W Hs r w' (.error f)) := by
 unfold Zao.K1
 refine errD s (fun h => WP.ite (fun _ => WP.draw' s (fun w s => ?_)) (fun h' => absurd h h'))
 obtain ⟨rr, hq, s1⟩ := s.openx 0 rfl
 refine WP.ld (x := rr.err) s1 0 rfl (o := 19) rfl (ZdJ _) (WP.ld (x := rr.at_) s1 0 rfl (o := 20) rfl (Zff _) (WP.same (x := rr.at_) s1 0 rfl (o := 20) rfl (Zff _) (WP.same (x := rr.err) s1 0 rfl (o := 19) rfl (ZdJ _) (WP.ret ⟨?_, h, s.drop⟩))))
 rw [hq.1, hq.2.1]
theorem Zo2 (s : Ss W (RrA b wl e m ws :: Hs) w) : WP (Zao.K1 b) w (fun r w' => ParR W Hs r w' (.ok m)) := by
 unfold Zao.K1
 refine errA s (WP.ite (fun h => absurd rfl h) (fun _ => ?_))
 obtain ⟨⟨rr, i⟩, hq, s⟩ := Zgo s
 refine WP.ld (x := rr.rule) s 0 rfl (o := 3) rfl (ZbN _) (WP.ret ⟨rfl, ?_⟩)
 have s : Ss W ([ZhO rr.rule.From m.From, ZhO rr.rule.To m.To] ++ Hs) w := by
  have s := s.drop.drop
  exact s
 exact s.group.first (fun h hh => ⟨hq.2.2.2.2.2.2, hh⟩)
theorem Zrl {kvs : List (ByteArray × Int)} {seen : List (List Int)} {t : ByteArray} {x : Int} (h : Zm2 kvs seen) (hx : x > 0) : Zm2 (kvs ++ [(t, x)]) (strI t :: seen) := by
 refine ⟨fun p hp => ?_, fun u => ?_⟩
 ·rcases List.mem_append.1 hp with hp | hp
  ·exact h.1 p hp
  ·rw [List.mem_singleton.1 hp]
   exact hx
 ·rw [List.mem_cons, ← h.2 u]
  constructor
  ·rintro ⟨y, hy⟩
   rcases List.mem_append.1 hy with hy | hy
   ·exact .inr ⟨y, hy⟩
   ·have := List.mem_singleton.1 hy
    left
    rw [(Prod.mk.inj this).1]
  ·rintro (hu | ⟨y, hy⟩)
   ·have : u = t := by rw [← Zkk u, ← Zkk t, hu]
    exact ⟨x, List.mem_append_right _ (by rw [this]; simp)⟩
   ·exact ⟨y, List.mem_append_left _ hy⟩
theorem Zmx {r2 : Sl × Int} {b5 : Nat} (hl : r2.1.len = wl.length) (fi : Nat) (ef : nth Hs fi = some (NmP 2 ZfC)) {fuel : Nat} {X : PE Za9} (hX : Zjd e fuel [] m ws = X) (hf : ws.length < fuel) (hb : B255 (m.Set, m.Clear)) (hp : ws.length < wl.length) (s : Ss W (RrA b wl e m ws :: Zko b5 [] :: Hs) w) :
  WP (Zb9 (fun s_ : Unit => Zao.L1 r2 b b5) ()) w (fun r w' => ParR W Hs r w' X) := by
 refine WP.loopG (γ := PE (Nat × List (List Int) × Za9 × List Wd) × List (ByteArray × Int)) (fun g (_ : Unit) w => match g.1 with
   | .ok (fuel, seen, m, ws) => Zjd e fuel seen m ws = X ∧ ws.length < fuel ∧ B255 (m.Set, m.Clear) ∧ ws.length < wl.length ∧ Zm2 g.2 seen ∧ Ss W (RrA b wl e m ws :: Zko b5 g.2 :: Hs) w
   | .error f => X = .error f ∧ Ss W (RrD b f :: Zko b5 g.2 :: Hs) w) (fun g _ => match g.1 with
   | .ok (_, _, _, ws) => ws.length + 1
   | .error _ => 0) (.ok (fuel, [], m, ws), []) ⟨hX, hf, hb, hp, ⟨by simp, by simp⟩, s⟩ ?_
 clear s hX hf hb hp
 rintro ⟨g, kvs⟩ _ w h
 show WP (Zao.L1 r2 b b5) w _
 unfold Zao.L1
 cases g with
 | error f =>
  obtain ⟨hXf, s⟩ := h
  refine errD s (fun h => ?_)
  refine WP.step (R := fun y w' => y = false ∧ w = w') (WP.ite (fun h' => absurd h' h) (fun _ => WP.ret ⟨rfl, rfl⟩)) ?_
  rintro _ _ ⟨rfl, rfl⟩
  refine WP.ite (fun h => by cases h) (fun _ => WP.step (ZgF s) (fun r w h => WP.done ?_))
  rw [hXf]
  obtain ⟨q1, q2, s⟩ := h
  exact ⟨q1, q2, s.drop⟩
 | ok g =>
  obtain ⟨fuel, seen, m, ws⟩ := g
  obtain ⟨hX, hf, hb, hp, hs, s⟩ := h
  simp only at hX hf hb hp hs s
  obtain ⟨fu, rfl⟩ : ∃ k, fuel = k + 1 := ⟨fuel - 1, by omega⟩
  refine errA s ?_
  refine WP.step (R := fun y w' => y = decide (ws ≠ []) ∧ w = w') (WP.ite (fun _ => ldI s (fun i hi => WP.ret ⟨?_, rfl⟩)) (fun h => absurd rfl h)) ?_
  ·rw [hl]
   refine decide_eq_decide.2 ?_
   have : ws ≠ [] ↔ 0 < ws.length := List.length_pos_iff.symm
   rw [this]
   omega
  rintro _ _ ⟨rfl, rfl⟩
  cases ws with
  | nil =>
   refine WP.ite (fun h => by simp at h) (fun _ => WP.step (Zo2 s) (fun r w h => WP.done ?_))
   rw [← hX]
   obtain ⟨q1, s⟩ := h
   refine ⟨q1, ?_⟩
   have s := (s.use [1] rfl).drop
   exact s
  | cons x xs =>
   refine WP.ite (fun _ => WP.step (ZgB s) ?_) (fun h => absurd (by simp) h)
   rintro r w ⟨hx, s1⟩
   clear s
   have s := s1
   clear s1
   subst hx
   rw [show Zjd e (fu + 1) seen m (wdOf r :: xs) = if mayM seen m (strI r.s) = false then .error (165, r.at_) else match Zf6 e (strI r.s) m xs with
    | none => .error (160, r.at_)
    | some (.error q) => .error q
    | some (.ok (m', r')) => Zjd e fu (strI r.s :: seen) m' r' from rfl] at hX
   simp only [List.length_cons] at hf hp
   refine WP.slot' s (fun _ w s => ?_)
   -- what has been seen
   have cont : ∀ {v : Int × Bool}, (v.1 > 0 ↔ strI r.s ∈ seen) → WP ((if v.1 > 0 then pure true else (if r.s.toList = (Znh).toList then ld (cI .i64) (Addr.add (Addr.add (pt b 0) 3) 3) >>= fun x41 => pure (x41 != 6) else pure false) >>= fun y42 => pure y42) >>= fun y43 =>
     (if y43 = true then pure true else (if r.s.toList = (Zng).toList then ld (cI .i64) (Addr.add (Addr.add (pt b 0) 3) 3) >>= fun x44 => ZdF x44 >>= fun r45 => pure (!r45) else pure false) >>= fun y46 => pure y46) >>= fun y47 =>
     if y47 = true then ZaX (some (pt b 0)) 165 r.at_ >>= fun r49 => (Zao.K1 b) >>= fun b => pure (LS.done b)
     else ZaB (some (pt b 0)) r.s >>= fun r50 => if ¬ (r50 = true) then ZaX (some (pt b 0)) 160 r.at_ >>= fun r53 => Zao.K2 b b5 r else Zao.K2 b b5 r) w (WP.Rd (fun (_ : Unit) w => ∃ g' : PE (Nat × List (List Int) × Za9 × List Wd) × List (ByteArray × Int), (match g'.1 with
   | .ok (fuel, seen, m, ws) => Zjd e fuel seen m ws = X ∧ ws.length < fuel ∧ B255 (m.Set, m.Clear) ∧ ws.length < wl.length ∧ Zm2 g'.2 seen ∧ Ss W (RrA b wl e m ws :: Zko b5 g'.2 :: Hs) w
   | .error f => X = .error f ∧ Ss W (RrD b f :: Zko b5 g'.2 :: Hs) w) ∧ (match g'.1 with
   | .ok (_, _, _, ws) => ws.length + 1
   | .error _ => 0) < (wdOf r :: xs).length + 1) (fun r w' => ParR W Hs r w' X)) := by
    intro v hv
    have e1 : r.s.toList = (Znh).toList ↔ strI r.s = tx "flags" := by rw [ZbX, Zn2]
    have e2 : r.s.toList = (Zng).toList ↔ strI r.s = tx "type" := by rw [ZbX, Zpy]
    refine WP.step (R := fun y w' => y = decide (strI r.s ∈ seen ∨ (strI r.s = tx "flags" ∧ m.Proto ≠ 6)) ∧ w = w') (WP.ite (fun h => WP.ret ⟨(decide_eq_true (.inl (hv.1 h))).symm, rfl⟩) (fun h => ?_)) ?_
    ·have hn : strI r.s ∉ seen := fun h' => h (hv.2 h')
     refine WP.step (R := fun y w' => y = decide (strI r.s ∈ seen ∨ (strI r.s = tx "flags" ∧ m.Proto ≠ 6)) ∧ w = w') (WP.ite (fun h2 => ZpS s (WP.ret ⟨?_, rfl⟩)) (fun h2 => WP.ret ⟨?_, rfl⟩)) (fun y w h => WP.ret h)
     ·rw [Bool.eq_iff_iff, bne_iff_ne, decide_eq_true_iff]
      exact ⟨fun h' => .inr ⟨e1.1 h2, h'⟩, fun h' => h'.elim (fun h' => absurd h' hn) (fun h' => h'.2)⟩
     ·exact (decide_eq_false (fun h' => h'.elim hn (fun h' => h2 (e1.2 h'.1)))).symm
    rintro _ _ ⟨rfl, rfl⟩
    have hmay : mayM seen m (strI r.s) = false ↔ (strI r.s ∈ seen ∨ (strI r.s = tx "flags" ∧ m.Proto ≠ 6)) ∨ (strI r.s = tx "type" ∧ Zfm m.Proto = false) := by
     unfold mayM
     rw [decide_eq_false_iff_not]
     constructor
     ·intro h
      by_cases a1 : strI r.s ∈ seen
      ·exact .inl (.inl a1)
      by_cases a2 : strI r.s = tx "flags" ∧ m.Proto ≠ 6
      ·exact .inl (.inr a2)
      by_cases a3 : strI r.s = tx "type" ∧ Zfm m.Proto = false
      ·exact .inr a3
      exact absurd ⟨a1, fun h' => Decidable.byContradiction fun hn => a2 ⟨h', hn⟩, fun h' => by
       cases ht : Zfm m.Proto with
       | true => rfl
       | false => exact absurd ⟨h', ht⟩ a3⟩ h
     ·rintro ((h | ⟨h, h'⟩) | ⟨h, h'⟩) ⟨b1, b2, b3⟩
      ·exact b1 h
      ·exact h' (b2 h)
      ·rw [b3 h] at h'
       cases h'
    refine WP.step (R := fun y w' => y = !(mayM seen m (strI r.s)) ∧ w = w') (WP.ite (fun h => WP.ret ⟨?_, rfl⟩) (fun h => ?_)) ?_
    ·rw [hmay.2 (.inl (of_decide_eq_true h))]
     rfl
    ·have hn : ¬ (strI r.s ∈ seen ∨ (strI r.s = tx "flags" ∧ m.Proto ≠ 6)) := fun h' => h (decide_eq_true h')
     refine WP.step (R := fun y w' => y = !(mayM seen m (strI r.s)) ∧ w = w') (WP.ite (fun h2 => ZpS s (WP.step (Zn1 m.Proto) ?_)) (fun h2 => WP.ret ⟨?_, rfl⟩)) (fun y w h => WP.ret h)
     ·rintro _ _ ⟨rfl, rfl⟩
      refine WP.ret ⟨?_, rfl⟩
      cases ht : Zfm m.Proto with
      | false => rw [hmay.2 (.inr ⟨e2.1 h2, ht⟩)]
      | true =>
       cases hm : mayM seen m (strI r.s) with
       | true => rfl
       | false => exact absurd (hmay.1 hm) (fun h' => h'.elim hn (fun h' => by rw [ht] at h'; cases h'.2))
     ·cases hm : mayM seen m (strI r.s) with
      | true => rfl
      | false => exact absurd (hmay.1 hm) (fun h' => h'.elim hn (fun h' => h2 (e2.2 h'.1)))
    rintro _ _ ⟨rfl, rfl⟩
    cases hm : mayM seen m (strI r.s) with
    | false =>
     rw [if_pos hm] at hX
     refine WP.ite (fun _ => WP.step (Zdg s (by decide) r.at_) ?_) (fun h => absurd rfl h)
     intro _ w s
     refine WP.step (ZgF s) (fun r w h => WP.done ?_)
     rw [← hX]
     obtain ⟨q1, q2, s⟩ := h
     exact ⟨q1, q2, s.drop⟩
    | true =>
     rw [if_neg (by rw [hm]; decide)] at hX
     have hns : strI r.s ∉ seen := fun h' => by rw [hmay.2 (.inl (.inl h'))] at hm; cases hm
     have hkey : ∀ y, (r.s, y) ∉ kvs := fun y hy => hns ((hs.2 r.s).1 ⟨y, hy⟩)
     have deadK2 : ∀ {w : World} {f : PF}, X = .error f → Ss W (RrD b f :: Zko b5 kvs :: Hs) w → WP (Zao.K2 b b5 r) w (WP.Rd (fun (_ : Unit) w => ∃ g' : PE (Nat × List (List Int) × Za9 × List Wd) × List (ByteArray × Int), (match g'.1 with
       | .ok (fuel, seen, m, ws) => Zjd e fuel seen m ws = X ∧ ws.length < fuel ∧ B255 (m.Set, m.Clear) ∧ ws.length < wl.length ∧ Zm2 g'.2 seen ∧ Ss W (RrA b wl e m ws :: Zko b5 g'.2 :: Hs) w
       | .error f => X = .error f ∧ Ss W (RrD b f :: Zko b5 g'.2 :: Hs) w) ∧ (match g'.1 with
       | .ok (_, _, _, ws) => ws.length + 1
       | .error _ => 0) < (wdOf r :: xs).length + 1) (fun r w' => ParR W Hs r w' X)) := by
      intro w f hXf s
      unfold Zao.K2
      refine WP.draw' s (fun w s => ldID s (fun i => WP.mset (ck := cS) (cv := cI .i64) s 1 rfl hkey (fun w s => WP.next ⟨(.error f, kvs ++ [(r.s, i)]), ⟨hXf, s⟩, by simp⟩)))
     refine WP.ite (fun h => by cases h) (fun _ => WP.step (Znw hb (fi + 1) ef r.s s) ?_)
     intro y w h
     cases hc : Zf6 e (strI r.s) m xs with
     | none =>
      rw [hc] at h hX
      obtain ⟨rfl, s⟩ := h
      refine WP.ite (fun _ => WP.step (Zdg s (by decide) r.at_) ?_) (fun h => absurd (by decide) h)
      intro _ w s
      exact deadK2 hX.symm s
     | some Y =>
      rw [hc] at h hX
      obtain ⟨rfl, h⟩ := h
      refine WP.ite (fun h => absurd rfl h) (fun _ => ?_)
      cases Y with
      | error f => exact deadK2 hX.symm h
      | ok q =>
       obtain ⟨m', r'⟩ := q
       obtain ⟨c1, c2⟩ := Zkh hc
       have c1 : r'.length ≤ xs.length := c1
       unfold Zao.K2
       refine WP.draw' h (fun w s => ldI s (fun i (hi : i + r'.length = wl.length) => WP.mset (ck := cS) (cv := cI .i64) s 1 rfl hkey (fun w s => WP.next ⟨(.ok (fu, strI r.s :: seen, m', r'), kvs ++ [(r.s, (i : Int))]), ⟨hX, show r'.length < fu by omega, c2 hb, show r'.length < wl.length by omega, Zrl hs (by omega), s⟩, show r'.length + 1 < xs.length + 1 + 1 by omega⟩)))
   refine WP.mget (ck := cS) (cv := cI .i64) s 1 rfl (fun v hv => cont ?_) (fun h0 => cont ?_)
   ·exact ⟨fun _ => (hs.2 r.s).1 ⟨v, hv⟩, fun _ => hs.1 _ hv⟩
   ·refine ⟨fun h => absurd h (by decide), fun h => ?_⟩
    obtain ⟨v, hv⟩ := (hs.2 r.s).2 h
    exact absurd hv (h0 v)
theorem Zm4 (s : Ss W Hs w) (ia : Nat) (ea : nth Hs ia = some (NmP 0 actB)) (ik : Nat) (ek : nth Hs ik = some (NmP 1 ZhE)) (fi : Nat) (ef : nth Hs fi = some (NmP 2 ZfC)) (t : ByteArray) :
  WP (Zao t) w (fun r w' => ParR W Hs r w' (Zrp (strI t))) := by
 unfold Zao Zrp
 have hl := ZbJ t
 refine WP.slot' s (fun _ w s => WP.ite (fun h => WP.ret ?_) (fun h => ?_))
 ·rw [if_pos (show (strI t).length > 1024 by omega)]
  exact ⟨rfl, by decide, s⟩
 rw [if_neg (show ¬ (strI t).length > 1024 by omega)]
 refine WP.step (Zq4 s t (by omega)) ?_
 intro r2 w h
 cases hx : lexM [] 0 (strI t) with
 | error p =>
  rw [hx] at h
  obtain ⟨h1, s⟩ := h
  have hp := ZlI _ _ _ _ (by omega) hx
  refine WP.ite (fun _ => WP.ret ?_) (fun h => absurd (by omega) h)
  rw [h1]
  exact ⟨rfl, show (160 : Int) ≠ 0 by decide, s⟩
 | ok ws =>
  rw [hx] at h
  show WP _ w (fun r w' => ParR W Hs r w' (match Zpd ((strI t).length : Int) ws with
   | .error f => .error f
   | .ok (m, r) => Zjd ((strI t).length : Int) (ws.length + 1) [] m r))
  obtain ⟨h1, wl, sp, hw, s⟩ := h
  obtain ⟨l1, l2, l3⟩ := Zjm _ _ _ _ hx
  refine WP.ite (fun h => absurd h (by omega)) (fun _ => ?_)
  have hrl := (s.vec_len (i := 0) rfl).1
  have hwl : wl.length = ws.length := by rw [← hw, List.length_map]
  have hok : WlOk wl := by
   refine ⟨by omega, fun r hr => ?_⟩
   have := l3 (wdOf r) (by rw [← hw]; exact List.mem_map.2 ⟨r, hr, rfl⟩)
   have h2 : (strI r.s).length ≤ 0 + (strI t).length := this
   rw [ZbJ] at h2
   omega
  have s := s.vec_freeze
  refine WP.newv (c := Zbg) s (fun b w s => ?_)
  have s := (((s.mk0 (A := vec cRg Sl.nil [] []) Zdo).mk0 (A := vec cPfx Sl.nil [] []) Zdo))
  have s : Ss W (ZhO Za0 zSd :: (pts true (pt b 0) (cRr.enc ⟨r2.1, 0, (t.size : Int), ZaP, 0, 0⟩) :: rdS cWd false r2.1 wl :: Hs)) w := Zon (j := Za0) (nt := false) (ns := []) (ps := []) (sp := []) (sp2 := []) rfl s
  have s := (((s.mk0 (A := vec cRg Sl.nil [] []) Zdo).mk0 (A := vec cPfx Sl.nil [] []) Zdo))
  have s : Ss W (ZhO Za0 zSd :: (ZhO Za0 zSd :: pts true (pt b 0) (cRr.enc ⟨r2.1, 0, (t.size : Int), ZaP, 0, 0⟩) :: rdS cWd false r2.1 wl :: Hs)) w := Zon (j := Za0) (nt := false) (ns := []) (ps := []) (sp := []) (sp2 := []) rfl s
  have s : Ss W (RrHs b wl zRl ⟨r2.1, 0, (t.size : Int), ZaP, 0, 0⟩ ++ Hs) w := by
   have s := s.use [2, 2, 0, 0] rfl
   exact s
  have s : Ss W (RrA b wl ((strI t).length : Int) zRl ws :: Hs) w := Zi3 (q := (⟨r2.1, 0, (t.size : Int), ZaP, 0, 0⟩, 0)) ⟨rfl, by simp only; omega, rfl, Nat.zero_le _, hok, by rw [List.drop_zero]; exact hw.symm, Zpq⟩ s
  refine WP.step (Zs3 s ia ea ik ek) ?_
  intro _ w h
  cases hh : Zpd ((strI t).length : Int) ws with
  | error f =>
   rw [hh] at h
   refine WP.mkMap (ck := cS) (cv := cI .i64) (show Ss W (RrD b f :: Hs) w from h) (fun b5 w s => ?_)
   have s : Ss W (RrD b f :: Zko b5 [] :: Hs) w := by
    have s := s.use [1] rfl
    exact s
   -- the loop ends at once
   refine WP.loopG (γ := Unit) (fun _ (_ : Unit) w => Ss W (RrD b f :: Zko b5 [] :: Hs) w) (fun _ _ => 0) () s ?_
   clear s
   rintro _ _ w s
   show WP (Zao.L1 r2 b b5) w _
   unfold Zao.L1
   refine errD s (fun h => ?_)
   refine WP.step (R := fun y w' => y = false ∧ w = w') (WP.ite (fun h' => absurd h' h) (fun _ => WP.ret ⟨rfl, rfl⟩)) ?_
   rintro _ _ ⟨rfl, rfl⟩
   refine WP.ite (fun h => by cases h) (fun _ => WP.step (ZgF s) (fun r w h => WP.done ?_))
   obtain ⟨q1, q2, s⟩ := h
   exact ⟨q1, q2, s.drop⟩
  | ok q =>
   obtain ⟨m, r⟩ := q
   rw [hh] at h
   have hb : B255 (m.Set, m.Clear) ∧ r.length < ws.length := by
    cases ws with
    | nil => cases hh
    | cons x xs =>
     rw [show Zpd ((strI t).length : Int) (x :: xs) = match idxT actN x.1 with
      | none => .error (160, x.2)
      | some a => match Zid ((strI t).length : Int) a xs with
       | .error f => .error f
       | .ok (c, r) => match Zmb ((strI t).length : Int) r with
        | .error f => .error f
        | .ok (k, r) => .ok ({ zRl with Act := (a : Int) + 1, Class := c, Kind := k.1, Proto := k.2 }, r) from rfl] at hh
     split at hh
     ·cases hh
     ·split at hh
      ·cases hh
      ·rename_i a ha c r1 h1
       split at hh
       ·cases hh
       ·rename_i k r3 h3
        cases hh
        refine ⟨⟨by simp [zRl], by simp [zRl]⟩, ?_⟩
        have c1 : r1.length ≤ xs.length := by
         unfold Zid at h1
         split at h1
         ·split at h1
          ·cases h1
           exact Nat.le_refl _
          ·rename_i r4 h4
           have := Zep h4
           have := (Zjk h1).1
           omega
         ·cases h1
          exact Nat.le_refl _
        have c2 : r.length ≤ r1.length := by
         cases r1 with
         | nil => cases h3
         | cons y ys =>
          rw [ZkM] at h3
          have pl : ∀ {kd : Int} {v : Wd} {zs : List Wd} {n : Int} {u : List Wd}, ZgE ((strI t).length : Int) kd v zs = .ok (n, u) → u.length ≤ zs.length := by
           intro kd v zs n u hp
           unfold ZgE at hp
           split at hp
           ·cases hp
           ·split at hp
            ·cases hp
             exact Nat.le_refl _
            ·exact Nat.le_of_lt (Zjk hp).1
          split at h3
          ·cases h3
           simp
          ·split at h3
           ·split at h3
            ·split at h3
             ·cases h3
             ·rename_i h5
              have := pl h5
              cases h3
              simp
              omega
            ·cases h3
           ·unfold Zq9 at h3
            split at h3
            ·cases h3
             simp
            ·split at h3
             ·split at h3
              ·cases h3
              ·rename_i h5
               have := pl h5
               cases h3
               simp
               omega
             ·cases h3
              simp
        simp only [List.length_cons]
        omega
   refine WP.mkMap (ck := cS) (cv := cI .i64) (show Ss W (RrA b wl ((strI t).length : Int) m r :: Hs) w from h) (fun b5 w s => ?_)
   have s : Ss W (RrA b wl ((strI t).length : Int) m r :: Zko b5 [] :: Hs) w := by
    have s := s.use [1] rfl
    exact s
   exact Zmx (by omega) fi ef (fuel := ws.length + 1) rfl (by omega) hb.1 (by omega) s
end
end Go.Proofs.YtpmhinidiplhiaaGreatDoor.Lx
