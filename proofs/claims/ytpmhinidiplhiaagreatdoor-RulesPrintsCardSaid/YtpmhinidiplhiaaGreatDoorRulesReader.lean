
import Derived.Test.YtpmhinidiplhiaaGreatDoorRulesWords
set_option linter.unusedVariables false
set_option linter.unusedSimpArgs false
namespace Go.Proofs.YtpmhinidiplhiaaGreatDoor.Lx
open Go Go.Proofs Go.RowKit
theorem At.trans' {l m k m' l' : List Value} {o o' : Nat} (h : At l o m) (h' : Upd m o' k m') (hl : Upd l o m' l') : Upd l (o + o') k l' := Upd.trans h h' hl
abbrev cRr := Zbg
abbrev cRg := Zbb
abbrev cPfx := ZaF
theorem Ztp : strI str4 = tx "tcp" := by decide +kernel
theorem Zto : strI str5 = tx "udp" := by decide +kernel
theorem Zsn : strI str6 = tx "icmp" := by decide +kernel
theorem Zrf : strI str7 = tx "icmp6" := by decide +kernel
theorem Zre : strI Ztu = tx "proto" := by decide +kernel
theorem ZgZ : strI ZeE = comma := by decide +kernel
def RSc (r : Zag) (m : Za9) : Prop := r.Act = m.Act ∧ r.Class = m.Class ∧ r.Kind = m.Kind ∧ r.Proto = m.Proto ∧ r.In = m.In ∧ r.Vid = m.Vid ∧ r.Set = m.Set ∧ r.Clear = m.Clear ∧ r.Type_ = m.Type_ ∧ r.Pieces = m.Pieces
def ZhO (sd : Zae) (m : ZcT) : HP := ex (fun _ : List Zap × List ZaZ => sd.Not = m.Not) (fun q => seps [vec cPfx sd.Nets m.nets q.1, vec cRg sd.Ports m.ports q.2])
def WlOk (wl : List ZaI) : Prop := wl.length ≤ 2000 ∧ ∀ r ∈ wl, r.s.size ≤ 2000
def RrFs (e : Int) (wl : List ZaI) (m : Za9) (ws : List Wd) (q : Zbi × Nat) : Prop := q.1.i = (q.2 : Int) ∧ q.1.end_ = e ∧ q.1.err = 0 ∧ q.2 ≤ wl.length ∧ WlOk wl ∧ ws = (wl.drop q.2).map wdOf ∧ RSc q.1.rule m
def RrHs (b : Nat) (wl : List ZaI) (m : Za9) (rr : Zbi) : List HP := [pts true (pt b 0) (cRr.enc rr), rdS cWd false rr.l wl, ZhO rr.rule.From m.From, ZhO rr.rule.To m.To]
def RrA (b : Nat) (wl : List ZaI) (e : Int) (m : Za9) (ws : List Wd) : HP := ex (RrFs e wl m ws) (fun q => seps (RrHs b wl m q.1))
def RrD (b : Nat) (f : PF) : HP := ex (fun rr : Zbi => rr.err = f.1 ∧ rr.at_ = f.2 ∧ f.1 ≠ 0) (fun rr => pts true (pt b 0) (cRr.enc rr))
section
variable {W w : World} {Hs : List HP} {b : Nat} {wl : List ZaI} {e : Int} {m : Za9} {ws : List Wd} {f : PF}
theorem Zgo (s : Ss W (RrA b wl e m ws :: Hs) w) : ∃ q, RrFs e wl m ws q ∧ Ss W (RrHs b wl m q.1 ++ Hs) w := by
 obtain ⟨q, hq, s⟩ := s.openx 0 rfl
 exact ⟨q, hq, Ss.split s⟩
theorem Zi3 {q : Zbi × Nat} (hq : RrFs e wl m ws q) (s : Ss W (RrHs b wl m q.1 ++ Hs) w) : Ss W (RrA b wl e m ws :: Hs) w := s.group.first (fun h hh => ⟨q, hq, hh⟩)
theorem Zsc {rr : Zbi} (h1 : rr.err = f.1) (h2 : rr.at_ = f.2) (h3 : f.1 ≠ 0) (s : Ss W (pts true (pt b 0) (cRr.enc rr) :: Hs) w) : Ss W (RrD b f :: Hs) w := s.first (fun h hh => ⟨rr, ⟨h1, h2, h3⟩, hh⟩)
theorem wsOk (s : Ss W (RrA b wl e m ws :: Hs) w) : ∀ x ∈ ws, x.1.length ≤ 2000 := by
 obtain ⟨q, hq, s⟩ := Zgo s
 intro x hx
 rw [hq.2.2.2.2.2.1] at hx
 obtain ⟨r, hr, rfl⟩ := List.mem_map.1 hx
 have := hq.2.2.2.2.1.2 r (List.mem_of_mem_drop hr)
 show (strI r.s).length ≤ 2000
 rw [ZbJ]
 exact this
theorem errA {β : Type} {g : Int → M β} {Q : β → World → Prop} (s : Ss W (RrA b wl e m ws :: Hs) w) (k : WP (g 0) w Q) : WP (ld (cI .i64) (Addr.add (pt b 0) 19) >>= g) w Q := by
 obtain ⟨q, hq, s1⟩ := Zgo s
 refine WP.ld (x := q.1.err) s1 0 rfl (o := 19) rfl (ZdJ _) ?_
 rw [hq.2.2.1]
 exact k
theorem errD {β : Type} {g : Int → M β} {Q : β → World → Prop} (s : Ss W (RrD b f :: Hs) w) (k : f.1 ≠ 0 → WP (g f.1) w Q) : WP (ld (cI .i64) (Addr.add (pt b 0) 19) >>= g) w Q := by
 obtain ⟨rr, hq, s1⟩ := s.openx 0 rfl
 refine WP.ld (x := rr.err) s1 0 rfl (o := 19) rfl (ZdJ _) ?_
 rw [hq.1]
 exact k hq.2.2
theorem ZnK {β : Type} {g : Int → M β} {Q : β → World → Prop} (s : Ss W (RrA b wl e m ws :: Hs) w) (k : WP (g m.Kind) w Q) : WP (ld (cI .i64) (Addr.add (Addr.add (pt b 0) 3) 2) >>= g) w Q := by
 obtain ⟨q, hq, s1⟩ := Zgo s
 refine WP.ld (x := q.1.rule.Kind) s1 0 rfl (o := 5) rfl ((ZbN _).trans (Zbk _)) ?_
 rw [hq.2.2.2.2.2.2.2.2.1]
 exact k
theorem ZpS {β : Type} {g : Int → M β} {Q : β → World → Prop} (s : Ss W (RrA b wl e m ws :: Hs) w) (k : WP (g m.Proto) w Q) : WP (ld (cI .i64) (Addr.add (Addr.add (pt b 0) 3) 3) >>= g) w Q := by
 obtain ⟨q, hq, s1⟩ := Zgo s
 refine WP.ld (x := q.1.rule.Proto) s1 0 rfl (o := 6) rfl ((ZbN _).trans (Za1 _)) ?_
 rw [hq.2.2.2.2.2.2.2.2.2.1]
 exact k
def ZuC (W : World) (Hs : List HP) (b : Nat) (wl : List ZaI) (e : Int) (m : Za9) (r : ZaI) (w : World) : List Wd → Prop
 | [] => r = ZcD ∧ Ss W (RrD b (161, e) :: Hs) w
 | x :: xs => wdOf r = x ∧ Ss W (RrA b wl e m xs :: Hs) w
def ZuD (W : World) (Hs : List HP) (b : Nat) (wl : List ZaI) (e : Int) (m : Za9) (r : ZaI) (w : World) : List Wd → Prop
 | [] => r = ZcD ∧ Ss W (RrD b (161, e) :: Hs) w
 | x :: xs => wdOf r = x ∧ Ss W ((if x.1 = comma then RrD b (160, x.2) else RrA b wl e m xs) :: Hs) w
def Zt9 (W : World) (Hs : List HP) (b : Nat) (wl : List ZaI) (e : Int) (m : Za9) (ws : List Wd) (r : Bool) (w : World) : Option (List Wd) → Prop
 | some xs => r = true ∧ Ss W (RrA b wl e m xs :: Hs) w
 | none => r = false ∧ Ss W (RrA b wl e m ws :: Hs) w
def ResR {α : Type} (W : World) (Hs : List HP) (b : Nat) (wl : List ZaI) (e : Int) (m : Za9) (r : α) (w : World) : PE (α × List Wd) → Prop
 | .ok q => r = q.1 ∧ Ss W (RrA b wl e m q.2 :: Hs) w
 | .error f => Ss W (RrD b f :: Hs) w
def RulR (W : World) (Hs : List HP) (b : Nat) (wl : List ZaI) (e : Int) (w : World) : PE (Za9 × List Wd) → Prop
 | .ok q => Ss W (RrA b wl e q.1 q.2 :: Hs) w
 | .error f => Ss W (RrD b f :: Hs) w
theorem Zdg (s : Ss W (RrA b wl e m ws :: Hs) w) {e' : Int} (he : e' ≠ 0) (a' : Int) : WP (ZaX (some (pt b 0)) e' a') w (fun _ w' => Ss W (RrD b (e', a') :: Hs) w') := by
 unfold ZaX
 refine WP.nilck (errA s (WP.ite (fun _ => ?_) (fun h => absurd rfl h)))
 obtain ⟨q, hq, s⟩ := Zgo s
 have s : Ss W (pts true (pt b 0) (cRr.enc q.1) :: Hs) w := by
  have s := (s.use [1, 1, 1] rfl).drop.drop.drop
  exact s
 refine WP.nilck (WP.st s 0 rfl (o := 19) rfl (ZhK _ _) (fun w s => WP.nilck (WP.st s 0 rfl (o := 20) rfl (ZhL _ _) (fun w s => WP.ret ?_))))
 exact Zsc rfl rfl he s
theorem Zib {i : Nat} {x : Wd} {xs : List Wd} (h : x :: xs = (wl.drop i).map wdOf) : ∃ r, wl[i]? = some r ∧ wdOf r = x ∧ xs = (wl.drop (i + 1)).map wdOf ∧ i < wl.length := by
 have h1 : i < wl.length := Decidable.byContradiction fun hn => by
  rw [List.drop_of_length_le (by omega)] at h
  cases h
 rw [List.drop_eq_getElem_cons h1, List.map_cons] at h
 injection h with h2 h3
 exact ⟨wl[i], List.getElem?_eq_getElem h1, h2.symm, h3, h1⟩
theorem ZlQ {i : Nat} (h : ([] : List Wd) = (wl.drop i).map wdOf) (hi : i ≤ wl.length) : i = wl.length := by
 have := congrArg List.length h
 simp at this
 omega
theorem ZgB (s : Ss W (RrA b wl e m ws :: Hs) w) : WP (ZaN (some (pt b 0))) w (fun r w' => ZuC W Hs b wl e m r w' ws) := by
 unfold ZaN
 refine WP.slot' s (fun _ w s => WP.draw' s (fun w s => WP.nilck (errA s ?_)))
 refine WP.step (R := fun y w' => y = decide (ws = []) ∧ w = w') (WP.ite (fun _ => ?_) (fun h => absurd rfl h)) ?_
 ·obtain ⟨q, hq, s⟩ := Zgo s
  have hl := (s.rd_cap (i := 1) rfl).1
  refine WP.nilck (WP.ld (x := q.1.i) s 0 rfl (o := 1) rfl (Zbx _) (WP.nilck (WP.ld (x := q.1.l) s 0 rfl (o := 0) (by simp [Addr.add]) (Zb3 _) (WP.ret ⟨?_, rfl⟩))))
  rw [hq.1, hl, Bool.eq_iff_iff, beq_iff_eq, decide_eq_true_iff, hq.2.2.2.2.2.1]
  have := hq.2.2.2.1
  constructor
  ·intro h
   rw [List.drop_of_length_le (by omega)]
   rfl
  ·intro h
   have := ZlQ h.symm hq.2.2.2.1
   omega
 rintro _ _ ⟨rfl, rfl⟩
 cases ws with
 | nil =>
  refine WP.ite (fun _ => ?_) (fun h => absurd (decide_eq_true rfl) h)
  have he : ∀ {β : Type} {g : Int → M β} {Q : β → World → Prop}, WP (g e) w Q → WP (ld (cI .i64) (Addr.add (pt b 0) 2) >>= g) w Q := by
   intro β g Q k
   obtain ⟨q, hq, s⟩ := Zgo s
   refine WP.ld (x := q.1.end_) s 0 rfl (o := 2) rfl (Zhl _) ?_
   rw [hq.2.1]
   exact k
  refine WP.nilck (he (WP.step (Zdg s (by decide) e) ?_))
  intro _ w s
  unfold ZaN.K1
  exact WP.nilck (errD s (fun h => WP.ite (fun _ => WP.ret ⟨rfl, s⟩) (fun h' => absurd h h')))
 | cons x xs =>
  refine WP.ite (fun h => by simp at h) (fun _ => ?_)
  unfold ZaN.K1
  refine WP.nilck (errA s (WP.ite (fun h => absurd rfl h) (fun _ => ?_)))
  obtain ⟨⟨rr, i⟩, hq, s⟩ := Zgo s
  obtain ⟨h1, h2, h3, h4, h5, h6, h7⟩ := hq
  have h50 := h5.1
  simp only at h1 h2 h3 h4 h5 h6 h7 s
  obtain ⟨r, hr, hx, hxs, hi⟩ := Zib h6
  have hw : IntKind.wrap .i64 ((i : Int) + 1) = ((i + 1 : Nat) : Int) := by
   rw [Zah (by omega) (by omega)]
   omega
  have hw2 : IntKind.wrap .i64 (((i + 1 : Nat) : Int) - 1) = (i : Int) := by
   rw [Zah (by omega) (by omega)]
   omega
  refine WP.nilck (WP.ld (x := rr.i) s 0 rfl (o := 1) rfl (Zbx _) (WP.nilck ?_))
  rw [h1, hw]
  refine WP.st s 0 rfl (o := 1) rfl (ZeI _ _) (fun w s => WP.draw' s (fun w s => WP.nilck (WP.ld (x := rr.l) s 0 rfl (o := 0) (by simp [Addr.add]) (Zb3 _) (WP.nilck (WP.ld (x := ((i + 1 : Nat) : Int)) s 0 rfl (o := 1) rfl (Zbx _) ?_)))))
  rw [hw2]
  refine WP.rdx s 1 rfl ZdQ (by omega) (x := r) (by rw [Int.toNat_natCast]; exact hr) rfl (WP.ret ⟨hx, ?_⟩)
  exact Zi3 (q := (⟨rr.l, ((i + 1 : Nat) : Int), rr.end_, rr.rule, rr.err, rr.at_⟩, i + 1)) ⟨rfl, h2, h3, hi, h5, hxs, h7⟩ s
theorem Znu (s : Ss W (RrD b f :: Hs) w) : WP (ZaN (some (pt b 0))) w (fun r w' => r = ZcD ∧ Ss W (RrD b f :: Hs) w') := by
 unfold ZaN
 refine WP.slot' s (fun _ w s => WP.draw' s (fun w s => WP.nilck (errD s (fun h => ?_))))
 refine WP.step (R := fun y w' => y = false ∧ w = w') (WP.ite (fun h' => absurd h' h) (fun _ => WP.ret ⟨rfl, rfl⟩)) ?_
 rintro _ _ ⟨rfl, rfl⟩
 refine WP.ite (fun h => by cases h) (fun _ => ?_)
 unfold ZaN.K1
 exact WP.nilck (errD s (fun h => WP.ite (fun _ => WP.ret ⟨rfl, s⟩) (fun h' => absurd h h')))
theorem ZgC (s : Ss W (RrA b wl e m ws :: Hs) w) : WP (ZbO (some (pt b 0))) w (fun r w' => ZuD W Hs b wl e m r w' ws) := by
 unfold ZbO
 refine WP.slot' s (fun _ w s => WP.step (ZgB s) ?_)
 intro r w h
 cases ws with
 | nil =>
  obtain ⟨hx, s1⟩ := h
  subst hx
  refine WP.slot' s1 (fun _ w s => WP.ite (fun h => ?_) (fun h => WP.ret ⟨rfl, s⟩))
  rw [ZbX, ZgZ] at h
  cases h
 | cons x xs =>
  obtain ⟨hx, s1⟩ := h
  subst hx
  refine WP.slot' s1 (fun _ w s => WP.ite (fun h => WP.step (Zdg s (by decide) r.at_) ?_) (fun h => WP.ret ⟨rfl, ?_⟩))
  ·intro _ w s
   rw [ZbX, ZgZ] at h
   refine WP.ret ⟨rfl, ?_⟩
   rw [if_pos (show (wdOf r).1 = comma from h)]
   exact s
  ·rw [ZbX, ZgZ] at h
   rw [if_neg (show ¬ (wdOf r).1 = comma from h)]
   exact s
theorem Ze5 (s : Ss W (RrA b wl e m ws :: Hs) w) {t : ByteArray} {t' : List Int} (ht : strI t = t') : WP (Zbh (some (pt b 0)) t) w (fun r w' => Zt9 W Hs b wl e m ws r w' (Zd7 t' ws)) := by
 subst ht
 unfold Zbh
 refine WP.draw' s (fun w s => WP.nilck (errA s ?_))
 refine WP.step (R := fun y w' => y = decide (ws = []) ∧ w = w') (WP.ite (fun h => absurd rfl h) (fun _ => ?_)) ?_
 ·obtain ⟨q, hq, s⟩ := Zgo s
  have hl := (s.rd_cap (i := 1) rfl).1
  refine WP.nilck (WP.ld (x := q.1.i) s 0 rfl (o := 1) rfl (Zbx _) (WP.nilck (WP.ld (x := q.1.l) s 0 rfl (o := 0) (by simp [Addr.add]) (Zb3 _) (WP.ret ⟨?_, rfl⟩))))
  rw [hq.1, hl, Bool.eq_iff_iff, beq_iff_eq, decide_eq_true_iff, hq.2.2.2.2.2.1]
  have := hq.2.2.2.1
  constructor
  ·intro h
   rw [List.drop_of_length_le (by omega)]
   rfl
  ·intro h
   have := ZlQ h.symm hq.2.2.2.1
   omega
 rintro _ _ ⟨rfl, rfl⟩
 cases ws with
 | nil =>
  refine WP.step (R := fun y w' => y = true ∧ w = w') (WP.ite (fun _ => WP.ret ⟨rfl, rfl⟩) (fun h => absurd (decide_eq_true rfl) h)) ?_
  rintro _ _ ⟨rfl, rfl⟩
  exact WP.ite (fun _ => WP.ret ⟨rfl, s⟩) (fun h => absurd rfl h)
 | cons x xs =>
  obtain ⟨⟨rr, i⟩, hq, s1⟩ := Zgo s
  obtain ⟨h1, h2, h3, h4, h5, h6, h7⟩ := hq
  have h50 := h5.1
  simp only at h1 h2 h3 h4 h5 h6 h7 s1
  obtain ⟨r, hr, hx, hxs, hi⟩ := Zib h6
  have hr' : wl[(i : Int).toNat]? = some r := by rw [Int.toNat_natCast]; exact hr
  have hw : IntKind.wrap .i64 ((i : Int) + 1) = ((i + 1 : Nat) : Int) := by
   rw [Zah (by omega) (by omega)]
   omega
  refine WP.step (R := fun y w' => y = !decide (x.1 = strI t) ∧ w = w') (WP.ite (fun h => by simp at h) (fun _ => ?_)) ?_
  ·refine WP.nilck (WP.ld (x := rr.l) s1 0 rfl (o := 0) (by simp [Addr.add]) (Zb3 _) (WP.nilck (WP.ld (x := rr.i) s1 0 rfl (o := 1) rfl (Zbx _) ?_)))
   rw [h1]
   refine WP.rdxp0 s1 1 rfl ZdQ (by omega) hr' rfl (Zbj _) (WP.ret ⟨?_, rfl⟩)
   congr 1
   rw [Bool.eq_iff_iff, beq_iff_eq, decide_eq_true_iff, ZbX, ← hx]
   exact Iff.rfl
  rintro _ _ ⟨rfl, rfl⟩
  rw [show Zd7 (strI t) (x :: xs) = if x.1 = strI t then some xs else none from rfl]
  by_cases hc : x.1 = strI t
  ·rw [if_pos hc]
   refine WP.ite (fun h => by simp [hc] at h) (fun _ => ?_)
   refine WP.nilck (WP.ld (x := rr.i) s1 0 rfl (o := 1) rfl (Zbx _) (WP.nilck ?_))
   rw [h1, hw]
   refine WP.st s1 0 rfl (o := 1) rfl (ZeI _ _) (fun w s => WP.ret ⟨rfl, ?_⟩)
   exact Zi3 (q := (⟨rr.l, ((i + 1 : Nat) : Int), rr.end_, rr.rule, rr.err, rr.at_⟩, i + 1)) ⟨rfl, h2, h3, hi, h5, hxs, h7⟩ s
  ·rw [if_neg hc]
   exact WP.ite (fun _ => WP.ret ⟨rfl, s⟩) (fun h => by simp [hc] at h)
theorem Ze6 (s : Ss W (RrD b f :: Hs) w) (t : ByteArray) : WP (Zbh (some (pt b 0)) t) w (fun r w' => r = false ∧ Ss W (RrD b f :: Hs) w') := by
 unfold Zbh
 refine WP.draw' s (fun w s => WP.nilck (errD s (fun h => ?_)))
 refine WP.step (R := fun y w' => y = true ∧ w = w') (WP.ite (fun _ => WP.ret ⟨rfl, rfl⟩) (fun h' => absurd h h')) ?_
 rintro _ _ ⟨rfl, rfl⟩
 refine WP.step (R := fun y w' => y = true ∧ w = w') (WP.ite (fun _ => WP.ret ⟨rfl, rfl⟩) (fun h => absurd rfl h)) ?_
 rintro _ _ ⟨rfl, rfl⟩
 exact WP.ite (fun _ => WP.ret ⟨rfl, s⟩) (fun h => absurd rfl h)
theorem Zjj (s : Ss W (RrA b wl e m ws :: Hs) w) (lo hi : Int) : WP (ZbI (some (pt b 0)) lo hi) w (fun r w' => ResR W Hs b wl e m r w' (numP e lo hi ws)) := by
 unfold ZbI
 refine WP.step (ZgC s) ?_
 intro r w h
 have dead : ∀ {w : World} {f : PF}, Ss W (RrD b f :: Hs) w → WP (slot 129 >>= fun b2 => Zbc r.s lo hi >>= fun r3 => nilck (some (pt b 0)) >>= fun p4 => ld (cI .i64) (Addr.add p4 19) >>= fun x5 =>
   (if x5 = 0 then pure (!r3.2) else pure false) >>= fun y6 => if y6 = true then ZaX (some (pt b 0)) 162 r.at_ >>= fun r8 => pure r3.1 else pure r3.1) w (fun _ w' => Ss W (RrD b f :: Hs) w') := by
  intro w f s
  refine WP.slot' s (fun _ w s => WP.step (Zi0 r.s lo hi) ?_)
  rintro q _ ⟨-, -, rfl⟩
  refine WP.nilck (errD s (fun h => ?_))
  refine WP.step (R := fun y w' => y = false ∧ w = w') (WP.ite (fun h' => absurd h' h) (fun _ => WP.ret ⟨rfl, rfl⟩)) ?_
  rintro _ _ ⟨rfl, rfl⟩
  exact WP.ite (fun h => by cases h) (fun _ => WP.ret s)
 cases ws with
 | nil => exact dead h.2
 | cons x xs =>
  obtain ⟨hx, s1⟩ := h
  clear s
  have s := s1
  clear s1
  subst hx
  rw [show numP e lo hi (wdOf r :: xs) = if (wdOf r).1 = comma then .error (160, (wdOf r).2) else match numR (wdOf r).1 lo hi with
   | none => .error (162, (wdOf r).2)
   | some n => .ok (n, xs) from rfl]
  by_cases hc : (wdOf r).1 = comma
  ·rw [if_pos hc] at s ⊢
   exact dead s
  ·rw [if_neg hc] at s ⊢
   refine WP.slot' s (fun _ w s => WP.step (Zi0 r.s lo hi) ?_)
   rintro q _ ⟨h1, h2, rfl⟩
   have hr : (wdOf r).1 = strI r.s := rfl
   rw [hr]
   refine WP.nilck (errA s ?_)
   refine WP.step (R := fun y w' => y = !q.2 ∧ w = w') (WP.ite (fun _ => WP.ret ⟨rfl, rfl⟩) (fun h => absurd rfl h)) ?_
   rintro _ _ ⟨rfl, rfl⟩
   rw [h1]
   cases hn : numR (strI r.s) lo hi with
   | none =>
    refine WP.ite (fun _ => WP.step (Zdg s (by decide) r.at_) ?_) (fun h => absurd rfl h)
    intro _ w s
    exact WP.ret s
   | some v => exact WP.ite (fun h => by cases h) (fun _ => WP.ret ⟨h2 v hn, s⟩)
theorem setA {β α : Type} {c : Cod α} {v : α} {o : Nat} {m' : Za9} {g : Unit → M β} {Q : β → World → Prop} (s : Ss W (RrA b wl e m ws :: Hs) w) (r' : Zag → Zag) (up : ∀ r, Upd (Zak.enc r) o (c.enc v) (Zak.enc (r' r))) (hs : ∀ r, RSc r m → RSc (r' r) m') (hf : ∀ r, (r' r).From = r.From ∧ (r' r).To = r.To)
  (hm : m'.From = m.From ∧ m'.To = m.To) (k : ∀ w, Ss W (RrA b wl e m' ws :: Hs) w → WP (g ()) w Q) : WP (st c (Addr.add (Addr.add (pt b 0) 3) o) v >>= g) w Q := by
 obtain ⟨⟨rr, i⟩, hq, s⟩ := Zgo s
 obtain ⟨h1, h2, h3, h4, h5, h6, h7⟩ := hq
 refine WP.st s 0 rfl (o := 3 + o) (by rw [Zei]) ((ZbN rr).trans' (up rr.rule) (Zdt rr _)) (fun w s => k w ?_)
 refine Zi3 (q := (⟨rr.l, rr.i, rr.end_, r' rr.rule, rr.err, rr.at_⟩, i)) ⟨h1, h2, h3, h4, h5, h6, hs _ h7⟩ ?_
 unfold RrHs
 simp only
 rw [(hf rr.rule).1, (hf rr.rule).2, hm.1, hm.2]
 exact s
theorem setD {β α : Type} {c : Cod α} {v : α} {o : Nat} {g : Unit → M β} {Q : β → World → Prop} (s : Ss W (RrD b f :: Hs) w) (r' : Zag → Zag) (up : ∀ r, Upd (Zak.enc r) o (c.enc v) (Zak.enc (r' r))) (k : ∀ w, Ss W (RrD b f :: Hs) w → WP (g ()) w Q) : WP (st c (Addr.add (Addr.add (pt b 0) 3) o) v >>= g) w Q := by
 obtain ⟨rr, hq, s⟩ := s.openx 0 rfl
 refine WP.st s 0 rfl (o := 3 + o) (by rw [Zei]) ((ZbN rr).trans' (up rr.rule) (Zdt rr _)) (fun w s => k w ?_)
 exact Zsc (rr := ⟨rr.l, rr.i, rr.end_, r' rr.rule, rr.err, rr.at_⟩) hq.1 hq.2.1 hq.2.2 s
theorem ZkU (t : ByteArray) : WP (Zdd t) w (fun r w' => r = (match ZkV (strI t) with
  | some n => (n, true)
  | none => (0, false)) ∧ w = w') := by
 unfold Zdd ZkV
 have e1 : t.toList = (str4).toList ↔ strI t = tx "tcp" := by rw [ZbX, Ztp]
 have e2 : t.toList = (str5).toList ↔ strI t = tx "udp" := by rw [ZbX, Zto]
 have e3 : t.toList = (str6).toList ↔ strI t = tx "icmp" := by rw [ZbX, Zsn]
 have e4 : t.toList = (str7).toList ↔ strI t = tx "icmp6" := by rw [ZbX, Zrf]
 refine WP.ite (fun h => WP.ret ⟨by rw [if_pos (e1.1 h)], rfl⟩) (fun h => WP.ite (fun h2 => WP.ret ⟨by rw [if_neg (fun h' => h (e1.2 h')), if_pos (e2.1 h2)], rfl⟩) (fun h2 => WP.ite (fun h3 => WP.ret ⟨by rw [if_neg (fun h' => h (e1.2 h')), if_neg (fun h' => h2 (e2.2 h')), if_pos (e3.1 h3)], rfl⟩) (fun h3 => WP.ite (fun h4 => WP.ret ⟨by rw [if_neg (fun h' => h (e1.2 h')), if_neg (fun h' => h2 (e2.2 h')), if_neg (fun h' => h3 (e3.2 h')), if_pos (e4.1 h4)], rfl⟩) (fun h4 => WP.ret ⟨by rw [if_neg (fun h' => h (e1.2 h')), if_neg (fun h' => h2 (e2.2 h')), if_neg (fun h' => h3 (e3.2 h')), if_neg (fun h' => h4 (e4.2 h'))], rfl⟩))))
theorem Zm0 (s : Ss W Hs w) (r : ZaI) : WP (Zdf r) w (fun y w' => y = ZeT (strI r.s) ∧ Ss W Hs w') := by
 unfold Zdf ZeT
 refine WP.slot' s (fun _ w s => WP.step (ZkU r.s) ?_)
 rintro _ _ ⟨rfl, rfl⟩
 cases ZkV (strI r.s) with
 | some n =>
  refine WP.step (R := fun y w' => y = true ∧ w = w') (WP.ite (fun _ => WP.ret ⟨rfl, rfl⟩) (fun h => absurd rfl h)) ?_
  rintro _ _ ⟨rfl, rfl⟩
  exact WP.ret ⟨rfl, s⟩
 | none =>
  refine WP.step (R := fun y w' => y = decide (strI r.s = tx "proto") ∧ w = w') (WP.ite (fun h => by cases h) (fun _ => WP.ret ⟨?_, rfl⟩)) ?_
  ·rw [Bool.eq_iff_iff, beq_iff_eq, decide_eq_true_iff, ZbX, Zre]
  rintro _ _ ⟨rfl, rfl⟩
  exact WP.ret ⟨rfl, s⟩
theorem ZkR (s : Ss W (RrA b wl e m ws :: Hs) w) (r : ZaI) : WP (ZbW (some (pt b 0)) r) w (fun _ w' => RulR W Hs b wl e w' (match ZgE e m.Kind (wdOf r) ws with
  | .ok q => .ok ({ m with Proto := q.1 }, q.2)
  | .error f => .error f)) := by
 unfold ZbW ZgE
 have set : ∀ {w : World} {xs : List Wd} {n : Int}, Ss W (RrA b wl e m xs :: Hs) w → WP (nilck (some (pt b 0)) >>= fun p => st (cI .i64) (Addr.add (Addr.add p 3) 3) n >>= fun _ => pure ()) w (fun _ w' => Ss W (RrA b wl e { m with Proto := n } xs :: Hs) w') := by
  intro w xs n s
  exact WP.nilck (setA (m' := { m with Proto := n }) s (fun r => { r with Proto := n }) (fun r => Zd3 r n) (fun r h => ⟨h.1, h.2.1, h.2.2.1, rfl, h.2.2.2.2⟩) (fun r => ⟨rfl, rfl⟩) ⟨rfl, rfl⟩ (fun w s => WP.ret s))
 refine WP.slot' s (fun _ w s => WP.nilck (ZnK s (WP.ite (fun h => ?_) (fun h => ?_))))
 ·rw [if_pos h]
  refine WP.step (Zdg s (by decide) r.at_) ?_
  intro _ w s
  exact WP.ret s
 rw [if_neg h]
 refine WP.step (ZkU r.s) ?_
 rintro _ _ ⟨rfl, rfl⟩
 have hr : (wdOf r).1 = strI r.s := rfl
 rw [hr]
 cases hp : ZkV (strI r.s) with
 | some n => exact WP.ite (fun h => absurd rfl h) (fun _ => set s)
 | none =>
  refine WP.ite (fun _ => WP.step (Zjj s 1 255) ?_) (fun h => absurd (by simp) h)
  intro v w h
  cases hn : numP e 1 255 ws with
  | ok q =>
   rw [hn] at h
   obtain ⟨rfl, s⟩ := h
   exact set s
  | error f =>
   rw [hn] at h
   exact WP.nilck (setD h (fun r => { r with Proto := v }) (fun r => Zd3 r v) (fun w s => WP.ret s))
end
end Go.Proofs.YtpmhinidiplhiaaGreatDoor.Lx
