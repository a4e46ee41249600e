/- Plain words, put together. -/
import Derived.Test.YtfnokeoldcfcoaaGreatDoorRulesFrz
import Derived.Test.YtfnokeoldcfcoaaGreatDoorAddrParse3
set_option linter.unusedSimpArgs false
set_option linter.unusedVariables false
namespace Go.Proofs.YtfnokeoldcfcoaaGreatDoor.Lx
open WP (ret)
open Go.IntKind (wrap)
section
open Go Go.Proofs Go.RowKit
def NetO (v : Any) (to no : Bool) (l : List Zag) (p q r : Addr) (sl : Sl) : HP := fun h =>
 v.v = .func (.func 85) #[] #[.pointer (some p), .pointer (some q), .pointer (some r)] ∧ pts false p (cB.enc to) h ∧ pts false q (cL.enc sl) h ∧ pts false r (cB.enc no) h ∧ rdS cPfx false sl l h
def NetH (v : Any) (to no : Bool) (l : List Zag) : HP := fun h => ∃ p, ∃ q, ∃ r, ∃ sl, NetO v to no l p q r sl h
def Znd (v : Any) (to : Bool) (l : List ZaH) (p q : Addr) (sl : Sl) : HP := fun h =>
 v.v = .func (.func 90) #[] #[.pointer (some p), .pointer (some q)] ∧ pts false p (cB.enc to) h ∧ pts false q (cL.enc sl) h ∧ rdS cRg false sl l h
def ZlG (v : Any) (to : Bool) (l : List ZaH) : HP := fun h => ∃ p, ∃ q, ∃ sl, Znd v to l p q sl h
theorem NetO.ro {v : Any} {to no : Bool} {l : List Zag} {p q r : Addr} {sl : Sl} : Ro (NetO v to no l p q r sl) := Ro.tt.and (Ro.pts.and (Ro.pts.and (Ro.pts.and Ro.rdS)))
theorem NetH.ro {v : Any} {to no : Bool} {l : List Zag} : Ro (NetH v to no l) := Ro.exs fun p => Ro.exs fun q => Ro.exs fun r => Ro.exs fun sl => NetO.ro
theorem Znd.ro {v : Any} {to : Bool} {l : List ZaH} {p q : Addr} {sl : Sl} : Ro (Znd v to l p q sl) := Ro.tt.and (Ro.pts.and (Ro.pts.and Ro.rdS))
theorem ZlG.ro {v : Any} {to : Bool} {l : List ZaH} : Ro (ZlG v to l) := Ro.exs fun p => Ro.exs fun q => Ro.exs fun sl => Znd.ro
theorem NetH.up {v : Any} {to no : Bool} {l : List Zag} : Upw (NetH v to no l) := Upw.exs fun p => Upw.exs fun q => Upw.exs fun r => Upw.exs fun sl => Upw.tt.and (Upw.pts.and (Upw.pts.and (Upw.pts.and Upw.rdS)))
theorem ZlG.up {v : Any} {to : Bool} {l : List ZaH} : Upw (ZlG v to l) := Upw.exs fun p => Upw.exs fun q => Upw.exs fun sl => Upw.tt.and (Upw.pts.and (Upw.pts.and Upw.rdS))
def TstH (v : Any) : TM → HP
 | .inn n => fun _ => v.v = .iface 147 ((cI .i64).val n)
 | .vid n => fun _ => v.v = .iface 148 ((cI .i64).val n)
 | .kind n => fun _ => v.v = .iface 149 ((cI .i64).val n)
 | .proto n => fun _ => v.v = .iface 150 ((cI .i64).val n)
 | .net to no l => fun h => ∃ f : Any, v.v = .iface 152 f.v ∧ NetH f to no l h
 | .port to l => fun h => ∃ f : Any, v.v = .iface 152 f.v ∧ ZlG f to l h
 | .flag s c => fun _ => v.v = .iface 155 (Zbx.val ⟨s, c⟩)
 | .typ n => fun _ => v.v = .iface 156 ((cI .i64).val n)
 | .piece => fun _ => v.v = .iface 158 (Zb8.val ZdA)
theorem TstH.ro {v : Any} : ∀ t : TM, Ro (TstH v t)
 | .inn n | .vid n | .kind n | .proto n | .flag s c | .typ n | .piece => Ro.tt
 | .net to no l => Ro.exs fun f => Ro.tt.and NetH.ro
 | .port to l => Ro.exs fun f => Ro.tt.and ZlG.ro
theorem TstH.up {v : Any} : ∀ t : TM, Upw (TstH v t)
 | .inn n | .vid n | .kind n | .proto n | .flag s c | .typ n | .piece => Upw.tt
 | .net to no l => Upw.exs fun f => Upw.tt.and NetH.up
 | .port to l => Upw.exs fun f => Upw.tt.and ZlG.up
def TssH (vs : List Any) (ts : List TM) : HP := fun h => vs.length = ts.length ∧ ∀ (i : Nat) (v : Any) (t : TM), vs[i]? = some v → ts[i]? = some t → TstH v t h
theorem TssH.ro {vs : List Any} {ts : List TM} : Ro (TssH vs ts) := Ro.tt.and (Ro.all fun i => Ro.all fun v => Ro.all fun t => Ro.imp (Ro.imp (TstH.ro t)))
theorem TssH.up {vs : List Any} {ts : List TM} : Upw (TssH vs ts) := Upw.tt.and (Upw.all fun i => Upw.all fun v => Upw.all fun t => Upw.imp (Upw.imp (TstH.up t)))
theorem TssH.nil {h : PH} : TssH [] [] h := ⟨rfl, fun i v t h => by cases h⟩
theorem TssH.snoc {vs : List Any} {ts : List TM} {v : Any} {t : TM} {h : PH} (a : TssH vs ts h) (b : TstH v t h) : TssH (vs ++ [v]) (ts ++ [t]) h := by
 refine ⟨by simp [a.1], fun i v' t' h1 h2 => ?_⟩
 by_cases hi : i < vs.length
 ·rw [zH hi] at h1
  rw [zH (by rw [← a.1]; exact hi)] at h2
  exact a.2 i v' t' h1 h2
 ·rw [zR (by omega)] at h1
  rw [zR (by rw [← a.1]; omega)] at h2
  rw [← a.1] at h2
  cases hj : i - vs.length with
  | zero =>
   rw [hj] at h1 h2
   cases h1
   cases h2
   exact b
  | succ j =>
   rw [hj] at h1
   cases h1
theorem NetH.fr {v : Any} {to no : Bool} {l : List Zag} {h : PH} (a : NetH v to no l h) : NetH v to no l (frz h) := by
 obtain ⟨p, q, r, sl, h1, h2, h3, h4, h5⟩ := a
 exact ⟨p, q, r, sl, h1, Zf3 h2, Zf3 h3, Zf3 h4, Zg0 h5⟩
theorem ZlG.fr {v : Any} {to : Bool} {l : List ZaH} {h : PH} (a : ZlG v to l h) : ZlG v to l (frz h) := by
 obtain ⟨p, q, sl, h1, h2, h3, h5⟩ := a
 exact ⟨p, q, sl, h1, Zf3 h2, Zf3 h3, Zg0 h5⟩
theorem TstH.fr {v : Any} {h : PH} : ∀ {t : TM}, TstH v t h → TstH v t (frz h)
 | .inn n, a | .vid n, a | .kind n, a | .proto n, a | .flag s c, a | .typ n, a | .piece, a => a
 | .net to no l, ⟨f, h1, h2⟩ => ⟨f, h1, h2.fr⟩
 | .port to l, ⟨f, h1, h2⟩ => ⟨f, h1, h2.fr⟩
theorem TssH.fr {vs : List Any} {ts : List TM} {h : PH} (a : TssH vs ts h) : TssH vs ts (frz h) := ⟨a.1, fun i v t h1 h2 => (a.2 i v t h1 h2).fr⟩
def TsH (r : Sl) (ts : List TM) : HP := fun h => ∃ vs, rdS cV false r vs h ∧ TssH vs ts h
theorem TsH.ro {r : Sl} {ts : List TM} : Ro (TsH r ts) := Ro.exs fun vs => Ro.rdS.and TssH.ro
theorem TsH.up {r : Sl} {ts : List TM} : Upw (TsH r ts) := Upw.exs fun vs => Upw.rdS.and TssH.up
section
variable {W w : World} {Hs : List HP}
theorem Zgy {A : HP} {sl : Sl} {l : List Zag} (s : Ss W Hs w) (i : Nat) (e : nth Hs i = some A) (r : Rdb A cPfx sl l) (hl : l.length ≤ 4000000000000) :
  WP (ZaN sl) w (fun y w' => ∃ sp, Ss W (vec cPfx y l sp :: Hs) w') := by
 unfold ZaN
 have hn := (s.rd_len e r).2
 refine WP.ite (fun h => ret ⟨[], ?_⟩) (fun h => WP.newv s (fun b w s => ?_))
 ·have : l = [] := zL fun h' => by
   obtain ⟨a, ha⟩ := hn h'
   rw [h] at ha
   cases ha
  subst this
  exact s.mk0 Zcv
 ·have s := s.first (B := vec cPfx ⟨some (pt b 0), 0, 0⟩ [] []) (fun h hp => ZsT (l := []) (sp := []) hp)
  refine WP.appS s (i + 1) e r (by decide) (WP.appl s 0 rfl (by simp; omega) (by decide) (fun y w sp s => ret ⟨sp, ?_⟩))
  exact s
theorem Zp6 {A : HP} {sl : Sl} {l : List ZaH} (s : Ss W Hs w) (i : Nat) (e : nth Hs i = some A) (r : Rdb A cRg sl l) (hl : l.length ≤ 4000000000000) :
  WP (Zbk sl) w (fun y w' => ∃ sp, Ss W (vec cRg y l sp :: Hs) w') := by
 unfold Zbk
 have hn := (s.rd_len e r).2
 refine WP.ite (fun h => ret ⟨[], ?_⟩) (fun h => WP.newv s (fun b w s => ?_))
 ·have : l = [] := zL fun h' => by
   obtain ⟨a, ha⟩ := hn h'
   rw [h] at ha
   cases ha
  subst this
  exact s.mk0 Zcv
 ·have s := s.first (B := vec cRg ⟨some (pt b 0), 0, 0⟩ [] []) (fun h hp => ZsT (l := []) (sp := []) hp)
  refine WP.appS s (i + 1) e r (by decide) (WP.appl s 0 rfl (by simp; omega) (by decide) (fun y w sp s => ret ⟨sp, ?_⟩))
  exact s
theorem Zue {α : Type} {c : Cod α} {n : Nat} {sl : Sl} {l sp : List α} (s : Ss W (vec c sl l sp :: Hs) w) :
  WP (cut n sl none (some (sl.len : Int)) (some (sl.len : Int)) >>= fun r => pure r) w (fun y w' => Ss W (vec c y l [] :: Hs) w') := by
 obtain ⟨h1, h2, -⟩ := s.vec_len (i := 0) rfl
 refine WP.cutpre3 (by omega) (by omega) (by omega) (ret ?_)
 have e : (⟨sl.a, Int.toNat (sl.len : Int), Int.toNat (sl.len : Int)⟩ : Sl) = ⟨sl.a, l.length, l.length⟩ := by
  rw [zg, h1]
 rw [e]
 exact s.first (fun h hh => ZuA hh)
theorem Zlo {sd : Zar} {m : Zek} (s : Ss W Hs w) (r : RdSd Hs sd m) (h1 : m.nets.length ≤ 16) (h2 : m.ports.length ≤ 16) :
  WP (Zdi sd) w (fun y w' => ∃ sn sp, y = ⟨m.Not, sn, sp⟩ ∧ Ss W (vec cPfx sn m.nets [] :: vec cRg sp m.ports [] :: Hs) w') := by
 obtain ⟨hno, -, ⟨i, A, e, ra⟩, ⟨j, B, e2, rb⟩⟩ := r
 unfold Zdi
 refine WP.slot' s (fun _ w s => WP.slot' s (fun _ w s => WP.draw' s (fun w s => WP.step (Zgy s i e ra (by omega)) ?_)))
 rintro r3 w ⟨sp3, s⟩
 refine WP.step (Zue s) (fun r4 w s => ?_)
 refine WP.step (Zp6 s (j + 1) e2 rb (by omega)) ?_
 rintro r5 w ⟨sp5, s⟩
 refine WP.step (Zue s) (fun r6 w s => ret ⟨r4, r6, by rw [hno], ?_⟩)
 exact s.use [1, 0] rfl
structure CloR (m : ZaR) (y : Zaf) : Prop where
 sc : RSc y m
 fn : y.From.Not = m.From.Not
 tn : y.To.Not = m.To.Not
theorem ZrN {x : Zaf} {m : ZaR} (s : Ss W Hs w) (r : RdR Hs x m) (b : Zna m) :
  WP (Zeq x) w (fun y w' => CloR m y ∧ Ss W (vec cPfx y.From.Nets m.From.nets [] :: vec cRg y.From.Ports m.From.ports [] :: vec cPfx y.To.Nets m.To.nets [] :: vec cRg y.To.Ports m.To.ports [] :: Hs) w') := by
 obtain ⟨⟨c1, c2, c3, c4, c5, c6, c7, c8, c9, c10⟩, f, t⟩ := r
 unfold Zeq
 refine WP.slot' s (fun _ w s => WP.slot' s (fun _ w s => WP.draw' s (fun w s => WP.step (Zlo s f b.fn b.fp) ?_)))
 rintro _ w ⟨sn, sp, rfl, s⟩
 refine WP.step (Zlo s t.push.push b.tn b.tp) ?_
 rintro _ w ⟨sn2, sp2, rfl, s⟩
 refine ret ⟨⟨⟨c1, c2, c3, c4, c5, c6, c7, c8, c9, c10⟩, rfl, rfl⟩, ?_⟩
 exact s.use [2, 2, 0, 0] rfl
theorem Zsm {b1 b2 b3 : Nat} {to no : Bool} {sl : Sl} {l sp : List Zag} (s : Ss W (seps [pts true (pt b1 0) (cB.enc to), pts true (pt b2 0) (cL.enc sl), pts true (pt b3 0) (cB.enc no), vec cPfx sl l sp] :: Hs) w) :
  Ss W (NetH ⟨.func (.func 85) #[] #[.pointer (some (pt b1 0)), .pointer (some (pt b2 0)), .pointer (some (pt b3 0))], rfl⟩ to no l :: Hs) w := by
 refine s.frz1 (fun h hs => ?_)
 obtain ⟨h1, k1, l1, m1, a1, hs⟩ := Zin hs
 obtain ⟨h2, k2, l2, m2, a2, hs⟩ := Zin hs
 obtain ⟨h3, k3, l3, m3, a3, hs⟩ := Zin hs
 obtain ⟨h4, l4, a4⟩ := Zpm hs
 have e1 := Zee l1
 have e2 := Zee (l2.trans m1)
 have e3 := Zee ((l3.trans m2).trans m1)
 have e4 := Zee (((l4.trans m3).trans m2).trans m1)
 exact ⟨_, _, _, sl, rfl, Zlb e1 (Zf3 a1), Zlb e2 (Zf3 a2), Zlb e3 (Zf3 a3), Zd8 e4 (Zdl a4)⟩
theorem Zms {sd : Zar} {m : Zek} (s : Ss W Hs w) (r : RdSd Hs sd m) (h1 : m.nets.length ≤ 16) (to : Bool) :
  WP (Za3 sd to) w (fun y w' => Ss W (NetH y to m.Not m.nets :: Hs) w') := by
 obtain ⟨hno, -, ⟨i, A, e, ra⟩, -⟩ := r
 have st : ∀ {L : List HP} {w : World} {b : Nat} {α : Type} {c : Cod α} {x y : α} {f : Unit → M Any} {Q : Any → World → Prop} (k : Nat), Ss W L w → nth L k = some (pts true (pt b 0) (c.enc x)) → (∀ w, Ss W (up L k (pts true (pt b 0) (c.enc y))) w → WP (f ()) w Q) → WP (Lx.st c (pt b 0) y >>= f) w Q := by
  intro L w b α c x y f Q k s e g
  exact WP.st s k e (o := 0) (by rfl) (Upd.whole ((c.len _).trans (c.len _).symm)) (fun w s => g w s)
 unfold Za3
 rw [hno]
 refine WP.slot' s (fun _ w s => WP.newv s (fun b1 w s => WP.draws s (fun σ w s => ?_)))
 refine WP.ite (fun _ => WP.ite (fun _ => WP.ite (fun _ => ?_) (fun _ => ?_)) (fun _ => ?_)) (fun _ => WP.ite (fun _ => WP.ite (fun _ => ?_) (fun _ => ?_)) (fun _ => ?_))
 ·refine WP.step (Zgy s (i + 1) e ra (by omega)) ?_
  rintro y w ⟨sp, s⟩
  refine WP.newv s (fun b2 w s => WP.newv s (fun b3 w s => st 1 s rfl (fun w s => st 0 s rfl (fun w s => ret ?_))))
  exact Zsm (s.use [3, 1, 0, 0] rfl).group
 ·refine WP.step (Zgy s (i + 1) e ra (by omega)) ?_
  rintro y w ⟨sp, s⟩
  refine WP.newv s (fun b2 w s => WP.newv s (fun b3 w s => st 0 s rfl (fun w s => st 1 s rfl (fun w s => ret ?_))))
  exact Zsm (s.use [3, 0, 0, 0] rfl).group
 ·refine WP.newv s (fun b2 w s => WP.step (Zgy s (i + 2) e ra (by omega)) ?_)
  rintro y w ⟨sp, s⟩
  refine WP.newv s (fun b3 w s => st 0 s rfl (fun w s => st 2 s rfl (fun w s => ret ?_)))
  exact Zsm (s.use [3, 0, 1, 0] rfl).group
 ·refine WP.newv s (fun b2 w s => WP.step (Zgy s (i + 2) e ra (by omega)) ?_)
  rintro y w ⟨sp, s⟩
  refine WP.newv s (fun b3 w s => st 2 s rfl (fun w s => st 0 s rfl (fun w s => ret ?_)))
  exact Zsm (s.use [3, 2, 0, 0] rfl).group
 ·refine WP.newv s (fun b2 w s => WP.newv s (fun b3 w s => WP.step (Zgy s (i + 3) e ra (by omega)) ?_))
  rintro y w ⟨sp, s⟩
  refine st 2 s rfl (fun w s => st 1 s rfl (fun w s => ret ?_))
  exact Zsm (s.use [3, 2, 1, 0] rfl).group
 ·refine WP.newv s (fun b2 w s => WP.newv s (fun b3 w s => WP.step (Zgy s (i + 3) e ra (by omega)) ?_))
  rintro y w ⟨sp, s⟩
  refine st 1 s rfl (fun w s => st 2 s rfl (fun w s => ret ?_))
  exact Zsm (s.use [3, 1, 1, 0] rfl).group
theorem Zlc {sd : Zar} {m : Zek} (s : Ss W Hs w) (r : RdSd Hs sd m) (h1 : m.ports.length ≤ 16) (to : Bool) :
  WP (Zdh sd to) w (fun y w' => Ss W (ZlG y to m.ports :: Hs) w') := by
 obtain ⟨-, -, -, ⟨i, A, e, ra⟩⟩ := r
 unfold Zdh
 refine WP.slot' s (fun _ w s => WP.newv s (fun b1 w s => WP.step (Zp6 s (i + 1) e ra (by omega)) ?_))
 rintro y w ⟨sp, s⟩
 refine WP.newv s (fun b2 w s => WP.st s 0 rfl (o := 0) (by rfl) (Upd.whole ((cL.len _).trans (cL.len _).symm)) (fun w s => ret ?_))
 have s := (Ss.use s [2, 0, 0] rfl).group (l := [_, _, _])
 refine Ss.frz1 s (fun h hs => ?_)
 obtain ⟨h1, k1, l1, m1, a1, hs⟩ := Zin hs
 obtain ⟨h2, k2, l2, m2, a2, hs⟩ := Zin hs
 obtain ⟨h3, l3, a3⟩ := Zpm hs
 exact ⟨_, _, y, rfl, Zlb (Zee l1) (Zf3 a1), Zlb (Zee (l2.trans m1)) (Zf3 a2), Zd8 (Zee ((l3.trans m2).trans m1)) (Zdl a3)⟩
def Box (b : Nat) (ts : List TM) : HP := ex (fun p : Sl × List Any × List Any => p.2.1.length = ts.length) (fun p => seps [pts true (pt b 0) (cL.enc p.1), vec cV p.1 p.2.1 p.2.2, TssH p.2.1 ts])
theorem Zw5 {b : Nat} {ts : List TM} {v : Any} {t : TM} {need : Bool} (s : Ss W (TstH v t :: Box b ts :: Hs) w) (hl : ts.length ≤ 11) :
  WP (ZbO need v (pt b 0)) w (fun _ w' => Ss W (Box b (ts ++ if need = true then [t] else []) :: Hs) w') := by
 unfold ZbO
 refine WP.ite (fun h => ?_) (fun h => ret ?_)
 ·obtain ⟨⟨sl, vs, sp⟩, hlen, s⟩ := s.openx 1 rfl
  dsimp only at hlen s
  have s := (s.use [1] rfl).split (l := [_, _, _])
  refine WP.ld s 0 rfl (o := 0) (by rfl) (At.whole _) (WP.slot' s (fun _ w s => WP.appl s 1 rfl (by simp; omega) (by decide) (fun r w sp s => ?_)))
  refine WP.st s 0 rfl (o := 0) (by rfl) (Upd.whole ((cL.len _).trans (cL.len _).symm)) (fun w s => ret ?_)
  rw [if_pos h]
  have s : Ss W (TssH vs ts :: TstH v t :: pts true (pt b 0) (cL.enc r) :: vec cV r (vs ++ [v]) sp :: Hs) w := s.use [2, 2, 0, 0] rfl
  have s := s.merge (C := TssH (vs ++ [v]) (ts ++ [t])) (fun h1 h2 h l1 l2 a1 a2 => (TssH.up h1 h l1 a1).snoc (TstH.up t h2 h l2 a2))
  have s := (s.use [1, 1, 0] rfl).group (l := [_, _, _])
  exact s.closex 0 (r, vs ++ [v], sp) rfl (by simp [hlen])
 ·rw [if_neg h, zJ]
  exact s.drop
end
section
variable {W w : World} {Hs : List HP}
theorem put2 {b k : Nat} {ts : List TM} {v : Any} {t : TM} {need : Bool} {p : Prop} [Decidable p] (s : Ss W (TstH v t :: Box b ts :: Hs) w) (hp : need = true ↔ p) (hl : ts.length ≤ k) (hk : k ≤ 11) :
  WP (ZbO need v (pt b 0)) w (fun _ w' => ∃ ts2, ts2 = ts ++ (if p then [t] else []) ∧ ts2.length ≤ k + 1 ∧ Ss W (Box b ts2 :: Hs) w') := by
 refine (Zw5 s (by omega)).mono (fun _ w s => ⟨_, ?_, ?_, s⟩)
 ·by_cases h : p
  ·rw [if_pos h, if_pos (hp.2 h)]
  ·rw [if_neg h, if_neg (fun h' => h (hp.1 h'))]
 ·split
  ·simp
   omega
  ·simp
   omega
theorem bne0 {n : Int} : (n != 0) = true ↔ n ≠ 0 := bne_iff_ne
theorem Zrq {sd : Zar} {m : Zek} (s : Ss W Hs w) (r : RdSd Hs sd m) : decide ((sd.Nets.len : Int) > 0) = true ↔ m.nets ≠ [] := by
 obtain ⟨-, -, ⟨i, A, e, ra⟩, -⟩ := r
 rw [ze, (s.rd_len e ra).1]
 exact ⟨fun h h' => by rw [h'] at h; simp at h, fun h => by have := List.length_pos_iff.2 h; omega⟩
theorem Zpz {sd : Zar} {m : Zek} (s : Ss W Hs w) (r : RdSd Hs sd m) : decide ((sd.Ports.len : Int) > 0) = true ↔ m.ports ≠ [] := by
 obtain ⟨-, -, -, ⟨i, A, e, ra⟩⟩ := r
 rw [ze, (s.rd_len e ra).1]
 exact ⟨fun h h' => by rw [h'] at h; simp at h, fun h => by have := List.length_pos_iff.2 h; omega⟩
theorem ZuH {x : Zaf} {m : ZaR} (s : Ss W Hs w) (r : RdR Hs x m) (b : Zna m) : WP (Zfa x) w (fun y w' => Ss W (TsH y (Zf8 m) :: Hs) w') := by
 obtain ⟨⟨c1, c2, c3, c4, c5, c6, c7, c8, c9, c10⟩, f, t⟩ := r
 have n1 := Zrq s f
 have n2 := Zpz s f
 have n3 := Zrq s t
 have n4 := Zpz s t
 unfold Zfa
 rw [c3, c4, c5, c6, c7, c8, c9, c10]
 refine WP.slot' s (fun _ w s => WP.newv s (fun b2 w s => ?_))
 have s := s.mk0 (A := vec cV Sl.nil [] []) Zcv
 have s := s.mk0 (A := TssH [] []) TssH.nil
 have s := (s.use [2, 1, 0] rfl).group (l := [_, _, _])
 have s : Ss W (Box b2 [] :: Hs) w := s.closex 0 (Sl.nil, [], []) rfl rfl
 refine WP.step (put2 (k := 0) (t := .inn m.In) (s.mk0 rfl) bne0 (by simp) (by omega)) ?_
 rintro _ w ⟨ts1, e1, h1, s⟩
 refine WP.step (put2 (t := .vid m.Vid) (s.mk0 rfl) bne0 h1 (by omega)) ?_
 rintro _ w ⟨ts2, e2, h2, s⟩
 refine WP.step (put2 (t := .kind m.Kind) (s.mk0 rfl) bne0 h2 (by omega)) ?_
 rintro _ w ⟨ts3, e3, h3, s⟩
 refine WP.step (put2 (t := .proto m.Proto) (s.mk0 rfl) bne0 h3 (by omega)) ?_
 rintro _ w ⟨ts4, e4, h4, s⟩
 refine WP.draw' s (fun w s => WP.step (Zms s f.push b.fn false) ?_)
 intro y w s
 refine WP.step (put2 (t := .net false m.From.Not m.From.nets) (s.first (fun h hh => ⟨y, rfl, hh⟩)) n1 h4 (by omega)) ?_
 rintro _ w ⟨ts5, e5, h5, s⟩
 refine WP.draw' s (fun w s => WP.step (Zlc s f.push b.fp false) ?_)
 intro y w s
 refine WP.step (put2 (t := .port false m.From.ports) (s.first (fun h hh => ⟨y, rfl, hh⟩)) n2 h5 (by omega)) ?_
 rintro _ w ⟨ts6, e6, h6, s⟩
 refine WP.draw' s (fun w s => WP.step (Zms s t.push b.tn true) ?_)
 intro y w s
 refine WP.step (put2 (t := .net true m.To.Not m.To.nets) (s.first (fun h hh => ⟨y, rfl, hh⟩)) n3 h6 (by omega)) ?_
 rintro _ w ⟨ts7, e7, h7, s⟩
 refine WP.draw' s (fun w s => WP.step (Zlc s t.push b.tp true) ?_)
 intro y w s
 refine WP.step (put2 (t := .port true m.To.ports) (s.first (fun h hh => ⟨y, rfl, hh⟩)) n4 h7 (by omega)) ?_
 rintro _ w ⟨ts8, e8, h8, s⟩
 refine WP.step (put2 (t := .flag m.Set m.Clear) (s.mk0 rfl) bne0 h8 (by omega)) ?_
 rintro _ w ⟨ts9, e9, h9, s⟩
 refine WP.step (put2 (t := .typ m.Type_) (s.mk0 rfl) bne0 h9 (by omega)) ?_
 rintro _ w ⟨ts10, e10, h10, s⟩
 refine WP.step (put2 (t := .piece) (p := m.Pieces = true) (s.mk0 rfl) Iff.rfl h10 (by omega)) ?_
 rintro _ w ⟨ts11, e11, h11, s⟩
 have e : ts11 = Zf8 m := by
  rw [e11, e10, e9, e8, e7, e6, e5, e4, e3, e2, e1]
  rfl
 rw [e] at s
 obtain ⟨⟨sl, vs, sp⟩, hlen, s⟩ := s.openx 0 rfl
 have s := Ss.split (l := [_, _, _]) s
 refine WP.ld s 0 rfl (o := 0) (by rfl) (At.whole _) (ret ?_)
 have s := s.drop
 exact s.frz2 (fun h1 h2 h l1 l2 a1 a2 => ⟨vs, Zd8 (Zee l1) (Zdl a1), TssH.up _ _ (Zee l2) (TssH.fr a2)⟩)
end
def RlH (m : ZaR) (x : Zaf) : HP := fun h => CloR m x ∧ rdS cPfx false x.From.Nets m.From.nets h ∧ rdS cRg false x.From.Ports m.From.ports h ∧ rdS cPfx false x.To.Nets m.To.nets h ∧ rdS cRg false x.To.Ports m.To.ports h
theorem RlH.ro {m : ZaR} {x : Zaf} : Ro (RlH m x) := Ro.tt.and (Ro.rdS.and (Ro.rdS.and (Ro.rdS.and Ro.rdS)))
theorem RlH.up {m : ZaR} {x : Zaf} : Upw (RlH m x) := Upw.tt.and (Upw.rdS.and (Upw.rdS.and (Upw.rdS.and Upw.rdS)))
theorem RlH.fr {m : ZaR} {x : Zaf} {h : PH} (a : RlH m x h) : RlH m x (frz h) := ⟨a.1, Zg0 a.2.1, Zg0 a.2.2.1, Zg0 a.2.2.2.1, Zg0 a.2.2.2.2⟩
def MemH (ms : List ZaR) (xs : List Zaf) (tl : List Sl) : HP := fun h => xs.length = ms.length ∧ tl.length = ms.length ∧ ∀ (i : Nat) (m : ZaR) (x : Zaf) (t : Sl), ms[i]? = some m → xs[i]? = some x → tl[i]? = some t → RlH m x h ∧ TsH t (Zf8 m) h
theorem MemH.ro {ms : List ZaR} {xs : List Zaf} {tl : List Sl} : Ro (MemH ms xs tl) := Ro.tt.and (Ro.tt.and (Ro.all fun i => Ro.all fun m => Ro.all fun x => Ro.all fun t => Ro.imp (Ro.imp (Ro.imp (RlH.ro.and TsH.ro)))))
theorem MemH.up {ms : List ZaR} {xs : List Zaf} {tl : List Sl} : Upw (MemH ms xs tl) := Upw.tt.and (Upw.tt.and (Upw.all fun i => Upw.all fun m => Upw.all fun x => Upw.all fun t => Upw.imp (Upw.imp (Upw.imp (RlH.up.and TsH.up)))))
theorem MemH.nil {h : PH} : MemH [] [] [] h := ⟨rfl, rfl, fun i m x t h => by cases h⟩
theorem TsH.fr {r : Sl} {ts : List TM} {h : PH} (a : TsH r ts h) : TsH r ts (frz h) := by
 obtain ⟨vs, h1, h2⟩ := a
 exact ⟨vs, Zg0 h1, h2.fr⟩
theorem MemH.fr {ms : List ZaR} {xs : List Zaf} {tl : List Sl} {h : PH} (a : MemH ms xs tl h) : MemH ms xs tl (frz h) :=
 ⟨a.1, a.2.1, fun i m x t h1 h2 h3 => ⟨(a.2.2 i m x t h1 h2 h3).1.fr, (a.2.2 i m x t h1 h2 h3).2.fr⟩⟩
theorem ZeJ {α : Type} {l : List α} {i : Nat} {x y : α} (h : (l ++ [x])[i]? = some y) : (i < l.length ∧ l[i]? = some y) ∨ (i = l.length ∧ y = x) := by
 by_cases hi : i < l.length
 ·rw [zH hi] at h
  exact .inl ⟨hi, h⟩
 ·rw [zR (by omega)] at h
  cases hj : i - l.length with
  | zero =>
   rw [hj] at h
   cases h
   exact .inr ⟨by omega, rfl⟩
  | succ j =>
   rw [hj] at h
   cases h
theorem MemH.snoc {ms : List ZaR} {xs : List Zaf} {tl : List Sl} {m : ZaR} {x : Zaf} {t : Sl} {h : PH} (a : MemH ms xs tl h) (b : RlH m x h) (c : TsH t (Zf8 m) h) : MemH (ms ++ [m]) (xs ++ [x]) (tl ++ [t]) h := by
 obtain ⟨a1, a2, a3⟩ := a
 refine ⟨by simp [a1], by simp [a2], fun i m' x' t' h1 h2 h3 => ?_⟩
 rcases ZeJ h1 with ⟨i1, h1⟩ | ⟨i1, rfl⟩
 ·rcases ZeJ h2 with ⟨i2, h2⟩ | ⟨i2, -⟩
  ·rcases ZeJ h3 with ⟨i3, h3⟩ | ⟨i3, -⟩
   ·exact a3 i m' x' t' h1 h2 h3
   ·omega
  ·omega
 ·rcases ZeJ h2 with ⟨i2, -⟩ | ⟨-, rfl⟩
  ·omega
  ·rcases ZeJ h3 with ⟨i3, -⟩ | ⟨-, rfl⟩
   ·omega
   ·exact ⟨b, c⟩
structure SetP where
 rs : Sl
 ts : Sl
 xs : List Zaf
 tl : List Sl
 sp : List Zaf
 sq : List Sl
def SetB (b : Nat) (ms : List ZaR) : HP := ex (fun p : SetP => p.xs.length = ms.length ∧ p.tl.length = ms.length) (fun p => seps [pts true (pt b 0) (ZcM.enc ⟨p.rs, p.ts⟩), vec Zah p.rs p.xs p.sp, vec cL p.ts p.tl p.sq, MemH ms p.xs p.tl])
def SetO (a : Addr) (ms : List ZaR) (rs ts : Sl) (xs : List Zaf) (tl : List Sl) : HP := fun h => pts false a (ZcM.enc ⟨rs, ts⟩) h ∧ rdS Zah false rs xs h ∧ rdS cL false ts tl h ∧ MemH ms xs tl h
def SetH (a : Addr) (ms : List ZaR) : HP := fun h => ∃ rs, ∃ ts, ∃ xs, ∃ tl, SetO a ms rs ts xs tl h
theorem SetO.ro {a : Addr} {ms : List ZaR} {rs ts : Sl} {xs : List Zaf} {tl : List Sl} : Ro (SetO a ms rs ts xs tl) := Ro.pts.and (Ro.rdS.and (Ro.rdS.and MemH.ro))
theorem SetH.ro {a : Addr} {ms : List ZaR} : Ro (SetH a ms) := Ro.exs fun rs => Ro.exs fun ts => Ro.exs fun xs => Ro.exs fun tl => SetO.ro
section
variable {W w : World} {Hs : List HP}
theorem ZvQ {b : Nat} {ms : List ZaR} {x : Zaf} {m : ZaR} (s : Ss W (SetB b ms :: Hs) w) (r : RdR Hs x m) (sm : Zna m) (hl : ms.length ≤ 256) :
  WP (ZdU (some (pt b 0)) x) w (fun _ w' => Ss W (SetB b (ms ++ [m]) :: Hs) w') := by
 obtain ⟨⟨rs, ts, xs, tl, sp, sq⟩, ⟨hx, ht⟩, s⟩ := s.openx 0 rfl
 dsimp only at hx ht
 have s := Ss.split (l := [_, _, _, _]) s
 unfold ZdU
 refine WP.slot' s (fun _ w s => WP.draw' s (fun w s => WP.nilck (WP.ld s 0 rfl (o := 0) (by rfl) (ZcZ _) (WP.step (ZrN s r.push.push.push.push sm) ?_))))
 rintro y w ⟨cl, s⟩
 have s : Ss W (RlH m y :: _) w := Ss.frz1 (Ss.group (l := [_, _, _, _]) s) (C := RlH m y) (fun h hs => by
  obtain ⟨h1, k1, l1, m1, a1, hs⟩ := Zin hs
  obtain ⟨h2, k2, l2, m2, a2, hs⟩ := Zin hs
  obtain ⟨h3, k3, l3, m3, a3, hs⟩ := Zin hs
  obtain ⟨h4, l4, a4⟩ := Zpm hs
  exact ⟨cl, Zd8 (Zee l1) (Zdl a1), Zd8 (Zee (l2.trans m1)) (Zdl a2), Zd8 (Zee ((l3.trans m2).trans m1)) (Zdl a3), Zd8 (Zee (((l4.trans m3).trans m2).trans m1)) (Zdl a4)⟩)
 refine WP.same s 1 rfl (o := 0) (by rfl) (ZcZ _) (WP.slot' s (fun _ w s => WP.same s 1 rfl (o := 0) (by rfl) (ZcZ _) ?_))
 refine WP.appl s 2 rfl (by simp; omega) (by decide) (fun r6 w sp6 s => WP.nilck ?_)
 refine WP.st s 1 rfl (o := 0) (by rfl) (Zkw _ r6) (fun w s => WP.draw' s (fun w s => WP.nilck ?_))
 refine WP.ld s 1 rfl (o := 1) (by rfl) (ZeK _) (WP.step (ZuH s r.push.push.push.push.push sm) ?_)
 intro r10 w s
 refine WP.same s 2 rfl (o := 1) (by rfl) (ZeK _) (WP.slot' s (fun _ w s => WP.same s 2 rfl (o := 1) (by rfl) (ZeK _) ?_))
 refine WP.appl s 4 rfl (by simp; omega) (by decide) (fun r12 w sq12 s => WP.nilck ?_)
 refine WP.st s 2 rfl (o := 1) (by rfl) (Zkv _ r12) (fun w s => ret ?_)
 have s : Ss W (TsH r10 (Zf8 m) :: RlH m y :: pts true (pt b 0) (ZcM.enc ⟨r6, r12⟩) :: vec Zah r6 (xs ++ [y]) sp6 :: vec cL r12 (tl ++ [r10]) sq12 :: MemH ms xs tl :: Hs) w := s
 have s := s.merge (C := fun h => TsH r10 (Zf8 m) h ∧ RlH m y h) (fun h1 h2 h l1 l2 a1 a2 => ⟨TsH.up _ _ l1 a1, RlH.up _ _ l2 a2⟩)
 have s := s.use [4, 0] rfl
 have s := Ss.merge s (C := MemH (ms ++ [m]) (xs ++ [y]) (tl ++ [r10])) (fun h1 h2 h l1 l2 a1 a2 => (MemH.up _ _ l1 a1).snoc (RlH.up _ _ l2 a2.2) (TsH.up _ _ l2 a2.1))
 have s := (s.use [1, 1, 1, 0] rfl).group (l := [_, _, _, _])
 exact s.closex 0 ⟨r6, r12, xs ++ [y], tl ++ [r10], sp6, sq12⟩ rfl ⟨by simp [hx], by simp [ht]⟩
structure RdL (L : List HP) (xs : List Zaf) (ms : List ZaR) : Prop where
 len : xs.length = ms.length
 at_ : ∀ (i : Nat) (x : Zaf) (m : ZaR), xs[i]? = some x → ms[i]? = some m → RdR L x m
theorem RdL.push {L : List HP} {xs : List Zaf} {ms : List ZaR} {A : HP} (r : RdL L xs ms) : RdL (A :: L) xs ms := ⟨r.len, fun i x m h1 h2 => (r.at_ i x m h1 h2).push⟩
def NewR (W : World) (Hs : List HP) (ms : List ZaR) (y : (Option Addr) × Int × Int) (w : World) : Prop := match newM ms with
 | some q => y = (none, q.1, q.2) ∧ Ss W Hs w
 | none => ∃ b, y = (some (pt b 0), 0, 0) ∧ Ss W (SetH (pt b 0) ms :: Hs) w
theorem Zrg {b : Nat} {ms : List ZaR} (s : Ss W (SetB b ms :: Hs) w) : Ss W (SetH (pt b 0) ms :: Hs) w := by
 obtain ⟨⟨rs, ts, xs, tl, sp, sq⟩, ⟨hx, ht⟩, s⟩ := s.openx 0 rfl
 refine Ss.frz1 s (fun h hs => ?_)
 obtain ⟨h1, k1, l1, m1, a1, hs⟩ := Zin hs
 obtain ⟨h2, k2, l2, m2, a2, hs⟩ := Zin hs
 obtain ⟨h3, k3, l3, m3, a3, hs⟩ := Zin hs
 obtain ⟨h4, l4, a4⟩ := Zpm hs
 exact ⟨rs, ts, xs, tl, Zlb (Zee l1) (Zf3 a1), Zd8 (Zee (l2.trans m1)) (Zdl a2), Zd8 (Zee ((l3.trans m2).trans m1)) (Zdl a3), MemH.up _ _ (Zee (((l4.trans m3).trans m2).trans m1)) a4.fr⟩
theorem Ztx {ms : List ZaR} {k : Nat} {m : ZaR} (h : ms[k]? = some m) (j : Nat) : newF j (ms.drop k) = if ckM m ≠ 0 then some (ckM m, (j : Int)) else newF (j + 1) (ms.drop (k + 1)) := by
 obtain ⟨h1, h2⟩ := List.getElem?_eq_some_iff.1 h
 rw [zQ h1, h2]
 rfl
theorem ZxE {A : HP} {sl : Sl} {xs : List Zaf} {ms : List ZaR} (s : Ss W Hs w) (i : Nat) (e : nth Hs i = some A) (r : Rdb A Zah sl xs) (hr : RdL Hs xs ms) : WP (Zb5 sl) w (fun y w' => NewR W Hs ms y w') := by
 have hlen := (s.rd_len e r).1
 have hl := hr.len
 unfold Zb5 NewR newM
 refine WP.ite (fun h => ret ?_) (fun h => ?_)
 ·rw [if_pos (by omega)]
  exact ⟨rfl, s⟩
 rw [if_neg (by omega)]
 refine WP.newv s (fun b w s => ?_)
 have s := s.mk0 (A := vec Zah Sl.nil [] []) Zcv
 have s := s.mk0 (A := vec cL Sl.nil [] []) Zcv
 have s := s.mk0 (A := MemH [] [] []) MemH.nil
 have s := (s.use [3, 2, 1, 0] rfl).group (l := [_, _, _, _])
 have s : Ss W (SetB b [] :: Hs) w := s.closex 0 ⟨Sl.nil, Sl.nil, [], [], [], []⟩ rfl ⟨rfl, rfl⟩
 refine WP.loopG (γ := Nat) (fun k (x : Int) w => x = (k : Int) ∧ k ≤ ms.length ∧ newF 0 ms = newF k (ms.drop k) ∧ Ss W (SetB b (ms.take k) :: Hs) w) (fun k _ => ms.length - k) 0 ⟨rfl, zF _, rfl, s⟩ ?_
 clear s
 rintro k _ w ⟨rfl, hk, hF, s⟩
 show WP (Zb5.L1 sl b (k : Int)) w _
 unfold Zb5.L1
 refine WP.ite (fun hc => ?_) (fun hc => ?_)
 ·have hk2 : k < xs.length := by omega
  have hx := za hk2
  have hm := za (show k < ms.length by omega)
  generalize xs[k] = x at hx
  generalize ms[k]'(show k < ms.length by omega) = m at hm
  have ht : ms.take (k + 1) = ms.take k ++ [m] := by
   rw [zy, hm]
   rfl
  have rr := hr.at_ k x m hx hm
  refine WP.rdx s (i + 1) e r (by omega) (x := x) (by rw [zg]; exact hx) rfl (WP.slot' s (fun _ w s => WP.step (Zo3 s rr.push) ?_))
  rintro _ w ⟨rfl, s⟩
  rw [Ztx hm] at hF
  refine WP.ite (fun h0 => WP.done ?_) (fun h0 => ?_)
  ·rw [if_pos h0] at hF
   rw [hF]
   exact ⟨rfl, s.drop⟩
  ·rw [if_neg h0] at hF
   refine WP.step (ZvQ s rr (ZoQ (Decidable.not_not.1 h0)) (by rw [zm]; omega)) ?_
   intro _ w s
   rw [← ht] at s
   refine WP.next ⟨k + 1, ⟨?_, by omega, hF, s⟩, by omega⟩
   rw [Zau (by omega) (by omega)]
   simp
 ·have hk2 : k = ms.length := by omega
  rw [hk2, zY] at hF
  rw [hk2, zI] at s
  refine WP.done ?_
  rw [hF]
  exact ⟨b, rfl, Zrg s⟩
end
section
variable {W w : World} {Hs : List HP}
theorem Zq7 (s : Ss W Hs w) (p : Zag) (hb : Byt p.IP.A.l) (ip : Zbw) (hb2 : Byt ip.A.l) : WP (Zev p ip) w (fun r w' => r = ctM p ip ∧ Ss W Hs w') := by
 unfold Zev
 refine WP.slot' s (fun _ w s => WP.slot' s (fun _ w s => WP.step (ZfX s p hb) ?_))
 rintro _ w ⟨rfl, s⟩
 refine WP.step (R := fun y w' => y = decide (vpM p ≠ 0 ∨ ¬ ZfZ ip > 0) ∧ Ss W Hs w') (WP.ite (fun h => ret ⟨by simp [h], s⟩) (fun h => WP.step (ZrW s ip) ?_)) ?_
 ·rintro _ w ⟨rfl, s⟩
  exact ret ⟨by rw [zj]; simp [Decidable.not_not.1 h], s⟩
 rintro _ w ⟨rfl, s⟩
 refine WP.step (R := fun y w' => y = decide (vpM p ≠ 0 ∨ ¬ ZfZ ip > 0 ∨ p.IP.V ≠ ip.V) ∧ Ss W Hs w') (WP.ite (fun h => ret ⟨?_, s⟩) (fun h => ret ⟨?_, s⟩)) ?_
 ·have := zd h
  refine (zb ?_).symm
  rcases this with h | h
  ·exact .inl h
  ·exact .inr (.inl h)
 ·have hn : ¬ (vpM p ≠ 0 ∨ ¬ ZfZ ip > 0) := fun h' => h (zb h')
  rw [bne, zj]
  simp only [Bool.not_eq_true', beq_eq_false_iff_ne, ne_eq, decide_eq_true_eq]
  exact ⟨fun h => .inr (.inr h), fun h => by
   rcases h with h | h | h
   ·exact absurd (.inl h) hn
   ·exact absurd (.inr h) hn
   ·exact h⟩
 rintro _ w ⟨rfl, s⟩
 refine WP.ite (fun h => ret ⟨?_, s⟩) (fun h => WP.draw' s (fun w s => ?_))
 ·have := zd h
  refine (zh fun h2 => ?_).symm
  rcases this with h | h | h
  ·exact h h2.1
  ·exact h h2.2.1
  ·exact h h2.2.2.1
 ·have hn : ¬ (vpM p ≠ 0 ∨ ¬ ZfZ ip > 0 ∨ p.IP.V ≠ ip.V) := fun h' => h (zb h')
  have hv : vpM p = 0 := Decidable.not_not.1 fun h' => hn (.inl h')
  obtain ⟨_, l0, l1, _⟩ := Zom hv
  have hz := Zj2 p.IP
  refine WP.step (ZpK s ip.A hb2 l0 (by omega)) ?_
  rintro _ w ⟨rfl, s⟩
  refine ret ⟨ZvJ ?_, s⟩
  unfold ctM
  rw [ze]
  exact ⟨fun h => h.2.2.2, fun h => ⟨hv, Decidable.not_not.1 fun h' => hn (.inr (.inl h')), Decidable.not_not.1 fun h' => hn (.inr (.inr h')), h⟩⟩
end
structure PkB (p : Zat) : Prop where
 a1 : Byt p.Arp.SIP.A.l
 a2 : Byt p.Arp.TIP.A.l
 b1 : Byt p.Ip4.Src.A.l
 b2 : Byt p.Ip4.Dst.A.l
 c1 : Byt p.Ip6.Src.A.l
 c2 : Byt p.Ip6.Dst.A.l
structure VidR (L : List HP) (p : Zat) (vid : Option Int) : Prop where
 no : vid = none → p.Tags.len = 0
 some_ : ∀ x, vid = some x → 0 < p.Tags.len ∧ ∃ i A a, nth L i = some A ∧ p.Tags.a = some a ∧ ZdI A (a.add 3) ((cI .i64).enc x)
theorem VidR.push {L : List HP} {p : Zat} {vid : Option Int} {A : HP} (r : VidR L p vid) : VidR (A :: L) p vid :=
 ⟨r.no, fun x h => by
  obtain ⟨h1, i, B, a, h2, h3, h4⟩ := r.some_ x h
  exact ⟨h1, i + 1, B, a, h2, h3, h4⟩⟩
theorem PkB.addr {p : Zat} (b : PkB p) (to : Bool) : Byt (ZkW p to).1.A.l := by
 unfold ZkW
 split
 ·cases to
  ·exact b.a1
  ·exact b.a2
 ·split
  ·cases to
   ·exact b.b1
   ·exact b.b2
  ·split
   ·cases to
    ·exact b.c1
    ·exact b.c2
   ·exact fun x hx => zd (List.all_eq_true.1 (show (ZcF.A.l).all (fun x => decide (0 ≤ x ∧ x ≤ 255)) = true by decide) x hx)
section
variable {W w : World} {Hs : List HP}
theorem ZsE (s : Ss W Hs w) (p : Zat) (to : Bool) : WP (Zer p to) w (fun y w' => y = ZkW p to ∧ Ss W Hs w') := by
 unfold Zer ZkW
 refine WP.slot' s (fun _ w s => WP.slot' s (fun _ w s => WP.slot' s (fun _ w s => WP.slot' s (fun _ w s => ?_))))
 refine WP.ite (fun h => ?_) (fun h => WP.ite (fun h2 => ?_) (fun h2 => WP.ite (fun h3 => ?_) (fun h3 => ret ⟨?_, s⟩)))
 ·rw [if_pos h]
  exact WP.draw' s (fun w s => WP.ite (fun h' => ret ⟨by rw [if_pos h'], s⟩) (fun h' => ret ⟨by rw [if_neg h'], s⟩))
 ·rw [if_neg h, if_pos h2]
  exact WP.draw' s (fun w s => WP.ite (fun h' => ret ⟨by rw [if_pos h'], s⟩) (fun h' => ret ⟨by rw [if_neg h'], s⟩))
 ·rw [if_neg h, if_neg h2, if_pos h3]
  exact WP.draw' s (fun w s => WP.ite (fun h' => ret ⟨by rw [if_pos h'], s⟩) (fun h' => ret ⟨by rw [if_neg h'], s⟩))
 ·rw [if_neg h, if_neg h2, if_neg h3]
theorem Ztr (s : Ss W Hs w) (p : Zat) (to : Bool) : WP (ZeO p to) w (fun y w' => y = Zmn p to ∧ Ss W Hs w') := by
 unfold ZeO Zmn
 refine WP.slot' s (fun _ w s => WP.ite (fun h => ?_) (fun h => WP.ite (fun h2 => ?_) (fun h2 => ret ⟨?_, s⟩)))
 ·rw [if_pos h]
  exact WP.draw' s (fun w s => WP.ite (fun h' => ret ⟨by rw [if_pos h'], s⟩) (fun h' => ret ⟨by rw [if_neg h'], s⟩))
 ·rw [if_neg h, if_pos h2]
  exact WP.draw' s (fun w s => WP.ite (fun h' => ret ⟨by rw [if_pos h'], s⟩) (fun h' => ret ⟨by rw [if_neg h'], s⟩))
 ·rw [if_neg h, if_neg h2]
theorem Zwa {v : Any} {to no : Bool} {l : List Zag} {b1 b2 b3 : Addr} {sl : Sl} {p : Zat} (s : Ss W (NetO v to no l b1 b2 b3 sl :: Hs) w) (hb : Byts l) (pb : PkB p) (hl : l.length ≤ 9000000000000000000) :
  WP (Zc4 p b1 b2 b3) w (fun y w' => y = ((ZkW p to).2 && !(l.any (fun n => ctM n (ZkW p to).1) == no)) ∧ Ss W (NetO v to no l b1 b2 b3 sl :: Hs) w') := by
 have H1 : ZdI (NetO v to no l b1 b2 b3 sl) b1 (cB.enc to) := fun h hh => ZdI.pts h hh.2.1
 have H2 : ZdI (NetO v to no l b1 b2 b3 sl) b2 (cL.enc sl) := fun h hh => ZdI.pts h hh.2.2.1
 have H3 : ZdI (NetO v to no l b1 b2 b3 sl) b3 (cB.enc no) := fun h hh => ZdI.pts h hh.2.2.2.1
 have H4 : Rdb (NetO v to no l b1 b2 b3 sl) cPfx sl l := fun h hh => ZbM h hh.2.2.2.2
 unfold Zc4
 refine WP.slot' s (fun _ w s => WP.ldh s 0 rfl H1 rfl (WP.step (ZsE s p to) ?_))
 rintro _ w ⟨rfl, s⟩
 refine WP.newv s (fun b4 w s => WP.st s 0 rfl (o := 0) (by rfl) (Upd.whole ((Za8.len _).trans (Za8.len _).symm)) (fun w s => ?_))
 refine WP.ldh s 1 rfl H2 rfl (WP.step (R := fun y w' => y = l.any (fun n => ctM n (ZkW p to).1) ∧ Ss W (NetO v to no l b1 b2 b3 sl :: Hs) w') ?_ ?_)
 ·unfold Zbi Zan
  refine WP.step (ZpU (f := fun n => ctM n (ZkW p to).1) s 1 rfl H4 rfl hl (fun x hx w s => ?_)) (fun y w h => ret ⟨h.1, Ss.drop h.2⟩)
  unfold ZcV
  refine WP.slot' s (fun _ w s => WP.ld s 0 rfl (o := 0) (by rfl) (At.whole _) (WP.step (Zq7 s x (hb x hx) _ (pb.addr to)) (fun y w h => ret h)))
 rintro _ w ⟨rfl, s⟩
 refine WP.step (R := fun y w' => y = ((ZkW p to).2 && !(l.any (fun n => ctM n (ZkW p to).1) == no)) ∧ Ss W (NetO v to no l b1 b2 b3 sl :: Hs) w') (WP.ite (fun h => WP.ldh s 0 rfl H3 rfl (ret ⟨?_, s⟩)) (fun h => ret ⟨?_, s⟩)) (fun y w h => ret h)
 ·rw [h]
  rfl
 ·cases hb : (ZkW p to).2 with
  | true => exact absurd hb h
  | false => rfl
theorem ZuS {v : Any} {to : Bool} {l : List ZaH} {b1 b2 : Addr} {sl : Sl} {p : Zat} (s : Ss W (Znd v to l b1 b2 sl :: Hs) w) (hl : l.length ≤ 9000000000000000000) :
  WP (ZcO p b1 b2) w (fun y w' => y = ((Zmn p to).2 && l.any (fun r => inR (Zmn p to).1 r.Lo r.Hi)) ∧ Ss W (Znd v to l b1 b2 sl :: Hs) w') := by
 have H1 : ZdI (Znd v to l b1 b2 sl) b1 (cB.enc to) := fun h hh => ZdI.pts h hh.2.1
 have H2 : ZdI (Znd v to l b1 b2 sl) b2 (cL.enc sl) := fun h hh => ZdI.pts h hh.2.2.1
 have H4 : Rdb (Znd v to l b1 b2 sl) cRg sl l := fun h hh => ZbM h hh.2.2.2
 unfold ZcO
 refine WP.slot' s (fun _ w s => WP.ldh s 0 rfl H1 rfl (WP.step (Ztr s p to) ?_))
 rintro _ w ⟨rfl, s⟩
 refine WP.newv s (fun b4 w s => WP.st s 0 rfl (o := 0) (by rfl) (Upd.whole (((cI .i64).len _).trans ((cI .i64).len _).symm)) (fun w s => ?_))
 refine WP.step (R := fun y w' => y = ((Zmn p to).2 && l.any (fun r => inR (Zmn p to).1 r.Lo r.Hi)) ∧ Ss W (Znd v to l b1 b2 sl :: Hs) w') (WP.ite (fun h => WP.ldh s 1 rfl H2 rfl ?_) (fun h => ret ⟨?_, s.drop⟩)) (fun y w h => ret h)
 ·refine WP.step (R := fun y w' => y = l.any (fun r => inR (Zmn p to).1 r.Lo r.Hi) ∧ Ss W (Znd v to l b1 b2 sl :: Hs) w') ?_ (fun y w h' => ret ⟨by rw [h, h'.1]; rfl, h'.2⟩)
  unfold Zbn Zaq
  refine WP.step (ZpU (f := fun r => inR (Zmn p to).1 r.Lo r.Hi) s 1 rfl H4 rfl hl (fun x hx w s => ?_)) (fun y w h => ret ⟨h.1, Ss.drop h.2⟩)
  unfold ZcL
  refine WP.slot' s (fun _ w s => WP.ld s 0 rfl (o := 0) (by rfl) (At.whole _) (WP.step (Zl4 _ x.Lo x.Hi) ?_))
  rintro _ _ ⟨rfl, rfl⟩
  exact ret ⟨rfl, s⟩
 ·cases hb : (Zmn p to).2 with
  | true => exact absurd hb h
  | false => rfl
end
theorem ZpV {t : TypeId} {x : Value} : ifc (.iface t x) = some (t, x) := rfl
theorem Zqe : ∀ l : List Addr, Zq1 (l.map fun a => Value.pointer (some a)) = some l
 | [] => rfl
 | a :: l => by
  show (Zq1 (l.map fun a => Value.pointer (some a))).map (a :: ·) = _
  rw [Zqe l]
  rfl
theorem Zqb {g : FuncId} {l : List Addr} : ZjO (.func (.func g) #[] (l.map fun a => Value.pointer (some a)).toArray) = some (g, l) := by
 show (if (#[] : Array Value).size = 0 then (Zq1 (l.map fun a => Value.pointer (some a))).map fun l => (g, l) else none) = _
 rw [Zqe]
 rfl
section
variable {v : Any} {port : Int} {p : Zat}
theorem Zxk {n : Int} (h : v.v = .iface 147 ((cI .i64).val n)) : Zay.iv v port p = ZcW n port p := by
 unfold Zay.iv
 rw [h, ZpV, Option.elim_some]
 dsimp only
 repeat rw [if_neg (by decide)]
 rw [if_pos rfl, Cod.un_val, Option.elim_some]
theorem Zxi {n : Int} (h : v.v = .iface 148 ((cI .i64).val n)) : Zay.iv v port p = ZcK n port p := by
 unfold Zay.iv
 rw [h, ZpV, Option.elim_some]
 dsimp only
 repeat rw [if_neg (by decide)]
 rw [if_pos rfl, Cod.un_val, Option.elim_some]
theorem Zwk {n : Int} (h : v.v = .iface 149 ((cI .i64).val n)) : Zay.iv v port p = Zcz n port p := by
 unfold Zay.iv
 rw [h, ZpV, Option.elim_some]
 dsimp only
 repeat rw [if_neg (by decide)]
 rw [if_pos rfl, Cod.un_val, Option.elim_some]
theorem Zu9 {n : Int} (h : v.v = .iface 150 ((cI .i64).val n)) : Zay.iv v port p = Zck n port p := by
 unfold Zay.iv
 rw [h, ZpV, Option.elim_some]
 dsimp only
 repeat rw [if_neg (by decide)]
 rw [if_pos rfl, Cod.un_val, Option.elim_some]
theorem ZtO {f : Any} (h : v.v = .iface 152 f.v) : Zay.iv v port p = Zcc (Zay.fv f) port p := by
 unfold Zay.iv
 rw [h, ZpV, Option.elim_some]
 dsimp only
 repeat rw [if_neg (by decide)]
 rw [if_pos rfl, show f.v = cV.val f from rfl, Cod.un_val, Option.elim_some]
theorem Zwl {q : ZbV} (h : v.v = .iface 155 (Zbx.val q)) : Zay.iv v port p = ZcA q port p := by
 unfold Zay.iv
 rw [h, ZpV, Option.elim_some]
 dsimp only
 repeat rw [if_neg (by decide)]
 rw [if_pos rfl, Cod.un_val, Option.elim_some]
theorem Zxj {n : Int} (h : v.v = .iface 156 ((cI .i64).val n)) : Zay.iv v port p = Zcx n port p := by
 unfold Zay.iv
 rw [h, ZpV, Option.elim_some]
 dsimp only
 repeat rw [if_neg (by decide)]
 rw [if_pos rfl, Cod.un_val, Option.elim_some]
theorem Zva {q : Zed} (h : v.v = .iface 158 (Zb8.val q)) : Zay.iv v port p = Zcl q port p := by
 unfold Zay.iv
 rw [h, ZpV, Option.elim_some]
 dsimp only
 repeat rw [if_neg (by decide)]
 rw [if_pos rfl, Cod.un_val, Option.elim_some]
theorem Zxm {f : Any} {a b c : Addr} (h : f.v = .func (.func 85) #[] #[.pointer (some a), .pointer (some b), .pointer (some c)]) : Zay.fv f p = Zc4 p a b c := by
 unfold Zay.fv
 rw [h, show ZjO (.func (.func 85) #[] #[.pointer (some a), .pointer (some b), .pointer (some c)]) = some (85, [a, b, c]) from Zqb (l := [a, b, c]), Option.elim_some]
 dsimp only
 repeat rw [if_neg (by decide)]
 rw [if_pos rfl]
theorem Zws {f : Any} {a b : Addr} (h : f.v = .func (.func 90) #[] #[.pointer (some a), .pointer (some b)]) : Zay.fv f p = ZcO p a b := by
 unfold Zay.fv
 rw [h, show ZjO (.func (.func 90) #[] #[.pointer (some a), .pointer (some b)]) = some (90, [a, b]) from Zqb (l := [a, b]), Option.elim_some]
 dsimp only
 repeat rw [if_neg (by decide)]
 rw [if_pos rfl]
end
section
variable {W w : World} {Hs : List HP}
theorem WP.and2 {q r : Prop} [Decidable q] [Decidable r] {c : Bool} {f : Bool → M Bool} {Q : Bool → World → Prop} (hc : c = true ↔ r) (k : WP (f (decide (q ∧ r))) w Q) : WP ((if q then pure c else pure false) >>= f) w Q := by
 refine WP.step (R := fun y w' => y = decide (q ∧ r) ∧ w = w') (WP.ite (fun h => ret ⟨?_, rfl⟩) (fun h => ret ⟨(zh (fun h' => h h'.1)).symm, rfl⟩)) ?_
 ·rw [zj, hc, ze]
  exact ⟨fun h' => ⟨h, h'⟩, fun h' => h'.2⟩
 ·rintro _ _ ⟨rfl, rfl⟩
  exact k
theorem Zwo {v : Any} {t : TM} {port : Int} {p : Zat} {vid : Option Int} (s : Ss W (TstH v t :: Hs) w) (vr : VidR Hs p vid) (pb : PkB p) (hb : ∀ to no l, t = .net to no l → Byts l ∧ l.length ≤ 9000000000000000000) (hc : ∀ to l, t = .port to l → l.length ≤ 9000000000000000000) :
  WP (Zay.iv v port p) w (fun y w' => y = t.holds port p vid ∧ Ss W Hs w') := by
 obtain ⟨h0, hh0⟩ := s.has (i := 0) rfl
 cases t with
 | inn n =>
  rw [Zxk hh0]
  unfold ZcW TM.holds
  exact WP.slot' s.drop (fun _ w s => ret ⟨rfl, s⟩)
 | vid n =>
  rw [Zxi hh0]
  unfold ZcK TM.holds
  refine WP.slot' s.drop (fun _ w s => ?_)
  cases vid with
  | none =>
   have h := vr.no rfl
   refine WP.step (R := fun y w' => y = false ∧ Ss W Hs w') (WP.ite (fun h' => by omega) (fun _ => ret ⟨rfl, s⟩)) (fun y w h => ret h)
  | some x =>
   obtain ⟨hl, i, A, a, e, ha, H⟩ := vr.some_ x rfl
   refine WP.step (R := fun y w' => y = (x == n) ∧ Ss W Hs w') (WP.ite (fun _ => ?_) (fun h' => by omega)) (fun y w h => ret h)
   refine WP.idxs (a := a) (n := p.Tags.len) (k := p.Tags.cap) (by rw [← ha]) (by omega) (by omega) ?_
   refine WP.ldh s i e H ?_ (ret ⟨rfl, s⟩)
   rw [Zd4]
   rfl
 | kind n =>
  rw [Zwk hh0]
  unfold Zcz TM.holds
  exact WP.slot' s.drop (fun _ w s => ret ⟨rfl, s⟩)
 | proto n =>
  rw [Zu9 hh0]
  unfold Zck TM.holds
  refine WP.slot' s.drop (fun _ w s => WP.and2 (r := p.Ip4.Proto = n) zq ?_)
  refine WP.step (R := fun y w' => y = decide ((p.Kind = 2 ∧ p.Ip4.Proto = n) ∨ (p.Kind = 3 ∧ p.Ip6.Next = n)) ∧ Ss W Hs w') (WP.ite (fun h => ret ⟨(zb (.inl (zd h))).symm, s⟩) (fun h => WP.and2 (r := p.Ip6.Next = n) zq (ret ⟨?_, s⟩))) (fun y w h => ret h)
  exact decide_eq_decide.2 ⟨.inr, fun h' => h'.elim (fun h' => absurd (zb h') h) id⟩
 | net to no l =>
  obtain ⟨f, hv, -⟩ := hh0
  have s : Ss W (NetH f to no l :: Hs) w := s.first (fun h hh => by
   obtain ⟨f2, h1, h2⟩ := hh
   rw [hv] at h1
   have : f = f2 := Any.eq (by injection h1)
   rw [this]
   exact h2)
  rw [ZtO hv]
  unfold Zcc TM.holds
  refine WP.slot' s (fun _ w s => ?_)
  obtain ⟨b1, s⟩ := Ss.exs s
  obtain ⟨b2, s⟩ := Ss.exs s
  obtain ⟨b3, s⟩ := Ss.exs s
  obtain ⟨sl, s⟩ := Ss.exs s
  obtain ⟨h1, hh1⟩ := s.has (i := 0) rfl
  rw [Zxm hh1.1]
  have q := hb to no l rfl
  exact WP.step (Zwa s q.1 pb q.2) (fun y w h => ret ⟨h.1, Ss.drop h.2⟩)
 | port to l =>
  obtain ⟨f, hv, -⟩ := hh0
  have s : Ss W (ZlG f to l :: Hs) w := s.first (fun h hh => by
   obtain ⟨f2, h1, h2⟩ := hh
   rw [hv] at h1
   have : f = f2 := Any.eq (by injection h1)
   rw [this]
   exact h2)
  rw [ZtO hv]
  unfold Zcc TM.holds
  refine WP.slot' s (fun _ w s => ?_)
  obtain ⟨b1, s⟩ := Ss.exs s
  obtain ⟨b2, s⟩ := Ss.exs s
  obtain ⟨sl, s⟩ := Ss.exs s
  obtain ⟨h1, hh1⟩ := s.has (i := 0) rfl
  rw [Zws hh1.1]
  exact WP.step (ZuS s (hc to l rfl)) (fun y w h => ret ⟨h.1, Ss.drop h.2⟩)
 | flag sb cb =>
  rw [Zwl hh0]
  unfold ZcA TM.holds
  refine WP.slot' s.drop (fun _ w s => WP.slot' s (fun _ w s => WP.and2 (r := band .i64 p.Tcp.Flags sb = sb) zq (WP.and2 (r := band .i64 p.Tcp.Flags cb = 0) zq (ret ⟨decide_eq_decide.2 ?_, s⟩))))
  rw [ze, and_assoc]
 | typ n =>
  rw [Zxj hh0]
  unfold Zcx TM.holds
  exact WP.slot' s.drop (fun _ w s => WP.and2 (r := p.Icmp.Type_ = wrap .i64 (n - 1)) zq (ret ⟨rfl, s⟩))
 | piece =>
  rw [Zva hh0]
  unfold Zcl TM.holds
  refine WP.slot' s.drop (fun _ w s => WP.slot' s (fun _ w s => ?_))
  refine WP.step (R := fun y w' => y = decide (p.Kind = 2 ∧ (p.Ip4.MF = true ∨ p.Ip4.Off > 0)) ∧ Ss W Hs w') (WP.ite (fun h => WP.step (R := fun y w' => y = decide (p.Kind = 2 ∧ (p.Ip4.MF = true ∨ p.Ip4.Off > 0)) ∧ Ss W Hs w') (WP.ite (fun h2 => ret ⟨(zb ⟨h, .inl h2⟩).symm, s⟩) (fun h2 => ret ⟨decide_eq_decide.2 ⟨fun h' => ⟨h, .inr h'⟩, fun h' => h'.2.elim (fun h' => absurd h' h2) id⟩, s⟩)) (fun y w h => ret h)) (fun h => ret ⟨(zh (fun h' => h h'.1)).symm, s⟩)) ?_
  rintro _ w ⟨rfl, s⟩
  refine WP.step (R := fun y w' => y = decide ((p.Kind = 2 ∧ (p.Ip4.MF = true ∨ p.Ip4.Off > 0)) ∨ (p.Kind = 3 ∧ p.Ip6.Frag.Has = true)) ∧ Ss W Hs w') (WP.ite (fun h => ret ⟨(zb (.inl (zd h))).symm, s⟩) (fun h => WP.and2 (r := p.Ip6.Frag.Has = true) Iff.rfl (ret ⟨?_, s⟩))) (fun y w h => ret h)
  exact decide_eq_decide.2 ⟨.inr, fun h' => h'.elim (fun h' => absurd (zb h') h) id⟩
end
structure Zo1 (m : ZaR) : Prop where
 b1 : Byts m.From.nets
 b2 : Byts m.To.nets
 sm : Zna m
theorem Zs2 {m : ZaR} (f : Zo1 m) : ∀ to no l, TM.net to no l ∈ Zf8 m → Byts l ∧ l.length ≤ 9000000000000000000 := by
 intro to no l h
 have h1 := f.sm.fn
 have h2 := f.sm.tn
 unfold Zf8 at h
 simp only [zW, List.mem_ite_nil_right, zG, reduceCtorEq, and_false, or_false, false_or, TM.net.injEq] at h
 rcases h with ⟨-, -, -, rfl⟩ | ⟨-, -, -, rfl⟩
 ·exact ⟨f.b1, by omega⟩
 ·exact ⟨f.b2, by omega⟩
theorem Zr4 {m : ZaR} (f : Zo1 m) : ∀ to l, TM.port to l ∈ Zf8 m → l.length ≤ 9000000000000000000 := by
 intro to l h
 have h1 := f.sm.fp
 have h2 := f.sm.tp
 unfold Zf8 at h
 simp only [zW, List.mem_ite_nil_right, zG, reduceCtorEq, and_false, or_false, false_or, TM.port.injEq] at h
 rcases h with ⟨-, -, rfl⟩ | ⟨-, -, rfl⟩
 ·omega
 ·omega
theorem Zs3 (m : ZaR) : (Zf8 m).length ≤ 11 := by
 have q : ∀ {p : Prop} [Decidable p] {t : TM}, (if p then [t] else []).length ≤ 1 := fun {p} _ {t} => by
  split <;> simp
 unfold Zf8
 simp only [zc]
 have h1 := q (p := m.In ≠ 0) (t := .inn m.In)
 have h2 := q (p := m.Vid ≠ 0) (t := .vid m.Vid)
 have h3 := q (p := m.Kind ≠ 0) (t := .kind m.Kind)
 have h4 := q (p := m.Proto ≠ 0) (t := .proto m.Proto)
 have h5 := q (p := m.From.nets ≠ []) (t := .net false m.From.Not m.From.nets)
 have h6 := q (p := m.From.ports ≠ []) (t := .port false m.From.ports)
 have h7 := q (p := m.To.nets ≠ []) (t := .net true m.To.Not m.To.nets)
 have h8 := q (p := m.To.ports ≠ []) (t := .port true m.To.ports)
 have h9 := q (p := bor .i64 m.Set m.Clear ≠ 0) (t := .flag m.Set m.Clear)
 have h10 := q (p := m.Type_ ≠ 0) (t := .typ m.Type_)
 have h11 := q (p := m.Pieces = true) (t := .piece)
 omega
theorem ZqP {ms : List ZaR} {k : Nat} {m : ZaR} {port : Int} {p : Zat} {vid : Option Int} (h : ms[k]? = some m) (j : Nat) : Zn6 port p vid j (ms.drop k) = if Zmv port p vid m = true then ⟨m.Act, m.Class, (j : Int)⟩ else Zn6 port p vid (j + 1) (ms.drop (k + 1)) := by
 obtain ⟨h1, h2⟩ := List.getElem?_eq_some_iff.1 h
 rw [zQ h1, h2]
 rfl
section
variable {W w : World} {Hs : List HP}
theorem ZrY {a : Addr} {ms : List ZaR} {port : Int} {p : Zat} {vid : Option Int} (s : Ss W Hs w) (j : Nat) (e : nth Hs j = some (SetH a ms)) (vr : VidR Hs p vid) (pb : PkB p) (hf : ∀ m ∈ ms, Zo1 m) (hl : ms.length ≤ 9000000000000000000) :
  WP (Zba (some a) port p) w (fun y w' => y = ZvI port p vid ms ∧ Ss W Hs w') := by
 have s := s.copy j e SetH.ro (fun h hh => hh)
 obtain ⟨rs, s⟩ := Ss.exs s
 obtain ⟨ts, s⟩ := Ss.exs s
 obtain ⟨xs, s⟩ := Ss.exs s
 obtain ⟨tl, s⟩ := Ss.exs s
 have H0 : ZdI (SetO a ms rs ts xs tl) a (ZcM.enc ⟨rs, ts⟩) := fun h hh => ZdI.pts h hh.1
 have Ht : ZdI (SetO a ms rs ts xs tl) (a.add 1) (cL.enc ts) := H0.at_ (ZeK _)
 have Hr : ZdI (SetO a ms rs ts xs tl) (a.add 0) (cL.enc rs) := H0.at_ (ZcZ _)
 have Rx : Rdb (SetO a ms rs ts xs tl) Zah rs xs := fun h hh => ZbM h hh.2.1
 have Rt : Rdb (SetO a ms rs ts xs tl) cL ts tl := fun h hh => ZbM h hh.2.2.1
 obtain ⟨h0, hh0⟩ := s.has (i := 0) rfl
 obtain ⟨lx, lt, mem⟩ := hh0.2.2.2
 have len := (s.rd_len (i := 0) rfl Rt).1
 unfold Zba ZvI
 refine WP.newv s (fun b1 w s => WP.newv s (fun b2 w s => WP.slot' s (fun _ w s => WP.nilck (WP.ldh s 2 rfl Ht rfl ?_))))
 refine WP.loopG (γ := Nat) (fun k (x : Int × Zbv) w => x.1 = (k : Int) ∧ k ≤ ms.length ∧ Zn6 port p vid 0 ms = Zn6 port p vid k (ms.drop k) ∧ Ss W (pts true (pt b2 0) (Zaz.enc p) :: pts true (pt b1 0) ((cI .i64).enc port) :: SetO a ms rs ts xs tl :: Hs) w) (fun k _ => ms.length - k) 0 ⟨rfl, zF _, rfl, s⟩ ?_
 clear s
 rintro k ⟨x1, x2⟩ w ⟨h1, hk, hF, s⟩
 dsimp only at h1
 subst h1
 show WP (Zba.L1 (some a) b1 b2 ts (k : Int) x2) w _
 unfold Zba.L1
 refine WP.ite (fun hc => ?_) (fun hc => ?_)
 ·have hk2 : k < ms.length := by omega
  have hm := za hk2
  have hx := za (show k < xs.length by omega)
  have ht := za (show k < tl.length by omega)
  generalize ms[k] = m at hm
  generalize xs[k]'(show k < xs.length by omega) = x at hx
  generalize tl[k]'(show k < tl.length by omega) = t at ht
  have fm := hf m (zk hm)
  obtain ⟨rl, -⟩ := mem k m x t hm hx ht
  rw [ZqP hm] at hF
  refine WP.rdx s 2 rfl Rt (by omega) (x := t) (by rw [zg]; exact ht) rfl ?_
  refine WP.step (R := fun y w' => y = (!Zmv port p vid m) ∧ Ss W (pts true (pt b2 0) (Zaz.enc p) :: pts true (pt b1 0) ((cI .i64).enc port) :: SetO a ms rs ts xs tl :: Hs) w') ?_ ?_
  ·have s := s.copy 2 rfl SetO.ro (B := TsH t (Zf8 m)) (fun h hh => (hh.2.2.2.2.2 k m x t hm hx ht).2)
   obtain ⟨vs, s⟩ := Ss.exs s
   obtain ⟨h2, hh2⟩ := s.has (i := 0) rfl
   have hlv := hh2.2.1
   have ht11 := Zs3 m
   unfold Zbh Zam
   refine WP.step (ZpT (g := (Zf8 m).map (fun t => !t.holds port p vid)) s 0 rfl (c := cV) (l := vs) (fun h hh => ZbM h hh.1) rfl (by rw [zl, hlv]) (by omega) (fun i v b hv hb w s => ?_)) ?_
   ·rw [zD] at hb
    obtain ⟨tm, htm, rfl⟩ := Option.map_eq_some_iff.1 hb
    unfold Zay
    refine WP.ld s 2 rfl (o := 0) (by rfl) (At.whole _) (WP.ld s 1 rfl (o := 0) (by rfl) (At.whole _) ?_)
    have s := s.copy 0 rfl (Ro.rdS.and TssH.ro) (B := TstH v tm) (fun h hh => hh.2.2 i v tm hv htm)
    refine WP.step (Zwo s vr.push.push.push.push pb (fun to no l h => Zs2 fm to no l (h ▸ zk htm)) (fun to l h => Zr4 fm to l (h ▸ zk htm))) ?_
    rintro _ w ⟨rfl, s⟩
    exact ret ⟨rfl, s⟩
   ·intro y w h
    refine ret ⟨?_, Ss.drop h.2⟩
    rw [h.1, List.any_map]
    unfold Zmv
    show (Zf8 m).any (fun t => !TM.holds port p vid t) = _
    rw [List.not_all_eq_any_not]
  rintro _ w ⟨rfl, s⟩
  refine WP.ite (fun h => WP.draw' s (fun w s => WP.nilck (WP.ldh s 2 rfl Hr (by rfl) ?_))) (fun h => ?_)
  ·refine WP.rdxp0 s 2 rfl Rx (by omega) (x := x) (by rw [zg]; exact hx) rfl (ZcE _) (WP.nilck (WP.ldh s 2 rfl Hr (by rfl) ?_))
   refine WP.rdxp s 2 rfl Rx (by omega) (x := x) (by rw [zg]; exact hx) rfl (Zdc _) (WP.done ⟨?_, s.drop.drop.drop⟩)
   have hma : Zmv port p vid m = true := by
    cases hq : Zmv port p vid m with
    | true => rfl
    | false => exact absurd (by rw [hq]; rfl) h
   rw [hF, if_pos hma]
   obtain ⟨⟨c1, c2, -⟩, -⟩ := rl.1
   rw [c1, c2]
  ·have hma : ¬ Zmv port p vid m = true := fun h' => h (by rw [h']; decide)
   rw [if_neg hma] at hF
   refine WP.next ⟨k + 1, ⟨?_, hk2, hF, s⟩, by omega⟩
   show wrap .i64 ((k : Int) + 1) = _
   rw [Zau (by omega) (by omega)]
   simp
 ·have hk2 : k = ms.length := by omega
  rw [hk2, zY] at hF
  exact WP.done ⟨by rw [hF]; rfl, s.drop.drop.drop⟩
end
structure OptC where
 kind : Int
 data : List Int
structure ExtC where
 kind : Int
 opts : List OptC
 data : List Int
structure PkC where
 tags : List Zg5
 o4 : List OptC
 d4 : List Int
 exts : List ExtC
 d6 : List Int
 di : List Int
 du : List Int
 oT : List OptC
 dT : List Int
abbrev cU : Cod Int := cI .u8
def Ze4 (xs : List Zdv) (os : List OptC) : HP := fun h => xs.length = os.length ∧ ∀ (i : Nat) (x : Zdv) (o : OptC), xs[i]? = some x → os[i]? = some o → x.Kind = o.kind ∧ rdS cU false x.Data o.data h
def ZfN (sl : Sl) (os : List OptC) : HP := fun h => ∃ xs, rdS ZcC false sl xs h ∧ Ze4 xs os h
def Zfe (xs : List ZcR) (es : List ExtC) : HP := fun h => xs.length = es.length ∧ ∀ (i : Nat) (x : ZcR) (e : ExtC), xs[i]? = some x → es[i]? = some e → rdS cU false x.Data e.data h ∧ ZfN x.Opts e.opts h
theorem Ze4.ro {xs : List Zdv} {os : List OptC} : Ro (Ze4 xs os) := Ro.tt.and (Ro.all fun i => Ro.all fun x => Ro.all fun o => Ro.imp (Ro.imp (Ro.tt.and Ro.rdS)))
theorem ZfN.ro {sl : Sl} {os : List OptC} : Ro (ZfN sl os) := Ro.exs fun xs => Ro.rdS.and Ze4.ro
theorem Zfe.ro {xs : List ZcR} {es : List ExtC} : Ro (Zfe xs es) := Ro.tt.and (Ro.all fun i => Ro.all fun x => Ro.all fun e => Ro.imp (Ro.imp (Ro.rdS.and ZfN.ro)))
theorem Ze4.up {xs : List Zdv} {os : List OptC} : Upw (Ze4 xs os) := Upw.tt.and (Upw.all fun i => Upw.all fun x => Upw.all fun o => Upw.imp (Upw.imp (Upw.tt.and Upw.rdS)))
theorem ZfN.up {sl : Sl} {os : List OptC} : Upw (ZfN sl os) := Upw.exs fun xs => Upw.rdS.and Ze4.up
theorem Zfe.up {xs : List ZcR} {es : List ExtC} : Upw (Zfe xs es) := Upw.tt.and (Upw.all fun i => Upw.all fun x => Upw.all fun e => Upw.imp (Upw.imp (Upw.rdS.and ZfN.up)))
theorem Ze4.fr {xs : List Zdv} {os : List OptC} {h : PH} (a : Ze4 xs os h) : Ze4 xs os (frz h) := ⟨a.1, fun i x o h1 h2 => ⟨(a.2 i x o h1 h2).1, Zg0 (a.2 i x o h1 h2).2⟩⟩
theorem ZfN.fr {sl : Sl} {os : List OptC} {h : PH} (a : ZfN sl os h) : ZfN sl os (frz h) := by
 obtain ⟨xs, h1, h2⟩ := a
 exact ⟨xs, Zg0 h1, h2.fr⟩
theorem Zfe.fr {xs : List ZcR} {es : List ExtC} {h : PH} (a : Zfe xs es h) : Zfe xs es (frz h) := ⟨a.1, fun i x e h1 h2 => ⟨Zg0 (a.2 i x e h1 h2).1, (a.2 i x e h1 h2).2.fr⟩⟩
theorem Ze4.nil {h : PH} : Ze4 [] [] h := ⟨rfl, fun i x o h => by cases h⟩
theorem Zfe.nil {h : PH} : Zfe [] [] h := ⟨rfl, fun i x o h => by cases h⟩
theorem Ze4.snoc {xs : List Zdv} {os : List OptC} {x : Zdv} {o : OptC} {h : PH} (a : Ze4 xs os h) (k : x.Kind = o.kind) (b : rdS cU false x.Data o.data h) : Ze4 (xs ++ [x]) (os ++ [o]) h := by
 refine ⟨by simp [a.1], fun i x' o' h1 h2 => ?_⟩
 have hl := a.1
 rcases ZeJ h1 with ⟨i1, h1⟩ | ⟨i1, rfl⟩
 ·rcases ZeJ h2 with ⟨i2, h2⟩ | ⟨i2, -⟩
  ·exact a.2 i x' o' h1 h2
  ·omega
 ·rcases ZeJ h2 with ⟨i2, -⟩ | ⟨-, rfl⟩
  ·omega
  ·exact ⟨k, b⟩
theorem Zfe.snoc {xs : List ZcR} {es : List ExtC} {x : ZcR} {e : ExtC} {h : PH} (a : Zfe xs es h) (b : rdS cU false x.Data e.data h) (c : ZfN x.Opts e.opts h) : Zfe (xs ++ [x]) (es ++ [e]) h := by
 refine ⟨by simp [a.1], fun i x' o' h1 h2 => ?_⟩
 have hl := a.1
 rcases ZeJ h1 with ⟨i1, h1⟩ | ⟨i1, rfl⟩
 ·rcases ZeJ h2 with ⟨i2, h2⟩ | ⟨i2, -⟩
  ·exact a.2 i x' o' h1 h2
  ·omega
 ·rcases ZeJ h2 with ⟨i2, -⟩ | ⟨-, rfl⟩
  ·omega
  ·exact ⟨b, c⟩
def RdU (L : List HP) (sl : Sl) (l : List Int) : Prop := ∃ i A, nth L i = some A ∧ Rdb A cU sl l
def RdO (L : List HP) (sl : Sl) (os : List OptC) : Prop := ∃ i, nth L i = some (ZfN sl os)
def RdE (L : List HP) (sl : Sl) (es : List ExtC) : Prop := ∃ i A j xs, nth L i = some A ∧ Rdb A Zcu sl xs ∧ nth L j = some (Zfe xs es) ∧ xs.map (fun x => x.Kind) = es.map (fun e => e.kind)
def RdT (L : List HP) (sl : Sl) (l : List Zg5) : Prop := ∃ i A, nth L i = some A ∧ Rdb A ZfB sl l
theorem RdU.push {L : List HP} {sl : Sl} {l : List Int} {A : HP} (r : RdU L sl l) : RdU (A :: L) sl l := by
 obtain ⟨i, B, h1, h2⟩ := r
 exact ⟨i + 1, B, h1, h2⟩
theorem RdT.push {L : List HP} {sl : Sl} {l : List Zg5} {A : HP} (r : RdT L sl l) : RdT (A :: L) sl l := by
 obtain ⟨i, B, h1, h2⟩ := r
 exact ⟨i + 1, B, h1, h2⟩
theorem RdO.push {L : List HP} {sl : Sl} {l : List OptC} {A : HP} (r : RdO L sl l) : RdO (A :: L) sl l := by
 obtain ⟨i, h⟩ := r
 exact ⟨i + 1, h⟩
theorem RdE.push {L : List HP} {sl : Sl} {l : List ExtC} {A : HP} (r : RdE L sl l) : RdE (A :: L) sl l := by
 obtain ⟨i, B, j, xs, h1, h2, h3, h4⟩ := r
 exact ⟨i + 1, B, j + 1, xs, h1, h2, h3, h4⟩
structure PkR (L : List HP) (p : Zat) (k : PkC) : Prop where
 tags : RdT L p.Tags k.tags
 o4 : RdO L p.Ip4.Opts k.o4
 d4 : RdU L p.Ip4.Data k.d4
 ex : RdE L p.Ip6.Exts k.exts
 d6 : RdU L p.Ip6.Data k.d6
 di : RdU L p.Icmp.Data k.di
 du : RdU L p.Udp.Data k.du
 oT : RdO L p.Tcp.Opts k.oT
 dT : RdU L p.Tcp.Data k.dT
theorem PkR.push {L : List HP} {p : Zat} {k : PkC} {A : HP} (r : PkR L p k) : PkR (A :: L) p k := ⟨r.tags.push, r.o4.push, r.d4.push, r.ex.push, r.d6.push, r.di.push, r.du.push, r.oT.push, r.dT.push⟩
structure PkL (k : PkC) : Prop where
 tags : k.tags.length * 32 ≤ reachBytes
 o4 : k.o4.length * 32 ≤ reachBytes ∧ ∀ o ∈ k.o4, o.data.length ≤ reachBytes
 d4 : k.d4.length ≤ reachBytes
 ex : k.exts.length * 56 ≤ reachBytes ∧ ∀ e ∈ k.exts, e.data.length ≤ reachBytes ∧ e.opts.length * 32 ≤ reachBytes ∧ ∀ o ∈ e.opts, o.data.length ≤ reachBytes
 d6 : k.d6.length ≤ reachBytes
 di : k.di.length ≤ reachBytes
 du : k.du.length ≤ reachBytes
 oT : k.oT.length * 32 ≤ reachBytes ∧ ∀ o ∈ k.oT, o.data.length ≤ reachBytes
 dT : k.dT.length ≤ reachBytes
def PkS (p y : Zat) : Prop := y = { p with Tags := y.Tags, Ip4 := { p.Ip4 with Opts := y.Ip4.Opts, Data := y.Ip4.Data }, Ip6 := { p.Ip6 with Exts := y.Ip6.Exts, Data := y.Ip6.Data }, Icmp := { p.Icmp with Data := y.Icmp.Data }, Udp := { p.Udp with Data := y.Udp.Data }, Tcp := { p.Tcp with Opts := y.Tcp.Opts, Data := y.Tcp.Data } }
theorem PkS.refl (p : Zat) : PkS p p := rfl
theorem PkS.trans {p q r : Zat} (a : PkS p q) (b : PkS q r) : PkS p r := by
 unfold PkS at a b ⊢
 rw [a] at b
 exact b
theorem PkS.symm {p q : Zat} (a : PkS p q) : PkS q p := by
 unfold PkS at a ⊢
 rw [a]
theorem PkS.byt {p q : Zat} (a : PkS p q) (b : PkB p) : PkB q := by
 unfold PkS at a
 rw [a]
 exact ⟨b.a1, b.a2, b.b1, b.b2, b.c1, b.c2⟩
def vidC (l : List Zg5) : Option Int := l.head?.map (·.VID)
theorem PkR.vid {L : List HP} {p : Zat} {k : PkC} {W w : World} (s : Ss W L w) (r : PkR L p k) : VidR L p (vidC k.tags) := by
 obtain ⟨i, A, e, ra⟩ := r.tags
 obtain ⟨hl, hn⟩ := s.rd_len e ra
 refine ⟨fun h => ?_, fun x h => ?_⟩
 ·cases ht : k.tags with
  | nil =>
   rw [ht] at hl
   exact hl
  | cons t l =>
   rw [ht] at h
   cases h
 ·cases ht : k.tags with
  | nil =>
   rw [ht] at h
   cases h
  | cons t l =>
   rw [ht] at h hl hn ra
   cases h
   obtain ⟨a, ha⟩ := hn (by simp)
   refine ⟨by rw [hl]; simp, i, A, a, e, ha, ?_⟩
   have H : ZdI A a (ZfB.enc t) := fun h hh => by
    obtain ⟨-, -, q⟩ := ra h hh
    obtain ⟨sp, q⟩ := q 0 t a rfl ha
    exact ⟨sp, fun i v hv => by
     have := q i v hv
     rwa [Nat.zero_mul, Nat.zero_add] at this⟩
   exact H.at_ (ZnD t)
theorem Ze4.cons {xs : List Zdv} {os : List OptC} {x : Zdv} {o : OptC} {h : PH} (a : Ze4 xs os h) (k : x.Kind = o.kind) (b : rdS cU false x.Data o.data h) : Ze4 (x :: xs) (o :: os) h :=
 ⟨by simp [a.1], fun i x' o' h1 h2 => by
  cases i with
  | zero =>
   cases h1
   cases h2
   exact ⟨k, b⟩
  | succ i => exact a.2 i x' o' h1 h2⟩
theorem Zfe.cons {xs : List ZcR} {es : List ExtC} {x : ZcR} {e : ExtC} {h : PH} (a : Zfe xs es h) (b : rdS cU false x.Data e.data h) (c : ZfN x.Opts e.opts h) : Zfe (x :: xs) (e :: es) h :=
 ⟨by simp [a.1], fun i x' o' h1 h2 => by
  cases i with
  | zero =>
   cases h1
   cases h2
   exact ⟨b, c⟩
  | succ i => exact a.2 i x' o' h1 h2⟩
section
variable {W w : World} {Hs : List HP}
theorem argU {u : Sl} (s : Ss W Hs w) (g : GSl (cI .u8) (Tryz.prog.bytesOf 5) (fun W u => (Lit.int .u8 u).wf = true) W u) : ∃ l, Ss W (rdS cU false u l :: Hs) w ∧ l.length ≤ reachBytes := by
 obtain ⟨l, -, b, s⟩ := s.args g (by decide)
 rw [show Tryz.prog.bytesOf 5 = 1 by kernel_rfl] at b
 exact ⟨l, s, by omega⟩
theorem ZrR (s : Ss W Hs w) : ∀ xs : List Zdv, (∀ x ∈ xs, G139 W x) → ∃ os, Ss W (Ze4 xs os :: Hs) w ∧ ∀ o ∈ os, o.data.length ≤ reachBytes
 | [], _ => ⟨[], s.mk0 Ze4.nil, fun o h => by cases h⟩
 | x :: xs, g => by
  obtain ⟨os, s, hb⟩ := ZrR s xs (fun x h => g x (zO _ h))
  obtain ⟨l, s, b⟩ := argU s (g x (List.mem_cons_self ..)).2
  refine ⟨⟨x.Kind, l⟩ :: os, Ss.merge s (fun h1 h2 h l1 l2 a1 a2 => (Ze4.up _ _ l2 a2).cons rfl (Zd8 l1 a1)), fun o ho => ?_⟩
  rcases List.mem_cons.1 ho with rfl | ho
  ·exact b
  ·exact hb o ho
theorem Zq0 {u : Sl} (s : Ss W Hs w) (g : GSl ZcC (Tryz.prog.bytesOf 139) (fun W u => G139 W u) W u) : ∃ os, Ss W (ZfN u os :: Hs) w ∧ os.length * 32 ≤ reachBytes ∧ ∀ o ∈ os, o.data.length ≤ reachBytes := by
 obtain ⟨xs, hx, b, s⟩ := s.args g (by decide)
 rw [show Tryz.prog.bytesOf 139 = 32 by kernel_rfl] at b
 obtain ⟨os, s, hb⟩ := ZrR s xs hx
 obtain ⟨h0, hh⟩ := s.has (i := 0) rfl
 exact ⟨os, Ss.merge s (fun h1 h2 h l1 l2 a1 a2 => ⟨xs, Zd8 l2 a2, Ze4.up _ _ l1 a1⟩), by rw [← hh.1]; exact b, hb⟩
theorem ZrS (s : Ss W Hs w) : ∀ xs : List ZcR, (∀ x ∈ xs, G181 W x) → ∃ es, Ss W (Zfe xs es :: Hs) w ∧ xs.map (fun x => x.Kind) = es.map (fun e => e.kind) ∧ ∀ e ∈ es, e.data.length ≤ reachBytes ∧ e.opts.length * 32 ≤ reachBytes ∧ ∀ o ∈ e.opts, o.data.length ≤ reachBytes
 | [], _ => ⟨[], s.mk0 Zfe.nil, rfl, fun o h => by cases h⟩
 | x :: xs, g => by
  obtain ⟨es, s, hk, hb⟩ := ZrS s xs (fun x h => g x (zO _ h))
  have gx := g x (List.mem_cons_self ..)
  obtain ⟨os, s, b1, b2⟩ := Zq0 s gx.2.1
  obtain ⟨l, s, b⟩ := argU s gx.2.2
  have s := Ss.merge s (C := fun h => rdS cU false x.Data l h ∧ ZfN x.Opts os h) (fun h1 h2 h l1 l2 a1 a2 => ⟨Zd8 l1 a1, ZfN.up _ _ l2 a2⟩)
  refine ⟨⟨x.Kind, os, l⟩ :: es, Ss.merge s (fun h1 h2 h l1 l2 a1 a2 => (Zfe.up _ _ l2 a2).cons (Zd8 l1 a1.1) (ZfN.up _ _ l1 a1.2)), ?_, fun o ho => ?_⟩
  ·rw [List.map_cons, List.map_cons, hk]
  ·rcases List.mem_cons.1 ho with rfl | ho
   ·exact ⟨b, b1, b2⟩
   ·exact hb o ho
theorem ZwG {u : Sl} (s : Ss W Hs w) (g : GSl Zcu (Tryz.prog.bytesOf 181) (fun W u => G181 W u) W u) : ∃ xs es, Ss W (Zfe xs es :: rdS Zcu false u xs :: Hs) w ∧ xs.map (fun x => x.Kind) = es.map (fun e => e.kind) ∧ es.length * 56 ≤ reachBytes ∧ ∀ e ∈ es, e.data.length ≤ reachBytes ∧ e.opts.length * 32 ≤ reachBytes ∧ ∀ o ∈ e.opts, o.data.length ≤ reachBytes := by
 obtain ⟨xs, hx, b, s⟩ := s.args g (by decide)
 rw [show Tryz.prog.bytesOf 181 = 56 by kernel_rfl] at b
 obtain ⟨es, s, hk, hb⟩ := ZrS s xs hx
 obtain ⟨h0, hh⟩ := s.has (i := 0) rfl
 exact ⟨xs, es, s, hk, by rw [← hh.1]; exact b, hb⟩
theorem Zxz {p : Zat} (s : Ss W Hs w) (g : G69 W p) : ∃ (k : PkC) (Ls : List HP), Ss W (Ls ++ Hs) w ∧ PkR (Ls ++ Hs) p k ∧ PkL k ∧ PkB p := by
 obtain ⟨-, -, gt, -, ga, g4, g6, -, gi, gu, gc⟩ := g
 have pb : PkB p := ⟨Zog ga.2.2.1.2, Zog ga.2.2.2.2.2, Zog g4.2.2.2.2.2.2.2.1.2, Zog g4.2.2.2.2.2.2.2.2.1.2, Zog g6.2.2.2.1.2, Zog g6.2.2.2.2.1.2⟩
 obtain ⟨ts, -, bt, s⟩ := s.args gt (by decide)
 rw [show Tryz.prog.bytesOf 272 = 32 by kernel_rfl] at bt
 obtain ⟨o4, s, b4⟩ := Zq0 s g4.2.2.2.2.2.2.2.2.2.1
 obtain ⟨d4, s, e4⟩ := argU s g4.2.2.2.2.2.2.2.2.2.2
 obtain ⟨xs, es, s, hk, be⟩ := ZwG s g6.2.2.2.2.2.1
 obtain ⟨d6, s, e6⟩ := argU s g6.2.2.2.2.2.2.2.2
 obtain ⟨di, s, ei⟩ := argU s gi.2.2.2.2
 obtain ⟨du, s, eu⟩ := argU s gu.2.2.2
 obtain ⟨oT, s, bT⟩ := Zq0 s gc.2.2.2.2.2.2.2.1
 obtain ⟨dT, s, eT⟩ := argU s gc.2.2.2.2.2.2.2.2
 exact ⟨⟨ts, o4, d4, es, d6, di, du, oT, dT⟩, [_, _, _, _, _, _, _, _, _, _], s,
  ⟨⟨9, _, rfl, ZbM⟩, ⟨8, rfl⟩, ⟨7, _, rfl, ZbM⟩, ⟨6, _, 5, xs, rfl, ZbM, rfl, hk⟩, ⟨4, _, rfl, ZbM⟩, ⟨3, _, rfl, ZbM⟩, ⟨2, _, rfl, ZbM⟩, ⟨1, rfl⟩, ⟨0, _, rfl, ZbM⟩⟩, ⟨bt, b4, e4, be, e6, ei, eu, bT, eT⟩, pb⟩
end
def Zh2 (c : Int) : Bool := decide (c = 32 ∨ c = 9)
def Zlr (l : List Int) : Bool := match l.dropWhile Zh2 with
 | [] => true
 | c :: _ => decide (c = 35)
def Zhi (k : Nat) (ms : List ZaR) : List (List Int) → Except (Int × Nat × Int) (List ZaR)
 | [] => .ok ms
 | l :: ls => if Zlr l = true then Zhi (k + 1) ms ls else if ms.length = 256 then .error (167, k, 0) else match Ziv l with
  | .error f => .error (f.1, k, f.2)
  | .ok m => Zhi (k + 1) (ms ++ [m]) ls
def ZcX (ls : List (List Int)) : List ZaR := ls.filterMap fun l => match Ziv l with
 | .ok m => some m
 | .error _ => none
theorem ZtF {p c : Int} {cs : List Int} (h : Zh2 c = true) : lexM [] p (c :: cs) = lexM [] (p + 1) cs := by
 have h := zd h
 have hw : ¬ Zh8 c = true := by
  unfold Zh8
  rw [ze]
  omega
 have h4 : ¬ c = 44 := by omega
 rw [lexM, if_neg hw, if_neg h4, if_pos h]
 cases lexM [] (p + 1) cs with
 | error q => rfl
 | ok r => rfl
theorem Zrz : ∀ (l : List Int) (p : Int), ∃ q, lexM [] p l = lexM [] q (l.dropWhile Zh2)
 | [], p => ⟨p, rfl⟩
 | c :: cs, p => by
  cases hb : Zh2 c with
  | true =>
   obtain ⟨q, h⟩ := Zrz cs (p + 1)
   refine ⟨q, ?_⟩
   rw [ZtF hb, h, List.dropWhile_cons_of_pos hb]
  | false => exact ⟨p, by rw [List.dropWhile_cons_of_neg (by rw [hb]; decide)]⟩
theorem Zry : ∀ (l cur : List Int) (p : Int) (ws : List Wd), lexM cur p l = .ok ws → cur ≠ [] → ∃ w r, ws = w :: r ∧ w.1.head? = cur.head?
 | [], cur, p, ws, h, hc => by
  have h : (.ok (if cur = [] then [] else [(cur, p - cur.length)]) : Except Int (List Wd)) = .ok ws := h
  rw [if_neg hc] at h
  cases h
  exact ⟨_, _, rfl, rfl⟩
 | c :: cs, cur, p, ws, h, hc => by
  have h : (if Zh8 c = true then lexM (cur ++ [c]) (p + 1) cs
   else match (if c = 44 then (match lexM [] (p + 1) cs with
    | .error q => .error q
    | .ok r => .ok (([44], p) :: r)) else if c = 32 ∨ c = 9 then lexM [] (p + 1) cs else .error p : Except Int (List Wd)) with
   | .error q => .error q
   | .ok r => .ok (if cur = [] then r else (cur, p - cur.length) :: r)) = .ok ws := h
  split at h
  ·obtain ⟨w, r, e, hw⟩ := Zry cs (cur ++ [c]) (p + 1) ws h (by simp)
   refine ⟨w, r, e, ?_⟩
   rw [hw]
   cases cur with
   | nil => exact absurd rfl hc
   | cons a b => rfl
  ·split at h
   ·cases h
   ·try rw [if_neg hc] at h
    cases h
    exact ⟨_, _, rfl, rfl⟩
theorem Zvt {t : List Int} (h : t.head? = some 35) : idxT actN t = none := by
 unfold idxT
 rw [List.findIdx?_eq_none_iff]
 intro x hx
 refine zh (fun e => ?_)
 subst e
 have : ∀ x ∈ actN, x.head? ≠ some 35 := by decide
 exact this x hx h
theorem Zsd {l : List Int} (h : Zlr l = true) : ∃ f, Ziv l = .error f := by
 unfold Ziv
 split
 ·exact ⟨_, rfl⟩
 ·obtain ⟨q, e⟩ := Zrz l 0
  rw [e]
  unfold Zlr at h
  cases hd : l.dropWhile Zh2 with
  | nil =>
   refine ⟨(161, (l.length : Int)), ?_⟩
   rfl
  | cons c cs =>
   rw [hd] at h
   have hc : c = 35 := zd h
   subst hc
   cases hw : lexM [] q (35 :: cs) with
   | error f => exact ⟨_, rfl⟩
   | ok ws =>
    have h2 : lexM [35] (q + 1) cs = .ok ws := by
     have : lexM [] q (35 :: cs) = lexM ([] ++ [35]) (q + 1) cs := by
      show (if Zh8 35 = true then _ else _) = _
      rw [if_pos (by decide)]
     rw [← hw, this]
     rfl
    obtain ⟨w, r, rfl, hh⟩ := Zry cs [35] (q + 1) ws h2 (by simp)
    have ha := Zvt (t := w.1) hh
    refine ⟨(160, w.2), ?_⟩
    have : ZlC (l.length : Int) (w :: r) = .error (160, w.2) := by
     unfold ZlC
     simp only [ha]
    simp only [this]
theorem Zgk (a b : List (List Int)) : ZcX (a ++ b) = ZcX a ++ ZcX b := List.filterMap_append
theorem Zhf (l : List Int) : ZcX [l] = match Ziv l with
  | .ok m => [m]
  | .error _ => [] := by
 unfold ZcX
 cases h : Ziv l <;> simp [h]
theorem Zk8 {l : List Int} (h : Zlr l = true) : ZcX [l] = [] := by
 obtain ⟨f, e⟩ := Zsd h
 rw [Zhf, e]
theorem Zoy : ∀ (ls : List (List Int)) (k : Nat) (ms r : List ZaR), Zhi k ms ls = .ok r → ms.length ≤ 256 → r = ms ++ ZcX ls ∧ r.length ≤ 256
 | [], k, ms, r, h, hl => by
  cases h
  exact ⟨by simp [ZcX], hl⟩
 | l :: ls, k, ms, r, h, hl => by
  rw [show l :: ls = [l] ++ ls from rfl, Zgk]
  unfold Zhi at h
  split at h
  ·rename_i hb
   rw [Zk8 hb, zN]
   exact Zoy ls (k + 1) ms r h hl
  ·split at h
   ·cases h
   ·split at h
    ·cases h
    ·rename_i m e
     obtain ⟨h1, h2⟩ := Zoy ls (k + 1) (ms ++ [m]) r h (by simp; omega)
     refine ⟨?_, h2⟩
     rw [h1, Zhf, e, zu]
theorem Zmo : ∀ (ls : List (List Int)) (k : Nat) (ms : List ZaR) (q : Int × Nat × Int), Zhi k ms ls = .error q → ms.length ≤ 256 → k ≤ q.2.1 ∧ q.2.1 < k + ls.length ∧ (ms ++ ZcX (ls.take (q.2.1 - k))).length ≤ 256
 | l :: ls, k, ms, q, h, hl => by
  unfold Zhi at h
  split at h
  ·rename_i hb
   obtain ⟨h1, h2, h3⟩ := Zmo ls (k + 1) ms q h hl
   refine ⟨by omega, by simp only [zf]; omega, ?_⟩
   rw [show q.2.1 - k = (q.2.1 - (k + 1)) + 1 by omega, List.take_succ_cons, show l :: ls.take (q.2.1 - (k + 1)) = [l] ++ ls.take (q.2.1 - (k + 1)) from rfl, Zgk, Zk8 hb, zN]
   exact h3
  ·split at h
   ·cases h
    refine ⟨zB _, by simp, ?_⟩
    simpa [ZcX] using hl
   ·split at h
    ·cases h
     refine ⟨zB _, by simp, ?_⟩
     simpa [ZcX] using hl
    ·rename_i m e
     obtain ⟨h1, h2, h3⟩ := Zmo ls (k + 1) (ms ++ [m]) q h (by simp; omega)
     refine ⟨by omega, by simp only [zf]; omega, ?_⟩
     rw [show q.2.1 - k = (q.2.1 - (k + 1)) + 1 by omega, List.take_succ_cons, show l :: ls.take (q.2.1 - (k + 1)) = [l] ++ ls.take (q.2.1 - (k + 1)) from rfl, Zgk, Zhf, e, ← zu]
     exact h3
def cutB : ByteArray := bstr [32, 9]
theorem ZxT : ZwY = cutB := by decide +kernel
def asV : Nat → Vec Bool 256
 | 0 => Vec.rep 256 false
 | k + 1 => Vec.s (asV k) (sb cutB (k : Int)) true
theorem ZwF : ∀ c : _root_.Fin 256, Vec.g (asV 2) ((c.val : Nat) : Int) false = Zh2 ((c.val : Nat) : Int) := by decide +kernel
theorem ZvK : ∀ k : _root_.Fin 2, 0 ≤ sb cutB ((k.val : Nat) : Int) ∧ sb cutB ((k.val : Nat) : Int) < 128 := by decide +kernel
theorem ZoP : cutB.size = 2 := by decide +kernel
theorem Zij {t : ByteArray} : t.toList = ByteArray.empty.toList ↔ strI t = [] := by
 rw [Zhy, Zhy, ← List.length_eq_zero_iff, ZbI]
 constructor
 ·intro h
  have := congrArg List.length h
  simpa using this
 ·intro h
  have : t.data.toList.length = 0 := by simpa using h
  rw [List.length_eq_zero_iff.1 this]
  rfl
section
variable {W w : World} {Hs : List HP}
theorem Zvs (s : Ss W Hs w) : WP (ZaQ cutB) w (fun y w' => y = (asV 2, true) ∧ Ss W Hs w') := by
 unfold ZaQ
 refine WP.slot' s (fun _ w s => ?_)
 refine WP.loopG (γ := Nat) (fun k (x : Int × Vec Bool 256) w => x = ((k : Int), asV k) ∧ k ≤ 2 ∧ Ss W Hs w) (fun k _ => 2 - k) 0 ⟨rfl, by omega, s⟩ ?_
 clear s
 rintro k _ w ⟨rfl, hk, s⟩
 show WP (ZaQ.L1 cutB (k : Int) (asV k)) w _
 unfold ZaQ.L1
 rw [ZoP]
 refine WP.ite (fun h => ?_) (fun h => ?_)
 ·have hk2 : k < 2 := by omega
  have c0 : 0 ≤ sb cutB (k : Int) := (ZvK ⟨k, hk2⟩).1
  have c1 : sb cutB (k : Int) < 128 := (ZvK ⟨k, hk2⟩).2
  refine WP.chk ⟨by omega, h⟩ (WP.ite (fun h' => absurd h' (by omega)) (fun _ => WP.chk ⟨c0, by omega⟩ (WP.next ⟨k + 1, ⟨?_, by omega, s⟩, by omega⟩)))
  rw [Zau (by omega) (by omega)]
  simp [asV]
 ·have hk2 : k = 2 := by omega
  subst hk2
  exact WP.done ⟨rfl, s⟩
theorem sb0 {t : ByteArray} {c : Int} {cs : List Int} (h : strI t = c :: cs) : sb t 0 = c := by
 have := Zfh (s := t) (i := 0)
 rw [h] at this
 exact this
theorem Zpd {t : ByteArray} {c : Int} {cs : List Int} (h : strI t = c :: cs) : strI (ByteArray.extract t (Int.toNat 1) (Int.toNat (t.size : Int))) = cs := by
 have hl := ZbI t
 rw [h, zf] at hl
 rw [zg, show Int.toNat 1 = 1 from rfl, Zdx, h, ← hl]
 simp
theorem ZvX {b : Nat} {v : Vec Bool 256} (hv : ∀ c : _root_.Fin 256, Vec.g v ((c.val : Nat) : Int) false = Zh2 ((c.val : Nat) : Int)) (s : Ss W (pts true (pt b 0) ((cB.arr 256).enc v) :: Hs) w) (t : ByteArray) :
  WP (ZaK t (some (pt b 0))) w (fun y w' => strI y = (strI t).dropWhile Zh2 ∧ Ss W (pts true (pt b 0) ((cB.arr 256).enc v) :: Hs) w') := by
 unfold ZaK
 refine WP.loopG (γ := Unit) (fun _ (x : ByteArray) w => (strI x).dropWhile Zh2 = (strI t).dropWhile Zh2 ∧ Ss W (pts true (pt b 0) ((cB.arr 256).enc v) :: Hs) w) (fun _ x => x.size) () ⟨rfl, s⟩ ?_
 clear s
 rintro _ x w ⟨hx, s⟩
 show WP (ZaK.L1 (some (pt b 0)) x) w _
 unfold ZaK.L1
 have hl := ZbI x
 cases hc : strI x with
 | nil =>
  rw [hc] at hl hx
  refine WP.ite (fun h => absurd h (by simp at hl; omega)) (fun _ => WP.done ⟨?_, s⟩)
  rw [hc, ← hx]
  rfl
 | cons c cs =>
  rw [hc] at hl hx
  have hb := Byt.strI x c (by rw [hc]; exact List.mem_cons_self ..)
  have hs : (x.size : Int) > 0 := by simp only [zf] at hl; omega
  refine WP.ite (fun _ => WP.chk ⟨by omega, by omega⟩ ?_) (fun h => absurd hs h)
  rw [sb0 hc]
  refine WP.step (R := fun y w' => y = Zh2 c ∧ Ss W (pts true (pt b 0) ((cB.arr 256).enc v) :: Hs) w') ?_ ?_
  ·unfold Zb7
   refine WP.nilck (WP.idxs (sl := ⟨some (pt b 0), 256, 256⟩) rfl (by omega) (by omega) ?_)
   refine WP.ld s 0 rfl (o := c.toNat * 1) rfl (x := Vec.g v c false) (At.arr (z := false) (by omega) (by omega)) (ret ⟨?_, s⟩)
   have := hv ⟨c.toNat, by omega⟩
   rw [show ((c.toNat : Nat) : Int) = c by omega] at this
   exact this
  rintro _ w ⟨rfl, s⟩
  refine WP.ite (fun h => WP.done ⟨?_, s⟩) (fun h => WP.chk ⟨by omega, by omega, by omega⟩ (WP.next ⟨(), ⟨?_, s⟩, ?_⟩))
  ·rw [hc, ← hx, List.dropWhile_cons_of_neg h]
  ·rw [Zpd hc, ← hx, List.dropWhile_cons_of_pos (Decidable.not_not.1 h)]
  ·have h1 := ZbI (ByteArray.extract x (Int.toNat 1) (Int.toNat (x.size : Int)))
   rw [Zpd hc] at h1
   simp only [zf] at hl
   omega
theorem ZuV {α β : Type} {T : TypeId} {c : Cod α} {v v' : α} {f : Nat → M β} {Q : β → World → Prop} (s : Ss W Hs w) (k : ∀ b w, Ss W (pts true (pt b 0) (c.enc v') :: Hs) w → WP (f b) w Q) : WP (newv T c v >>= fun b => st c (pt b 0) v' >>= fun _ => f b) w Q :=
 WP.newv s (fun b w s => WP.st s 0 rfl (o := 0) (by rfl) (Upd.whole ((c.len _).trans (c.len _).symm)) (fun w s => k b w s))
theorem Zq3 (s : Ss W Hs w) (t : ByteArray) : WP (Zdo t cutB) w (fun y w' => strI y = (strI t).dropWhile Zh2 ∧ Ss W Hs w') := by
 unfold Zdo
 have hne : ¬ cutB.toList = ByteArray.empty.toList := fun h => by
  have := Zij.1 h
  have := congrArg List.length this
  rw [ZbI, ZoP] at this
  cases this
 refine WP.step (R := fun y w' => y = decide (strI t = []) ∧ w = w') (WP.ite (fun h => ret ⟨(zb (Zij.1 h)).symm, rfl⟩) (fun h => ret ⟨?_, rfl⟩)) ?_
 ·rw [zh (fun h' => h (Zij.2 h')), beq_eq_false_iff_ne]
  exact hne
 rintro _ _ ⟨rfl, rfl⟩
 refine WP.ite (fun h => ret ⟨?_, s⟩) (fun h => ?_)
 ·rw [zd h]
  rfl
 rw [ZoP]
 refine WP.step (R := fun y w' => y = false ∧ w = w') (WP.ite (fun h => by cases h) (fun _ => ret ⟨rfl, rfl⟩)) ?_
 rintro _ _ ⟨rfl, rfl⟩
 refine WP.ite (fun h => by cases h) (fun _ => WP.step (Zvs s) ?_)
 rintro y w ⟨hy, s⟩
 have hv := ZwF
 generalize asV 2 = V at hv hy
 subst hy
 dsimp only
 refine ZuV s (fun b w s => WP.ite (fun _ => ?_) (fun h => absurd rfl h))
 exact WP.step (ZvX hv s t) (fun y w h => ret ⟨h.1, Ss.drop h.2⟩)
end
theorem Zwt {m : ZaR} (h : ckM m = 0) (b : BytR m) : Zo1 m := ⟨b.1, b.2, ZoQ h⟩
theorem RdL.one {L : List HP} {x : Zaf} {m : ZaR} (r : RdR L x m) : RdL L [x] [m] := ⟨rfl, fun i y n h1 h2 => by
 cases i with
 | zero =>
  cases h1
  cases h2
  exact r
 | succ i => cases h1⟩
section
variable {W w : World} {Hs : List HP}
theorem numW {β : Type} {n : Int} {f : Int → M β} {Q : β → World → Prop} (k : WP (f n) w Q) : WP (Zb3 n >>= f) w Q := by
 refine WP.step (ZoF n) ?_
 rintro _ _ ⟨rfl, rfl⟩
 exact k
theorem ZvC {β : Type} {f : Bool → M β} {Q : β → World → Prop} (s : Ss W Hs w) (T : RTab Hs) (k : ∀ w, Ss W Hs w → WP (f true) w Q) : WP (Zco >>= f) w Q := by
 refine WP.step (Zr9 s T) ?_
 rintro _ w ⟨rfl, s⟩
 exact k w s
end
section
variable {port : Int} {p : Zat} {vid : Option Int}
end
theorem ZpH : ∀ {ms : List ZaR} {k : Nat} {q : Int × Int}, newF k ms = some q → q.1 ≠ 0
 | m :: ms, k, q, h => by
  unfold newF at h
  split at h
  ·rename_i hc
   cases h
   exact hc
  ·exact ZpH h
theorem Ztw {ms : List ZaR} {q : Int × Int} (h : newM ms = some q) : q.1 ≠ 0 := by
 unfold newM at h
 split at h
 ·cases h
  decide
 ·exact ZpH h
def NewF (y : (Option Addr) × Int × Int) (ms : List ZaR) : Prop := (newM ms ≠ none ∧ y.1 = none ∧ y.2.1 ≠ 0) ∨ (newM ms = none ∧ ∃ b, y = (some (pt b 0), 0, 0))
theorem NewF.ok {y : (Option Addr) × Int × Int} {ms : List ZaR} (h : NewF y ms) (h0 : ¬ y.2.1 ≠ 0) : newM ms = none ∧ ∃ b, y = (some (pt b 0), 0, 0) := by
 rcases h with ⟨-, -, h⟩ | h
 ·exact absurd h h0
 ·exact h
def SetQ (y : (Option Addr) × Int × Int) (ms : List ZaR) : HP := match y.1 with
 | some a => SetH a ms
 | none => fun _ => True
theorem RdL.byt {L : List HP} {xs : List Zaf} {ms : List ZaR} (r : RdL L xs ms) : ∀ m ∈ ms, BytR m := by
 intro m hm
 obtain ⟨i, hi⟩ := List.getElem?_of_mem hm
 have hl := (List.getElem?_eq_some_iff.1 hi).1
 have hx := za (show i < xs.length by rw [r.len]; exact hl)
 have rr := r.at_ i _ m hx hi
 exact ⟨rr.from_.byts, rr.to_.byts⟩
theorem RdL.app {L : List HP} {xs ys : List Zaf} {ms ns : List ZaR} (r : RdL L xs ms) (q : RdL L ys ns) : RdL L (xs ++ ys) (ms ++ ns) := by
 refine ⟨by rw [zc, zc, r.len, q.len], fun i x m h1 h2 => ?_⟩
 by_cases hi : i < xs.length
 ·rw [zH hi] at h1
  rw [zH (by rw [← r.len]; exact hi)] at h2
  exact r.at_ i x m h1 h2
 ·rw [zR (by omega)] at h1
  rw [zR (by rw [← r.len]; omega), ← r.len] at h2
  exact q.at_ _ x m h1 h2
theorem ZoC {A : HP} {L : List HP} : ∀ (Ls : List HP) {i : Nat}, nth L i = some A → nth (Ls ++ L) (Ls.length + i) = some A
 | [], i, h => by simpa using h
 | B :: Ls, i, h => by
  have : (B :: Ls).length + i = (Ls.length + i) + 1 := by simp only [zf]; omega
  rw [this]
  exact ZoC Ls h
theorem RdL.nil {L : List HP} : RdL L [] [] := ⟨rfl, fun i x m h => by cases h⟩
section
variable {W w : World} {Hs : List HP}
theorem Zuu {A : HP} {sl : Sl} {xs : List Zaf} {ms : List ZaR} (s : Ss W Hs w) (i : Nat) (e : nth Hs i = some A) (r : Rdb A Zah sl xs) (hr : RdL Hs xs ms) : WP (Zb5 sl) w (fun y w' => NewF y ms ∧ Ss W (SetQ y ms :: Hs) w') := by
 refine (ZxE s i e r hr).mono (fun y w h => ?_)
 unfold NewR at h
 cases hn : newM ms with
 | some q =>
  rw [hn] at h
  obtain ⟨rfl, s⟩ := h
  exact ⟨.inl ⟨by rw [hn]; simp, rfl, Ztw hn⟩, s.mk0 trivial⟩
 | none =>
  rw [hn] at h
  obtain ⟨b, rfl, s⟩ := h
  exact ⟨.inr ⟨hn, b, rfl⟩, s⟩
end
def PosW (e : Int) (ws : List Wd) : Prop := ∀ w ∈ ws, 0 ≤ w.2 ∧ w.2 ≤ e
theorem ZqM : ∀ (l cur : List Int) (p : Int), (cur.length : Int) ≤ p → (∀ q, lexM cur p l = .error q → 0 ≤ q ∧ q ≤ p + l.length) ∧ (∀ ws, lexM cur p l = .ok ws → PosW (p + l.length) ws)
 | [], cur, p, hp => by
  refine ⟨fun q h => (by rw [lexM] at h; cases h), fun ws h => ?_⟩
  rw [lexM] at h
  cases h
  intro w hw
  split at hw
  ·cases hw
  ·rw [List.mem_singleton.1 hw]
   simp only [zi]
   omega
 | c :: cs, cur, p, hp => by
  have i1 := ZqM cs (cur ++ [c]) (p + 1) (by rw [zc]; simp only [zf, zi]; omega)
  have i2 := ZqM cs [] (p + 1) (by simp only [zi]; omega)
  have hl : ((c :: cs).length : Int) = cs.length + 1 := by simp
  rw [lexM]
  by_cases hw : Zh8 c = true
  ·rw [if_pos hw]
   refine ⟨fun q h => ?_, fun ws h => ?_⟩
   ·have := i1.1 q h
    omega
   ·intro w hm
    have := i1.2 ws h w hm
    omega
  ·rw [if_neg hw]
   have key : ∀ X : Except Int (List Wd), X = (if c = 44 then (match lexM [] (p + 1) cs with
     | .error q => .error q
     | .ok r => .ok (([44], p) :: r)) else if c = 32 ∨ c = 9 then lexM [] (p + 1) cs else .error p) → (∀ q, X = .error q → 0 ≤ q ∧ q ≤ p + (c :: cs).length) ∧ (∀ ws, X = .ok ws → PosW (p + (c :: cs).length) ws) := by
    intro X hX
    by_cases h44 : c = 44
    ·rw [if_pos h44] at hX
     cases hx : lexM [] (p + 1) cs with
     | error q =>
      rw [hx] at hX
      subst hX
      refine ⟨fun q' h => ?_, fun ws h => (by cases h)⟩
      cases h
      have := i2.1 q hx
      omega
     | ok r =>
      rw [hx] at hX
      subst hX
      refine ⟨fun q' h => (by cases h), fun ws h => ?_⟩
      cases h
      intro w hm
      rcases List.mem_cons.1 hm with rfl | hm
      ·simp only
       omega
      ·have := i2.2 r hx w hm
       omega
    ·rw [if_neg h44] at hX
     by_cases h32 : c = 32 ∨ c = 9
     ·rw [if_pos h32] at hX
      refine ⟨fun q h => ?_, fun ws h w hm => ?_⟩
      ·have := i2.1 q (hX ▸ h)
       omega
      ·have := i2.2 ws (hX ▸ h) w hm
       omega
     ·rw [if_neg h32] at hX
      subst hX
      refine ⟨fun q h => ?_, fun ws h => (by cases h)⟩
      cases h
      omega
   obtain ⟨k1, k2⟩ := key _ rfl
   generalize (if c = 44 then (match lexM [] (p + 1) cs with
     | .error q => .error q
     | .ok r => .ok (([44], p) :: r)) else if c = 32 ∨ c = 9 then lexM [] (p + 1) cs else .error p) = X at k1 k2 ⊢
   cases X with
   | error q =>
    refine ⟨fun q' h => ?_, fun ws h => (by cases h)⟩
    cases h
    exact k1 q rfl
   | ok r =>
    refine ⟨fun q' h => (by cases h), fun ws h => ?_⟩
    cases h
    intro w hm
    by_cases hc : cur = []
    ·rw [if_pos hc] at hm
     exact k2 r rfl w hm
    ·rw [if_neg hc] at hm
     rcases List.mem_cons.1 hm with rfl | hm
     ·simp only
      omega
     ·exact k2 r rfl w hm
theorem Zg9 {e : Int} {t : List Int} {ws r : List Wd} (h : Zd9 t ws = some r) (hp : PosW e ws) : PosW e r := by
 cases ws with
 | nil => cases h
 | cons w ws =>
  rw [show Zd9 t (w :: ws) = if w.1 = t then some ws else none from rfl] at h
  split at h
  ·cases h
   exact fun x hx => hp x (zO _ hx)
  ·cases h
theorem PosW.tail {e : Int} {w : Wd} {ws : List Wd} (h : PosW e (w :: ws)) : PosW e ws := fun x hx => h x (zO _ hx)
def Zjf {α : Type} (e : Int) (X : PE (α × List Wd)) (R : α → Prop) : Prop := match X with
 | .error f => 0 ≤ f.2 ∧ f.2 ≤ e
 | .ok (a, r) => R a ∧ PosW e r
section
variable {e : Int}
theorem Zkc {lo hi : Int} {ws : List Wd} (he : 0 ≤ e) (h : PosW e ws) : Zjf e (numP e lo hi ws) (fun n => lo ≤ n ∧ n ≤ hi) := by
 cases hX : numP e lo hi ws with
 | ok a =>
  obtain ⟨n, r⟩ := a
  have := (Zkb hX).2
  refine ⟨this, ?_⟩
  cases ws with
  | nil => cases hX
  | cons w ws =>
   rw [ZpD] at hX
   split at hX
   ·cases hX
   ·split at hX
    ·cases hX
    ·cases hX
     exact h.tail
 | error f =>
  cases ws with
  | nil =>
   cases hX
   exact ⟨he, Int.le_refl _⟩
  | cons w ws =>
   have hw := h w (by simp)
   rw [ZpD] at hX
   split at hX
   ·cases hX
    exact hw
   ·split at hX
    ·cases hX
     exact hw
    ·cases hX
theorem Zty {kind : Int} {n : Nat} {ws : List Wd} (he : 0 ≤ e) (h : PosW e ws) : Zjf e (net1 e kind n ws) (fun p => Byt p.IP.A.l ∧ Zg2 p kind = true ∧ n ≠ 16) := by
 cases ws with
 | nil => exact ⟨he, Int.le_refl _⟩
 | cons w ws =>
  have hw := h w (by simp)
  rw [ZiA]
  split
  ·exact hw
  ·split
   ·exact hw
   ·rename_i p hp
    split
    ·exact hw
    ·rename_i hn
     refine ⟨⟨ZuW hp, ?_, fun h' => hn (.inl h')⟩, h.tail⟩
     cases hf : Zg2 p kind with
     | true => rfl
     | false => exact absurd (.inr hf) hn
theorem ZqB {n : Nat} {ws : List Wd} (he : 0 ≤ e) (h : PosW e ws) : Zjf e (Zmj e n ws) (fun p => Zfb p = true ∧ n ≠ 16) := by
 cases ws with
 | nil => exact ⟨he, Int.le_refl _⟩
 | cons w ws =>
  have hw := h w (by simp)
  rw [Zgs]
  split
  ·exact hw
  ·split
   ·exact hw
   ·rename_i p hp
    split
    ·exact hw
    ·rename_i hn
     refine ⟨⟨?_, hn⟩, h.tail⟩
     have nr : ∀ {t : List Int} {v : Int}, numR t 0 65535 = some v → 0 ≤ v ∧ v ≤ 65535 := by
      intro t v h
      unfold numR at h
      split at h
      ·cases h
      ·split at h
       ·rename_i hh
        cases h
        exact hh
       ·cases h
     unfold Zmi at hp
     split at hp
     ·rename_i a b ha hb
      split at hp
      ·rename_i hab
       cases hp
       have := nr ha
       have := nr hb
       exact zb (by simp only; omega)
      ·cases hp
     ·cases hp
theorem Zn2 {kind : Int} (he : 0 ≤ e) : ∀ (n : Nat) {acc : List Zag} {ws : List Wd}, ws.length ≤ n → PosW e ws → acc.length ≤ 16 → (∀ p ∈ acc, Byt p.IP.A.l ∧ Zg2 p kind = true) → Zjf e (Zjb e kind acc ws) (fun l => (∀ p ∈ l, Byt p.IP.A.l ∧ Zg2 p kind = true) ∧ l.length ≤ 16 ∧ l ≠ [])
 | 0, acc, ws, hn, h, _, _ => by
  have : ws = [] := List.length_eq_zero_iff.1 (by omega)
  subst this
  exact ⟨he, Int.le_refl _⟩
 | n + 1, acc, ws, hn, h, hl, ha => by
  have h1 := Zty (kind := kind) (n := acc.length) he h
  rw [ZkK]
  cases hX : net1 e kind acc.length ws with
  | error f =>
   rw [hX] at h1
   exact h1
  | ok a =>
   obtain ⟨p, r⟩ := a
   rw [hX] at h1
   obtain ⟨⟨b1, b2, b3⟩, hr⟩ := h1
   have hlt : r.length < ws.length := by
    cases ws with
    | nil => cases hX
    | cons w ws =>
     rw [ZiA] at hX
     split at hX
     ·cases hX
     ·split at hX
      ·cases hX
      ·split at hX
       ·cases hX
       ·cases hX
        simp
   have hall : ∀ q ∈ acc ++ [p], Byt q.IP.A.l ∧ Zg2 q kind = true := fun q hq => by
    rcases List.mem_append.1 hq with hq | hq
    ·exact ha q hq
    ·rw [List.mem_singleton.1 hq]
     exact ⟨b1, b2⟩
   have hlen : (acc ++ [p]).length ≤ 16 := by
    rw [zc]
    simp only [zf, zi]
    omega
   simp only
   cases ht : Zd9 comma r with
   | none => exact ⟨⟨hall, hlen, by simp⟩, hr⟩
   | some r2 =>
    have := Zey ht
    exact Zn2 he n (by omega) (Zg9 ht hr) hlen hall
theorem Zmm (he : 0 ≤ e) : ∀ (n : Nat) {acc : List ZaH} {ws : List Wd}, ws.length ≤ n → PosW e ws → acc.length ≤ 16 → (∀ p ∈ acc, Zfb p = true) → Zjf e (Zgw e acc ws) (fun l => (∀ p ∈ l, Zfb p = true) ∧ l.length ≤ 16)
 | 0, acc, ws, hn, h, _, _ => by
  have : ws = [] := List.length_eq_zero_iff.1 (by omega)
  subst this
  exact ⟨he, Int.le_refl _⟩
 | n + 1, acc, ws, hn, h, hl, ha => by
  have h1 := ZqB (n := acc.length) he h
  rw [ZjG]
  cases hX : Zmj e acc.length ws with
  | error f =>
   rw [hX] at h1
   exact h1
  | ok a =>
   obtain ⟨p, r⟩ := a
   rw [hX] at h1
   obtain ⟨⟨b1, b3⟩, hr⟩ := h1
   have hlt : r.length < ws.length := by
    cases ws with
    | nil => cases hX
    | cons w ws =>
     rw [Zgs] at hX
     split at hX
     ·cases hX
     ·split at hX
      ·cases hX
      ·cases hX
       simp
   have hall : ∀ q ∈ acc ++ [p], Zfb q = true := fun q hq => by
    rcases List.mem_append.1 hq with hq | hq
    ·exact ha q hq
    ·rw [List.mem_singleton.1 hq]
     exact b1
   have hlen : (acc ++ [p]).length ≤ 16 := by
    rw [zc]
    simp only [zf, zi]
    omega
   simp only
   cases ht : Zd9 comma r with
   | none => exact ⟨⟨hall, hlen⟩, hr⟩
   | some r2 =>
    have := Zey ht
    exact Zmm he n (by omega) (Zg9 ht hr) hlen hall
theorem Zpo {proto : Int} (he : 0 ≤ e) {ws : List Wd} (h : PosW e ws) : Zjf e (Ze3 e proto ws) (fun l => ((∀ p ∈ l, Zfb p = true) ∧ l.length ≤ 16) ∧ (l ≠ [] → Zfv proto = true)) := by
 cases ws with
 | nil => exact ⟨⟨⟨fun p hp => (by cases hp), by simp⟩, fun h => absurd rfl h⟩, h⟩
 | cons w ws =>
  rw [ZgI]
  split
  ·split
   ·rename_i hp
    have := Zmm he ws.length (acc := []) (zB _) h.tail (by simp) (fun p hp => by cases hp)
    cases hX : Zgw e [] ws with
    | error f => rw [hX] at this; exact this
    | ok a => rw [hX] at this; exact ⟨⟨this.1, fun _ => hp⟩, this.2⟩
   ·exact h w (by simp)
  ·exact ⟨⟨⟨fun p hp => (by cases hp), by simp⟩, fun h => absurd rfl h⟩, h⟩
theorem Zqa {s : Zek} {kind proto : Int} (h1 : ∀ p ∈ s.nets, Zg2 p kind = true) (h2 : s.nets.length ≤ 16) (h3 : s.nets = [] → s.Not = false) (h4 : ∀ r ∈ s.ports, Zfb r = true) (h5 : s.ports.length ≤ 16) (h6 : s.ports ≠ [] → Zfv proto = true) : ZdX s kind proto = 0 := by
 unfold ZdX
 rw [if_neg, if_neg (fun h => h h1), if_neg (by omega), if_neg (fun h => h h4), if_neg]
 ·rintro ⟨a, b⟩
  rw [h6 a] at b
  cases b
 ·rintro (h | ⟨a, b⟩)
  ·omega
  ·rw [h3 b] at a
   cases a
theorem ZnS {kind proto : Int} (he : 0 ≤ e) {ws : List Wd} (h : PosW e ws) : Zjf e (Zma e kind proto ws) (fun s => ZdX s kind proto = 0 ∧ Byts s.nets) := by
 rw [Zor]
 have wn : ∀ {nt : Bool} {ns : List Zag} {r : List Wd}, PosW e r → (∀ p ∈ ns, Byt p.IP.A.l ∧ Zg2 p kind = true) → ns.length ≤ 16 → (ns = [] → nt = false) → Zjf e (Zol nt ns (Ze3 e proto r)) (fun s => ZdX s kind proto = 0 ∧ Byts s.nets) := by
  intro nt ns r hr h1 h2 h3
  have := Zpo (proto := proto) he hr
  unfold Zol
  cases hX : Ze3 e proto r with
  | error f => rw [hX] at this; exact this
  | ok a =>
   rw [hX] at this
   obtain ⟨⟨⟨a1, a2⟩, a3⟩, a4⟩ := this
   exact ⟨⟨Zqa (s := ⟨nt, ns, a.1⟩) (fun p hp => (h1 p hp).2) h2 h3 a1 a2 a3, fun p hp => (h1 p hp).1⟩, a4⟩
 cases ht : Zd9 (tx "any") ws with
 | some r => exact wn (Zg9 ht h) (fun p hp => by cases hp) (by simp) (fun _ => rfl)
 | none =>
  simp only
  have hp : PosW e ((Zd9 (tx "not") ws).getD ws) := by
   cases hn : Zd9 (tx "not") ws with
   | none => exact h
   | some r => exact Zg9 hn h
  have := Zn2 (kind := kind) he _ (acc := []) (zB _) hp (by simp) (fun p hp => by cases hp)
  cases hX : Zjb e kind [] ((Zd9 (tx "not") ws).getD ws) with
  | error f => rw [hX] at this; exact this
  | ok a =>
   rw [hX] at this
   obtain ⟨⟨a1, a2, a3⟩, a4⟩ := this
   exact wn a4 a1 a2 (fun h => absurd h a3)
end
def BytM (a b : List Zag) : Prop := Byts a ∧ Byts b
structure Inv (m : ZaR) : Prop where
 f : Zo2 m
 c1 : m.Class ≠ 0 → m.Act = 1
 c2 : m.Proto ≠ 0 → m.Kind ≠ 1
 c3 : m.Set ≠ 0 ∨ m.Clear ≠ 0 → m.Proto = 6
 c4 : m.Type_ ≠ 0 → Zgp m.Proto = true
 s1 : ZdX m.From m.Kind m.Proto = 0
 s2 : ZdX m.To m.Kind m.Proto = 0
 b1 : Byts m.From.nets
 b2 : Byts m.To.nets
theorem Zvj {m : ZaR} (f : Zo2 m) : Znx m = true := by
 unfold Znx inR
 rw [zb f.act, zb f.cls, zb f.kind, zb f.proto, zb f.in_, zb f.vid, zb f.set_, zb f.clr, zb f.typ, f.apart]
 rfl
theorem Inv.ck {m : ZaR} (i : Inv m) : ckM m = 0 := by
 unfold ckM
 have hc : ZmQ m = false := by
  refine zh ?_
  rintro (⟨a, b⟩ | ⟨a, b⟩ | ⟨a, b⟩ | ⟨a, b⟩)
  ·exact b (i.c1 a)
  ·exact i.c2 a b
  ·exact b (i.c3 a)
  ·rw [i.c4 a] at b
   cases b
 rw [Zvj i.f, hc, i.s1, i.s2]
 rfl
theorem Ztd : ∀ a : _root_.Fin 256, ∀ k j : _root_.Fin 8, hasB (a.val : Int) k.val = false → hasB ((a.val : Int) + 2 ^ k.val) j.val = (hasB (a.val : Int) j.val || decide (j.val = k.val)) := by decide +kernel
theorem ZrD {s : Int} (hs : 0 ≤ s ∧ s ≤ 255) {k j : Nat} (hk : k < 8) (hj : j < 8) (h : hasB s k = false) : hasB (s + 2 ^ k) j = (hasB s j || decide (j = k)) := by
 obtain ⟨n, rfl⟩ : ∃ n : Nat, s = (n : Int) := ⟨s.toNat, by omega⟩
 exact Ztd ⟨n, by omega⟩ ⟨k, hk⟩ ⟨j, hj⟩ h
theorem Zmb {a b : Int} : Zji a b = false ↔ ∀ j, j < 8 → ¬ (hasB a j = true ∧ hasB b j = true) := by
 unfold Zji
 rw [List.any_eq_false]
 refine ⟨fun h j hj hh => ?_, fun h j hj => ?_⟩
 ·have := h j (List.mem_range.2 hj)
  rw [hh.1, hh.2] at this
  exact this rfl
 ·have := h j (List.mem_range.1 hj)
  rw [Bool.and_eq_true]
  exact this
def FlI (p : Int × Int) : Prop := B255 p ∧ Zji p.1 p.2 = false
section
variable {e : Int}
theorem Zsw {s c : Int} {ws : List Wd} (he : 0 ≤ e) (hi : FlI (s, c)) (h : PosW e ws) : Zjf e (ZpZ e s c ws) FlI := by
 cases ws with
 | nil => exact ⟨he, Int.le_refl _⟩
 | cons w ws =>
  have hw := h w (by simp)
  rw [Zhp]
  split
  ·exact hw
  ·split
   ·exact hw
   ·rename_i k hk
    have hk8 : k < 8 := by
     unfold Zif at hk
     split at hk
     ·exact ZhL hk
     ·exact ZhL hk
    split
    ·exact hw
    ·rename_i hn
     obtain ⟨⟨hs, hc⟩, hsh⟩ := hi
     rw [Zmb] at hsh
     have hn1 : hasB s k = false := by
      cases hh : hasB s k with
      | false => rfl
      | true => exact absurd (by simp [hh]) hn
     have hn2 : hasB c k = false := by
      cases hh : hasB c k with
      | false => rfl
      | true => exact absurd (by simp [hh]) hn
     have a1 := ZkX hs hk8 hn1
     have a2 := ZkX hc hk8 hn2
     refine ⟨?_, h.tail⟩
     split
     ·refine ⟨⟨hs, a2.2⟩, ?_⟩
      rw [Zmb]
      rintro j hj ⟨x1, x2⟩
      simp only at x1 x2
      rw [ZrD hc hk8 hj hn2, Bool.or_eq_true, ze] at x2
      rcases x2 with x2 | x2
      ·exact hsh j hj ⟨x1, x2⟩
      ·rw [x2, hn1] at x1
       cases x1
     ·refine ⟨⟨a1.2, hc⟩, ?_⟩
      rw [Zmb]
      rintro j hj ⟨x1, x2⟩
      simp only at x1 x2
      rw [ZrD hs hk8 hj hn1, Bool.or_eq_true, ze] at x1
      rcases x1 with x1 | x1
      ·exact hsh j hj ⟨x1, x2⟩
      ·rw [x1, hn2] at x2
       cases x2
theorem ZmH (he : 0 ≤ e) : ∀ (n : Nat) {p : Int × Int} {ws : List Wd}, ws.length ≤ n → FlI p → PosW e ws → Zjf e (Zge e p.1 p.2 ws) FlI
 | 0, p, ws, hn, _, h => by
  have : ws = [] := List.length_eq_zero_iff.1 (by omega)
  subst this
  exact ⟨he, Int.le_refl _⟩
 | n + 1, p, ws, hn, hi, h => by
  have h1 := Zsw (s := p.1) (c := p.2) he hi h
  rw [ZjL]
  cases hX : ZpZ e p.1 p.2 ws with
  | error f =>
   rw [hX] at h1
   exact h1
  | ok a =>
   obtain ⟨p', r⟩ := a
   rw [hX] at h1
   have := ZmI hX
   simp only
   cases ht : Zd9 comma r with
   | none => exact h1
   | some r2 =>
    have := Zey ht
    exact ZmH he n (by omega) h1.1 (Zg9 ht h1.2)
theorem Zsi {ws : List Wd} (he : 0 ≤ e) (h : PosW e ws) : Zjf e (Znu e ws) (fun n => 0 ≤ n ∧ n ≤ 7) := by
 cases ws with
 | nil => exact ⟨he, Int.le_refl _⟩
 | cons w ws =>
  have hw := h w (by simp)
  rw [show Znu e (w :: ws) = if w.1 = comma then .error (160, w.2) else match (if w.1.head? = some 112 then numR w.1.tail 0 7 else none) with
   | none => .error (162, w.2)
   | some n => .ok (n, ws) from rfl]
  split
  ·exact hw
  ·split
   ·exact hw
   ·rename_i n hn
    refine ⟨?_, h.tail⟩
    split at hn
    ·unfold numR at hn
     split at hn
     ·cases hn
     ·split at hn
      ·rename_i hh
       cases hn
       exact hh
      ·cases hn
    ·cases hn
def Zya (e : Int) (X : Option (PE (ZaR × List Wd))) : Prop := match X with
 | none => True
 | some X => Zjf e X Inv
theorem Zp8 {t : List Int} {m : ZaR} {ws : List Wd} (he : 0 ≤ e) (i : Inv m) (h : PosW e ws) (h1 : t = tx "flags" → m.Proto = 6) (h2 : t = tx "type" → Zgp m.Proto = true) : Zya e (ZfQ e t m ws) := by
 obtain ⟨f, c1, c2, c3, c4, s1, s2, b1, b2⟩ := i
 obtain ⟨f1, f2, f3, f4, f5, f6, f7, f8, f9, f10⟩ := f
 unfold ZfQ
 split
 ·have := Zsi he h
  cases hX : Znu e ws with
  | error q => rw [hX] at this; exact this
  | ok a =>
   rw [hX] at this
   refine ⟨⟨⟨f1, f2, f3, f4, ?_, f6, f7, f8, f9, f10⟩, c1, c2, c3, c4, s1, s2, b1, b2⟩, this.2⟩
   have := this.1
   simp only
   omega
 ·split
  ·have := Zkc (lo := 1) (hi := 4094) he h
   cases hX : numP e 1 4094 ws with
   | error q => rw [hX] at this; exact this
   | ok a =>
    rw [hX] at this
    refine ⟨⟨⟨f1, f2, f3, f4, f5, ?_, f7, f8, f9, f10⟩, c1, c2, c3, c4, s1, s2, b1, b2⟩, this.2⟩
    have := this.1
    simp only
    omega
  ·split
   ·have := ZnS (kind := m.Kind) (proto := m.Proto) he h
    cases hX : Zma e m.Kind m.Proto ws with
    | error q => rw [hX] at this; exact this
    | ok a =>
     rw [hX] at this
     exact ⟨⟨⟨f1, f2, f3, f4, f5, f6, f7, f8, f9, f10⟩, c1, c2, c3, c4, this.1.1, s2, this.1.2, b2⟩, this.2⟩
   ·split
    ·have := ZnS (kind := m.Kind) (proto := m.Proto) he h
     cases hX : Zma e m.Kind m.Proto ws with
     | error q => rw [hX] at this; exact this
     | ok a =>
      rw [hX] at this
      exact ⟨⟨⟨f1, f2, f3, f4, f5, f6, f7, f8, f9, f10⟩, c1, c2, c3, c4, s1, this.1.1, b1, this.1.2⟩, this.2⟩
    ·split
     ·rename_i ht
      have := ZmH he ws.length (p := (m.Set, m.Clear)) (zB _) ⟨⟨f7, f8⟩, f10⟩ h
      simp only at this
      cases hX : Zge e m.Set m.Clear ws with
      | error q => rw [hX] at this; exact this
      | ok a =>
       rw [hX] at this
       exact ⟨⟨⟨f1, f2, f3, f4, f5, f6, this.1.1.1, this.1.1.2, f9, this.1.2⟩, c1, c2, fun _ => h1 ht, c4, s1, s2, b1, b2⟩, this.2⟩
     ·split
      ·rename_i ht
       have := Zkc (lo := 0) (hi := 255) he h
       cases hX : numP e 0 255 ws with
       | error q => rw [hX] at this; exact this
       | ok a =>
        rw [hX] at this
        refine ⟨⟨⟨f1, f2, f3, f4, f5, f6, f7, f8, ?_, f10⟩, c1, c2, c3, fun _ => h2 ht, s1, s2, b1, b2⟩, this.2⟩
        have := this.1
        simp only
        omega
      ·split
       ·exact ⟨⟨⟨f1, f2, f3, f4, f5, f6, f7, f8, f9, f10⟩, c1, c2, c3, c4, s1, s2, b1, b2⟩, h⟩
       ·trivial
def Zyb (e : Int) (X : PE ZaR) : Prop := match X with
 | .error f => 0 ≤ f.2 ∧ f.2 ≤ e
 | .ok m => Inv m
theorem Zn5 (he : 0 ≤ e) : ∀ (n : Nat) {seen : List (List Int)} {m : ZaR} {ws : List Wd}, Inv m → PosW e ws → Zyb e (ZjH e n seen m ws)
 | 0, _, _, _, i, _ => i
 | n + 1, seen, m, [], i, _ => i
 | n + 1, seen, m, w :: ws, i, h => by
  rw [show ZjH e (n + 1) seen m (w :: ws) = if mayM seen m w.1 = false then .error (165, w.2) else match ZfQ e w.1 m ws with
   | none => .error (160, w.2)
   | some (.error q) => .error q
   | some (.ok (m', r)) => ZjH e n (w.1 :: seen) m' r from rfl]
  have hw := h w (by simp)
  by_cases hm : mayM seen m w.1 = false
  ·rw [if_pos hm]
   exact hw
  ·rw [if_neg hm]
   have hm : mayM seen m w.1 = true := by
    cases hc : mayM seen m w.1 with
    | true => rfl
    | false => exact absurd hc hm
   have hm := zd hm
   have hc := Zp8 he i h.tail hm.2.1 hm.2.2
   cases hX : ZfQ e w.1 m ws with
   | none => exact hw
   | some X =>
    rw [hX] at hc
    cases X with
    | error q => exact hc
    | ok a => exact Zn5 he n hc.1 hc.2
theorem z0 {n : Int} (h : 0 ≤ n) : (0 : Int) ≤ 0 ∧ (0 : Int) ≤ n := ⟨Int.le_refl _, h⟩
theorem Zmk {kind : Int} {w : Wd} {ws : List Wd} (he : 0 ≤ e) (hw : 0 ≤ w.2 ∧ w.2 ≤ e) (h : PosW e ws) : Zjf e (Zgu e kind w ws) (fun n => (0 ≤ n ∧ n ≤ 255) ∧ kind ≠ 1) := by
 unfold Zgu
 split
 ·exact hw
 ·rename_i hk
  split
  ·rename_i n hn
   refine ⟨⟨?_, hk⟩, h⟩
   unfold Zml at hn
   split at hn
   ·cases hn
    decide
   ·split at hn
    ·cases hn
     decide
    ·split at hn
     ·cases hn
      decide
     ·split at hn
      ·cases hn
       decide
      ·cases hn
  ·have := Zkc (lo := 1) (hi := 255) he h
   cases hX : numP e 1 255 ws with
   | error q => rw [hX] at this; exact this
   | ok a =>
    rw [hX] at this
    have h1 := this.1
    exact ⟨⟨by omega, hk⟩, this.2⟩
def WhI (k : Int × Int) : Prop := (0 ≤ k.1 ∧ k.1 ≤ 3) ∧ (0 ≤ k.2 ∧ k.2 ≤ 255) ∧ (k.2 ≠ 0 → k.1 ≠ 1)
theorem Zr1 {ws : List Wd} (he : 0 ≤ e) (h : PosW e ws) : Zjf e (Zl5 e ws) WhI := by
 cases ws with
 | nil => exact ⟨he, Int.le_refl _⟩
 | cons w ws =>
  have hw := h w (by simp)
  rw [ZkB]
  split
  ·exact ⟨⟨by decide, by decide, fun h => absurd rfl h⟩, h.tail⟩
  ·split
   ·split
    ·have := Zmk (kind := 0) he hw h.tail
     cases hX : Zgu e 0 w ws with
     | error q => rw [hX] at this; exact this
     | ok a =>
      rw [hX] at this
      exact ⟨⟨z0 (by decide), this.1.1, fun _ => (show (0 : Int) ≠ 1 by decide)⟩, this.2⟩
    ·exact hw
   ·rename_i k hk
    have hk3 := ZhL hk
    have hk3 : k < 3 := hk3
    unfold ZsO
    cases ws with
    | nil => exact ⟨⟨by simp only; omega, z0 (by decide), fun h => absurd rfl h⟩, h.tail⟩
    | cons v r =>
     simp only
     split
     ·have := Zmk (kind := (k : Int) + 1) he (h v (by simp)) h.tail.tail
      cases hX : Zgu e ((k : Int) + 1) v r with
      | error q => rw [hX] at this; exact this
      | ok a =>
       rw [hX] at this
       exact ⟨⟨by simp only; omega, this.1.1, fun _ => this.1.2⟩, this.2⟩
     ·exact ⟨⟨by simp only; omega, z0 (by decide), fun h => absurd rfl h⟩, h.tail⟩
theorem ZrO {kind proto : Int} : ZdX zSd kind proto = 0 := Zqa (fun p hp => by cases hp) (by decide) (fun _ => rfl) (fun p hp => by cases hp) (by decide) (fun h => absurd rfl h)
theorem Zsu {ws : List Wd} (he : 0 ≤ e) (h : PosW e ws) : Zjf e (ZlC e ws) Inv := by
 cases ws with
 | nil => exact ⟨he, Int.le_refl _⟩
 | cons w ws =>
  have hw := h w (by simp)
  rw [show ZlC e (w :: ws) = match idxT actN w.1 with
   | none => .error (160, w.2)
   | some a => match Zhr e a ws with
    | .error f => .error f
    | .ok (c, r) => match Zl5 e r with
     | .error f => .error f
     | .ok (k, r) => .ok ({ zRl with Act := (a : Int) + 1, Class := c, Kind := k.1, Proto := k.2 }, r) from rfl]
  cases ha : idxT actN w.1 with
  | none => exact hw
  | some a =>
   have ha3 := ZhL ha
   have ha3 : a < 3 := ha3
   have hc : Zjf e (Zhr e a ws) (fun c => (0 ≤ c ∧ c ≤ 7) ∧ (c ≠ 0 → a = 0)) := by
    unfold Zhr
    split
    ·rename_i a0
     cases ht : Zd9 (tx "class") ws with
     | none => exact ⟨⟨by decide, fun h => absurd rfl h⟩, h.tail⟩
     | some r =>
      have := Zkc (lo := 0) (hi := 7) he (Zg9 ht h.tail)
      simp only
      cases hX : numP e 0 7 r with
      | error q => rw [hX] at this; exact this
      | ok b => rw [hX] at this; exact ⟨⟨this.1, fun _ => a0⟩, this.2⟩
    ·exact ⟨⟨by decide, fun h => absurd rfl h⟩, h.tail⟩
   simp only
   cases hX : Zhr e a ws with
   | error q => rw [hX] at hc; exact hc
   | ok b =>
    rw [hX] at hc
    have hwh := Zr1 he hc.2
    simp only
    cases hY : Zl5 e b.2 with
    | error q => rw [hY] at hwh; exact hwh
    | ok k =>
     rw [hY] at hwh
     obtain ⟨⟨k1, k2, k3⟩, kr⟩ := hwh
     refine ⟨⟨⟨by simp only; omega, hc.1.1, k1, k2, z0 (by decide), z0 (by decide), z0 (by decide), z0 (by decide), z0 (by decide), (show Zji 0 0 = false by decide)⟩, fun h => ?_, k3, fun h => ?_, fun h => absurd rfl h, ZrO, ZrO, fun p hp => (by cases hp), fun p hp => (by cases hp)⟩, kr⟩
     ·have := hc.1.2 h
      simp only
      omega
     ·rcases h with h | h <;> exact absurd rfl h
end
theorem Zse (t : List Int) : (∀ m, Ziv t = .ok m → ckM m = 0 ∧ BytM m.From.nets m.To.nets) ∧ (∀ f, Ziv t = .error f → 0 ≤ f.2 ∧ f.2 ≤ t.length) := by
 unfold Ziv
 split
 ·rename_i h
  refine ⟨fun m h => (by cases h), fun f h => ?_⟩
  cases h
  simp only
  omega
 ·obtain ⟨l1, l2⟩ := ZqM t [] 0 (by simp)
  cases hX : lexM [] 0 t with
  | error q =>
   have := l1 q hX
   refine ⟨fun m h => (by cases h), fun f h => ?_⟩
   cases h
   simp only
   omega
  | ok ws =>
   have hp := l2 ws hX
   rw [Int.zero_add] at hp
   have hh := Zsu (Int.natCast_nonneg _) hp
   simp only
   cases hY : ZlC (t.length : Int) ws with
   | error q =>
    rw [hY] at hh
    refine ⟨fun m h => (by cases h), fun f h => ?_⟩
    cases h
    exact hh
   | ok a =>
    rw [hY] at hh
    have hl := Zn5 (Int.natCast_nonneg _) (ws.length + 1) (seen := []) hh.1 hh.2
    simp only
    refine ⟨fun m h => ?_, fun f h => ?_⟩
    ·rw [h] at hl
     have hl : Inv m := hl
     exact ⟨hl.ck, hl.b1, hl.b2⟩
    ·rw [h] at hl
     exact hl
theorem Zps {t : List Int} {m : ZaR} (h : Ziv t = .ok m) : ckM m = 0 ∧ BytR m := by
 obtain ⟨h1, -⟩ := Zse t
 obtain ⟨h2, h3⟩ := h1 m h
 exact ⟨h2, h3⟩
theorem ZjE {ls : List (List Int)} : ∀ m ∈ ZcX ls, ckM m = 0 ∧ BytR m := by
 intro m hm
 unfold ZcX at hm
 obtain ⟨l, -, h⟩ := List.mem_filterMap.1 hm
 split at h
 ·rename_i m' e
  cases h
  exact Zps e
 ·cases h
theorem ZqF {ls : List (List Int)} {k : Nat} {l : List Int} (h : ls[k]? = some l) (ms : List ZaR) : Zhi k ms (ls.drop k) = if Zlr l = true then Zhi (k + 1) ms (ls.drop (k + 1)) else if ms.length = 256 then .error (167, k, 0) else match Ziv l with
  | .error f => .error (f.1, k, f.2)
  | .ok m => Zhi (k + 1) (ms ++ [m]) (ls.drop (k + 1)) := by
 obtain ⟨h1, h2⟩ := List.getElem?_eq_some_iff.1 h
 rw [zQ h1, h2]
 rfl
section
variable {W w : World} {Hs : List HP}
def ZwO (W : World) (Hs : List HP) (y : (Option Addr) × Int × Int × Int) (w : World) : Except (Int × Nat × Int) (List ZaR) → Prop
 | .ok ms => ∃ b, y = (some (pt b 0), 0, 0, 0) ∧ Ss W (SetH (pt b 0) ms :: Hs) w
 | .error q => y = (none, q.1, (q.2.1 : Int), q.2.2) ∧ q.1 ≠ 0 ∧ Ss W Hs w
theorem Zvw {β : Type} {b : Nat} {ms : List ZaR} (s : Ss W (SetB b ms :: Hs) w) {f : Sl → M β} {Q : β → World → Prop} (k : ∀ sl : Sl, sl.len = ms.length → WP (f sl) w Q) : WP (ld cL (pt b 0) >>= f) w Q := by
 obtain ⟨⟨rs, ts, xs, tl, sp, sq⟩, ⟨hx, ht⟩, s⟩ := s.openx 0 rfl
 dsimp only at hx ht
 have s := Ss.split (l := [_, _, _, _]) s
 refine WP.ld s 0 rfl (o := 0) (by rfl) (ZcZ _) (k rs ?_)
 rw [(s.vec_len (i := 1) rfl).1]
 exact hx
theorem Zpq {r : Zaf} {m : ZaR} (s : Ss W (ZwM r m :: Hs) w) : Ss W (RlH m r :: Hs) w := by
 refine Ss.frz1 s (fun h hh => ?_)
 obtain ⟨sc, hs⟩ := hh
 obtain ⟨h1, k1, l1, m1, ⟨q1, f1, a1⟩, hs⟩ := Zin hs
 obtain ⟨h2, l2, ⟨q2, f2, a2⟩⟩ := Zpm hs
 obtain ⟨h3, k3, l3, m3, b1, a1⟩ := Zin a1
 obtain ⟨h4, l4, b2⟩ := Zpm a1
 obtain ⟨h5, k5, l5, m5, b3, a2⟩ := Zin a2
 obtain ⟨h6, l6, b4⟩ := Zpm a2
 exact ⟨⟨sc, f1, f2⟩, Zd8 (Zee (l3.trans l1)) (Zdl b1), Zd8 (Zee ((l4.trans m3).trans l1)) (Zdl b2), Zd8 (Zee ((l5.trans l2).trans m1)) (Zdl b3), Zd8 (Zee (((l6.trans m5).trans l2).trans m1)) (Zdl b4)⟩
theorem RlH.rd {L : List HP} {x : Zaf} {m : ZaR} {i : Nat} (e : nth L i = some (RlH m x)) (s : Ss W L w) (b : BytR m) : RdR L x m := by
 obtain ⟨h0, hh0⟩ := s.has e
 obtain ⟨⟨sc, f, t⟩, -⟩ := hh0
 exact ⟨sc, ⟨f, b.1, ⟨i, _, e, fun h hh => ZbM h hh.2.1⟩, ⟨i, _, e, fun h hh => ZbM h hh.2.2.1⟩⟩, ⟨t, b.2, ⟨i, _, e, fun h hh => ZbM h hh.2.2.2.1⟩, ⟨i, _, e, fun h hh => ZbM h hh.2.2.2.2⟩⟩⟩
theorem Zvy {A : HP} {sl : Sl} {xs : List ByteArray} (s : Ss W Hs w) (T : RTab Hs) (i : Nat) (e : nth Hs i = some A) (r : Rdb A cS sl xs) (hl : xs.length ≤ 9000000000000000000) : WP (ZbJ sl) w (fun y w' => ZwO W Hs y w' (Zhi 0 [] (xs.map strI))) := by
 have len := (s.rd_len e r).1
 unfold ZbJ
 refine WP.newv s (fun b w s => ?_)
 have s := s.mk0 (A := vec Zah Sl.nil [] []) Zcv
 have s := s.mk0 (A := vec cL Sl.nil [] []) Zcv
 have s := s.mk0 (A := MemH [] [] []) MemH.nil
 have s := (s.use [3, 2, 1, 0] rfl).group (l := [_, _, _, _])
 have s : Ss W (SetB b [] :: Hs) w := s.closex 0 ⟨Sl.nil, Sl.nil, [], [], [], []⟩ rfl ⟨rfl, rfl⟩
 refine WP.loopG (γ := Nat × List ZaR) (fun g (x : Int) w => x = (g.1 : Int) ∧ g.1 ≤ xs.length ∧ g.2.length ≤ 256 ∧ Zhi 0 [] (xs.map strI) = Zhi g.1 g.2 ((xs.map strI).drop g.1) ∧ Ss W (SetB b g.2 :: Hs) w) (fun g _ => xs.length - g.1) (0, []) ⟨rfl, zF _, by simp, rfl, s⟩ ?_
 clear s
 rintro ⟨k, ms⟩ _ w ⟨rfl, hk, hms, hF, s⟩
 dsimp only at hk hms hF s
 show WP (ZbJ.L1 sl b (k : Int)) w _
 unfold ZbJ.L1
 refine WP.ite (fun hc => ?_) (fun hc => ?_)
 ·have hx := za (show k < xs.length by omega)
  generalize xs[k]'(show k < xs.length by omega) = x at hx
  have hxm : (xs.map strI)[k]? = some (strI x) := by rw [zD, hx]; rfl
  rw [ZqF hxm] at hF
  have hnext : wrap .i64 ((k : Int) + 1) = ((k + 1 : Nat) : Int) := by
   rw [Zau (by omega) (by omega)]
   simp
  rw [ZxT]
  refine WP.rdx s (i + 1) e r (by omega) (x := x) (by rw [zg]; exact hx) rfl (WP.step (Zq3 s x) ?_)
  rintro y w ⟨hy, s⟩
  refine WP.step (R := fun q w' => q = Zlr (strI x) ∧ w = w') (WP.ite (fun h => ret ⟨?_, rfl⟩) (fun h => ?_)) ?_
  ·unfold Zlr
   rw [← hy, Zij.1 h]
  ·cases hc2 : strI y with
   | nil => exact absurd (Zij.2 hc2) h
   | cons c cs =>
    have hl2 := ZbI y
    rw [hc2, zf] at hl2
    refine WP.chk ⟨by omega, by omega⟩ (ret ⟨?_, rfl⟩)
    unfold Zlr
    rw [← hy, sb0 hc2, hc2]
    rw [zj, zq, ze]
  rintro _ _ ⟨rfl, rfl⟩
  refine WP.ite (fun hb => ?_) (fun hb => Zvw s (fun sl2 hl2 => ?_))
  ·rw [if_pos hb] at hF
   exact WP.next ⟨(k + 1, ms), ⟨hnext, by dsimp only; omega, hms, hF, s⟩, by dsimp only; omega⟩
  rw [if_neg hb] at hF
  refine WP.ite (fun h256 => WP.done ?_) (fun h256 => WP.step (Zmp s T.push x) ?_)
  ·rw [if_pos (by omega)] at hF
   rw [hF]
   exact ⟨rfl, (by decide : (167 : Int) ≠ 0), s.drop⟩
  rw [if_neg (by omega)] at hF
  intro r24 w h
  cases hr : Ziv (strI x) with
  | error f =>
   rw [hr] at h hF
   obtain ⟨rfl, hne, s⟩ := h
   refine WP.slot' s (fun _ w s => WP.ite (fun _ => WP.done ?_) (fun h' => absurd hne h'))
   rw [hF]
   exact ⟨rfl, hne, s.drop⟩
  | ok m =>
   rw [hr] at h hF
   obtain ⟨he, s⟩ := h
   obtain ⟨cm, bm⟩ := Zps hr
   have s := Zpq s
   refine WP.slot' s (fun _ w s => WP.ite (fun h' => absurd (by rw [he]) h') (fun _ => ?_))
   have rr := RlH.rd (i := 0) rfl (Ss.drop (s.use [1] rfl)) bm
   refine WP.step (ZvQ (s.use [1] rfl) rr (ZoQ cm) hms) (fun _ w s => ?_)
   exact WP.next ⟨(k + 1, ms ++ [m]), ⟨hnext, by dsimp only; omega, by simp; omega, hF, Ss.drop (Ss.use s [1] rfl)⟩, by dsimp only; omega⟩
 ·have hk2 : k = xs.length := by omega
  rw [hk2, show (xs.map strI).drop xs.length = [] by simp] at hF
  refine WP.done ?_
  rw [hF]
  exact ⟨b, rfl, Zrg s⟩
end
def RlsF (ys : List Zaf) (ms : List ZaR) : HP := fun h => ys.length = ms.length ∧ ∀ (i : Nat) (m : ZaR) (x : Zaf), ms[i]? = some m → ys[i]? = some x → RlH m x h
theorem RlsF.up {ys : List Zaf} {ms : List ZaR} : Upw (RlsF ys ms) := Upw.tt.and (Upw.all fun i => Upw.all fun m => Upw.all fun x => Upw.imp (Upw.imp RlH.up))
theorem RlsF.nil {h : PH} : RlsF [] [] h := ⟨rfl, fun i m x h => by cases h⟩
theorem RlsF.snoc {ys : List Zaf} {ms : List ZaR} {x : Zaf} {m : ZaR} {h : PH} (a : RlsF ys ms h) (b : RlH m x h) : RlsF (ys ++ [x]) (ms ++ [m]) h := by
 have hl := a.1
 refine ⟨by simp [hl], fun i m' x' h1 h2 => ?_⟩
 rcases ZeJ h1 with ⟨i1, h1⟩ | ⟨i1, rfl⟩
 ·rcases ZeJ h2 with ⟨i2, h2⟩ | ⟨i2, -⟩
  ·exact a.2 i m' x' h1 h2
  ·omega
 ·rcases ZeJ h2 with ⟨i2, -⟩ | ⟨-, rfl⟩
  ·omega
  ·exact b
theorem RlsF.rd {L : List HP} {ys : List Zaf} {ms : List ZaR} {i : Nat} (e : nth L i = some (RlsF ys ms)) {W w : World} (s : Ss W L w) (hb : ∀ m ∈ ms, BytR m) : RdL L ys ms := by
 obtain ⟨h0, hh0⟩ := s.has e
 refine ⟨hh0.1, fun j x m hx hm => ?_⟩
 obtain ⟨⟨sc, f, t⟩, -⟩ := hh0.2 j m x hm hx
 have b := hb m (zk hm)
 exact ⟨sc, ⟨f, b.1, ⟨i, _, e, fun h hh => ZbM h (hh.2 j m x hm hx).2.1⟩, ⟨i, _, e, fun h hh => ZbM h (hh.2 j m x hm hx).2.2.1⟩⟩, ⟨t, b.2, ⟨i, _, e, fun h hh => ZbM h (hh.2 j m x hm hx).2.2.2.1⟩, ⟨i, _, e, fun h hh => ZbM h (hh.2 j m x hm hx).2.2.2.2⟩⟩⟩
theorem SetO.rd {L : List HP} {W w : World} {a : Addr} {ms : List ZaR} {rs ts : Sl} {xs : List Zaf} {tl : List Sl} {i : Nat} (e : nth L i = some (SetO a ms rs ts xs tl)) (s : Ss W L w) (hf : ∀ m ∈ ms, Zo1 m) : RdL L xs ms := by
 obtain ⟨h0, hh0⟩ := s.has e
 have lx := hh0.2.2.2.1
 have lt := hh0.2.2.2.2.1
 refine ⟨lx, fun j x m hx hm => ?_⟩
 have hj := (List.getElem?_eq_some_iff.1 hm).1
 have ht := za (show j < tl.length by omega)
 have get : ∀ h, SetO a ms rs ts xs tl h → RlH m x h := fun h hh => (hh.2.2.2.2.2 j m x _ hm hx ht).1
 obtain ⟨⟨sc, f, t⟩, -⟩ := get h0 hh0
 have b := hf m (zk hm)
 exact ⟨sc, ⟨f, b.b1, ⟨i, _, e, fun h hh => ZbM h (get h hh).2.1⟩, ⟨i, _, e, fun h hh => ZbM h (get h hh).2.2.1⟩⟩, ⟨t, b.b2, ⟨i, _, e, fun h hh => ZbM h (get h hh).2.2.2.1⟩, ⟨i, _, e, fun h hh => ZbM h (get h hh).2.2.2.2⟩⟩⟩
section
variable {W w : World} {Hs : List HP}
theorem Zud {x : Zaf} {m : ZaR} (s : Ss W Hs w) (r : RdR Hs x m) (b : Zna m) : WP (Zeq x) w (fun y w' => Ss W (RlH m y :: Hs) w') := by
 refine (ZrN s r b).mono ?_
 rintro y w ⟨cl, s⟩
 exact Ss.frz1 (Ss.group (l := [_, _, _, _]) s) (C := RlH m y) (fun h hs => by
  obtain ⟨h1, k1, l1, m1, a1, hs⟩ := Zin hs
  obtain ⟨h2, k2, l2, m2, a2, hs⟩ := Zin hs
  obtain ⟨h3, k3, l3, m3, a3, hs⟩ := Zin hs
  obtain ⟨h4, l4, a4⟩ := Zpm hs
  exact ⟨cl, Zd8 (Zee l1) (Zdl a1), Zd8 (Zee (l2.trans m1)) (Zdl a2), Zd8 (Zee ((l3.trans m2).trans m1)) (Zdl a3), Zd8 (Zee (((l4.trans m3).trans m2).trans m1)) (Zdl a4)⟩)
theorem Zvx {a : Addr} {ms : List ZaR} (s : Ss W Hs w) (j : Nat) (e : nth Hs j = some (SetH a ms)) (hf : ∀ m ∈ ms, Zo1 m) (hl : ms.length ≤ 256) : WP (Zbc (some a)) w (fun y w' => ∃ ys sp, Ss W (RlsF ys ms :: vec Zah y ys sp :: Hs) w') := by
 have s := s.copy j e SetH.ro (fun h hh => hh)
 obtain ⟨rs, s⟩ := Ss.exs s
 obtain ⟨ts, s⟩ := Ss.exs s
 obtain ⟨xs, s⟩ := Ss.exs s
 obtain ⟨tl, s⟩ := Ss.exs s
 have H0 : ZdI (SetO a ms rs ts xs tl) a (ZcM.enc ⟨rs, ts⟩) := fun h hh => ZdI.pts h hh.1
 have Hr : ZdI (SetO a ms rs ts xs tl) (a.add 0) (cL.enc rs) := H0.at_ (ZcZ _)
 have Rx : Rdb (SetO a ms rs ts xs tl) Zah rs xs := fun h hh => ZbM h hh.2.1
 have len := (s.rd_len (i := 0) rfl Rx).1
 have rd := SetO.rd (i := 0) rfl s hf
 have lx := rd.len
 unfold Zbc
 refine WP.nilck (WP.ldh s 0 rfl Hr (by rfl) ?_)
 have s := s.mk0 (A := vec Zah Sl.nil [] []) Zcv
 have s := s.mk0 (A := RlsF [] []) RlsF.nil
 refine WP.loopG (γ := Nat × List Zaf × List Zaf) (fun g (x : Sl × Int) w => x.2 = (g.1 : Int) ∧ g.1 ≤ ms.length ∧ g.2.1.length = g.1 ∧ Ss W (RlsF g.2.1 (ms.take g.1) :: vec Zah x.1 g.2.1 g.2.2 :: SetO a ms rs ts xs tl :: Hs) w) (fun g _ => ms.length - g.1) (0, [], []) ⟨rfl, zF _, rfl, s⟩ ?_
 clear s
 rintro ⟨k, ys, sp⟩ ⟨y, _⟩ w ⟨h1, hk, hy, s⟩
 dsimp only at h1 hk hy s
 subst h1
 show WP (Zbc.L1 rs y (k : Int)) w _
 unfold Zbc.L1
 refine WP.ite (fun hc => ?_) (fun hc => ?_)
 ·have hm := za (show k < ms.length by omega)
  have hx := za (show k < xs.length by omega)
  generalize ms[k]'(show k < ms.length by omega) = m at hm
  generalize xs[k]'(show k < xs.length by omega) = x at hx
  have ht : ms.take (k + 1) = ms.take k ++ [m] := by
   rw [zy, hm]
   rfl
  have fm := hf m (zk hm)
  refine WP.rdx s 2 rfl Rx (by omega) (x := x) (by rw [zg]; exact hx) rfl (WP.slot' s (fun _ w s => WP.step (Zud s (rd.at_ k x m hx hm).push.push fm.sm) (fun z w s => WP.slot' s (fun _ w s => ?_))))
  refine WP.appl s 2 rfl (by rw [hy, zo]; omega) (by decide) (fun y2 w sp2 s => ?_)
  have s : Ss W (RlH m z :: RlsF ys (ms.take k) :: vec Zah y2 (ys ++ [z]) sp2 :: SetO a ms rs ts xs tl :: Hs) w := s
  have s := Ss.merge s (C := RlsF (ys ++ [z]) (ms.take k ++ [m])) (fun h1 h2 h l1 l2 a1 a2 => (RlsF.up _ _ l2 a2).snoc (RlH.up _ _ l1 a1))
  refine WP.next ⟨(k + 1, ys ++ [z], sp2), ⟨?_, by dsimp only; omega, by simp [hy], by rw [ht]; exact s⟩, by dsimp only; omega⟩
  show wrap .i64 ((k : Int) + 1) = _
  rw [Zau (by omega) (by omega)]
  simp
 ·have hk2 : k = ms.length := by omega
  rw [hk2, zI] at s
  exact WP.done ⟨ys, sp, Ss.drop (s.use [2] rfl)⟩
theorem ZrX {a : Addr} {ms : List ZaR} (s : Ss W Hs w) (j : Nat) (e : nth Hs j = some (SetH a ms)) (hf : ∀ m ∈ ms, Zo1 m) (hc : ∀ m ∈ ms, ckM m = 0) (hl : ms.length ≤ 256) (T : RTab Hs) : WP (Za9 (some a)) w (fun y w' => ∃ sp, Ss W (vec cS y (ms.map fun m => bstr (ZpN m)) sp :: Hs) w') := by
 obtain ⟨⟨n, hn⟩, ⟨a1, ha⟩, ⟨k1, hk1⟩, ⟨f1, hf1⟩⟩ := T
 have s := s.copy j e SetH.ro (fun h hh => hh)
 obtain ⟨rs, s⟩ := Ss.exs s
 obtain ⟨ts, s⟩ := Ss.exs s
 obtain ⟨xs, s⟩ := Ss.exs s
 obtain ⟨tl, s⟩ := Ss.exs s
 have H0 : ZdI (SetO a ms rs ts xs tl) a (ZcM.enc ⟨rs, ts⟩) := fun h hh => ZdI.pts h hh.1
 have Hr : ZdI (SetO a ms rs ts xs tl) (a.add 0) (cL.enc rs) := H0.at_ (ZcZ _)
 have Rx : Rdb (SetO a ms rs ts xs tl) Zah rs xs := fun h hh => ZbM h hh.2.1
 have len := (s.rd_len (i := 0) rfl Rx).1
 have rd := SetO.rd (i := 0) rfl s hf
 have lx := rd.len
 unfold Za9
 refine WP.nilck (WP.ldh s 0 rfl Hr (by rfl) ?_)
 have s := s.mk0 (A := vec cS Sl.nil [] []) Zcv
 refine WP.loopG (γ := Nat × List ByteArray) (fun g (x : Sl × Int) w => x.2 = (g.1 : Int) ∧ g.1 ≤ ms.length ∧ Ss W (vec cS x.1 ((ms.take g.1).map fun m => bstr (ZpN m)) g.2 :: SetO a ms rs ts xs tl :: Hs) w) (fun g _ => ms.length - g.1) (0, []) ⟨rfl, zF _, s⟩ ?_
 clear s
 rintro ⟨k, sp⟩ ⟨y, _⟩ w ⟨h1, hk, s⟩
 dsimp only at h1 hk s
 subst h1
 show WP (Za9.L1 rs y (k : Int)) w _
 unfold Za9.L1
 refine WP.ite (fun hcc => ?_) (fun hcc => ?_)
 ·have hm := za (show k < ms.length by omega)
  have hx := za (show k < xs.length by omega)
  generalize ms[k]'(show k < ms.length by omega) = m at hm
  generalize xs[k]'(show k < xs.length by omega) = x at hx
  have ht : ms.take (k + 1) = ms.take k ++ [m] := by
   rw [zy, hm]
   rfl
  refine WP.rdx s 1 rfl Rx (by omega) (x := x) (by rw [zg]; exact hx) rfl (WP.slot' s (fun _ w s => WP.step (Zra s (rd.at_ k x m hx hm).push (hc m (zk hm)) (n + 2) hn (a1 + 2) ha (k1 + 2) hk1 (f1 + 2) hf1) ?_))
  rintro _ w ⟨rfl, s⟩
  refine WP.slot' s (fun _ w s => WP.appl s 0 rfl (by rw [zl, zm, zo]; omega) (by decide) (fun y2 w sp2 s => ?_))
  refine WP.next ⟨(k + 1, sp2), ⟨?_, by dsimp only; omega, by rw [ht, zE]; exact s⟩, by dsimp only; omega⟩
  show wrap .i64 ((k : Int) + 1) = _
  rw [Zau (by omega) (by omega)]
  simp
 ·have hk2 : k = ms.length := by omega
  rw [hk2, zI] at s
  exact WP.done ⟨sp, Ss.drop (s.use [1] rfl)⟩
theorem Zpn {A B : HP} {a b : Sl} {l : List ByteArray} (s : Ss W Hs w) (i : Nat) (e : nth Hs i = some A) (ra : Rdb A cS a l) (j : Nat) (e2 : nth Hs j = some B) (rb : Rdb B cS b l) (hl : l.length ≤ 9000000000000000000) : WP (ZaW a b) w (fun y w' => y = true ∧ Ss W Hs w') := by
 have l1 := (s.rd_len e ra).1
 have l2 := (s.rd_len e2 rb).1
 unfold ZaW
 refine WP.ite (fun h => absurd (by rw [l1, l2]) h) (fun _ => ?_)
 refine WP.loopG (γ := Nat) (fun k (x : Int) w => x = (k : Int) ∧ k ≤ l.length ∧ Ss W Hs w) (fun k _ => l.length - k) 0 ⟨rfl, zF _, s⟩ ?_
 clear s
 rintro k _ w ⟨rfl, hk, s⟩
 show WP (ZaW.L1 a b (k : Int)) w _
 unfold ZaW.L1
 refine WP.ite (fun hc => WP.draw' s (fun w s => ?_)) (fun hc => WP.done ⟨rfl, s⟩)
 have hx := za (show k < l.length by omega)
 generalize l[k]'(show k < l.length by omega) = x at hx
 have hxi : l[Int.toNat (k : Int)]? = some x := by rw [zg]; exact hx
 refine WP.rdx s i e ra (by omega) hxi rfl (WP.rdx s j e2 rb (by omega) hxi rfl (WP.ite (fun h => absurd rfl h) (fun _ => WP.next ⟨k + 1, ⟨?_, by omega, s⟩, by omega⟩)))
 rw [Zau (by omega) (by omega)]
 simp
theorem ZsH {A B : HP} {a b : Sl} {xs ys : List Zaf} {ms : List ZaR} (s : Ss W Hs w) (i : Nat) (e : nth Hs i = some A) (ra : Rdb A Zah a xs) (qa : RdL Hs xs ms) (j : Nat) (e2 : nth Hs j = some B) (rb : Rdb B Zah b ys) (qb : RdL Hs ys ms) (hs : ∀ m ∈ ms, Zna m) (hl : ms.length ≤ 9000000000000000000) :
  WP (Za2 a b) w (fun y w' => y = true ∧ Ss W Hs w') := by
 have l1 := (s.rd_len e ra).1
 have l2 := (s.rd_len e2 rb).1
 have l3 := qa.len
 have l4 := qb.len
 unfold Za2
 refine WP.ite (fun h => absurd (by rw [l1, l2, l3, l4]) h) (fun _ => ?_)
 refine WP.loopG (γ := Nat) (fun k (x : Int) w => x = (k : Int) ∧ k ≤ ms.length ∧ Ss W Hs w) (fun k _ => ms.length - k) 0 ⟨rfl, zF _, s⟩ ?_
 clear s
 rintro k _ w ⟨rfl, hk, s⟩
 show WP (Za2.L1 a b (k : Int)) w _
 unfold Za2.L1
 refine WP.ite (fun hc => WP.draw' s (fun w s => ?_)) (fun hc => WP.done ⟨rfl, s⟩)
 have hm := za (show k < ms.length by omega)
 have hx := za (show k < xs.length by omega)
 have hy := za (show k < ys.length by omega)
 generalize ms[k]'(show k < ms.length by omega) = m at hm
 generalize xs[k]'(show k < xs.length by omega) = x at hx
 generalize ys[k]'(show k < ys.length by omega) = y at hy
 have sm := hs m (zk hm)
 have s1 := sm.fn
 have s2 := sm.fp
 have s3 := sm.tn
 have s4 := sm.tp
 refine WP.rdx s i e ra (by omega) (x := x) (by rw [zg]; exact hx) rfl (WP.rdx s j e2 rb (by omega) (x := y) (by rw [zg]; exact hy) rfl (WP.step (Zut s (qa.at_ k x m hx hm) (qb.at_ k y m hy hm) ⟨⟨by omega, by omega⟩, by omega, by omega⟩) ?_))
 rintro _ w ⟨rfl, s⟩
 refine WP.ite (fun h => absurd (zb rfl) h) (fun _ => WP.next ⟨k + 1, ⟨?_, by omega, s⟩, by omega⟩)
 rw [Zau (by omega) (by omega)]
 simp
end
theorem Rdb.holdsF {α γ : Type} {A : HP} {c : Cod α} {sl : Sl} {xs : List α} (r : Rdb A c sl xs) {k o : Nat} {x : α} {a : Addr} {d : Cod γ} {y : γ} (hx : xs[k]? = some x) (ha : sl.a = some a) (h : At (c.enc x) o (d.enc y)) : ZdI A (a.add (k * c.n + o)) (d.enc y) := by
 have H : ZdI A (a.add (k * c.n)) (c.enc x) := fun h hh => by
  obtain ⟨-, -, q⟩ := r h hh
  obtain ⟨sp, q⟩ := q k x a hx ha
  rw [ZfE sp]
  refine ⟨rfl, fun i v hv => ?_⟩
  have := q i v hv
  rwa [← Nat.add_assoc] at this
 have := H.at_ h
 rwa [Zd4] at this
section
variable {W w : World} {Hs : List HP}
theorem WP.samep {α β γ : Type} {A : HP} {c : Cod α} {sl : Sl} {xs : List α} {d : Cod γ} {y : γ} {x : α} {k o : Nat} {a p : Addr} {f : Unit → M β} {Q : β → World → Prop} (s : Ss W Hs w) (i : Nat) (e : nth Hs i = some A) (r : Rdb A c sl xs) (hx : xs[k]? = some x) (ha : sl.a = some a) (hp : p = a.add (k * c.n + o)) (h : At (c.enc x) o (d.enc y)) (g : WP (f ()) w Q) : WP (Lx.same d p y >>= f) w Q :=
 WP.sameh s i e (Rdb.holdsF r hx ha h) hp g
theorem Zkn {sl : Sl} {l : List Int} (s : Ss W Hs w) (r : RdU Hs sl l) (hl : l.length ≤ reachBytes) : WP (ZcS sl) w (fun y w' => ∃ sp, Ss W (vec cU y l sp :: Hs) w') := by
 obtain ⟨i, A, e, ra⟩ := r
 have hr : reachBytes = 140737488351232 := rfl
 unfold ZcS
 exact WP.appS s i e ra (by decide) (WP.appl0 s (by omega) (by decide) (fun y w sp s => ret ⟨sp, s⟩))
theorem ZhQ {sl : Sl} {l : List Int} (s : Ss W Hs w) (r : RdU Hs sl l) (hl : l.length ≤ reachBytes) : WP (ZcG sl) w (fun y w' => ∃ sp, Ss W (vec cU y l sp :: Hs) w') := Zkn s r hl
theorem ZiF {sl : Sl} {os : List OptC} (s : Ss W Hs w) (r : RdO Hs sl os) (hb : os.length * 32 ≤ reachBytes) (hd : ∀ o ∈ os, o.data.length ≤ reachBytes) : WP (ZaU sl) w (fun y w' => Ss W (ZfN y os :: Hs) w') := by
 obtain ⟨i, e⟩ := r
 have hr : reachBytes = 140737488351232 := rfl
 have s := s.copy i e ZfN.ro (fun h hh => hh)
 obtain ⟨xs, s⟩ := Ss.exs s
 obtain ⟨h0, hh0⟩ := s.has (i := 0) rfl
 have hlx := hh0.2.1
 have R : Rdb (fun h => rdS ZcC false sl xs h ∧ Ze4 xs os h) ZcC sl xs := fun h hh => ZbM h hh.1
 have hlen := (s.rd_len (i := 0) rfl R).1
 have s := s.mk0 (A := vec ZcC Sl.nil [] []) Zcv
 have s := s.mk0 (A := Ze4 [] []) Ze4.nil
 unfold ZaU
 refine WP.loopG (γ := Nat × List Zdv × List Zdv) (fun g (x : Sl × Int) w => x.2 = (g.1 : Int) ∧ g.1 ≤ os.length ∧ g.2.1.length = g.1 ∧ Ss W (Ze4 g.2.1 (os.take g.1) :: vec ZcC x.1 g.2.1 g.2.2 :: (fun h => rdS ZcC false sl xs h ∧ Ze4 xs os h) :: Hs) w) (fun g _ => os.length - g.1) (0, [], []) ⟨rfl, zF _, rfl, s⟩ ?_
 clear s
 rintro ⟨k, zs, sp⟩ ⟨y, _⟩ w ⟨h1, hk, hz, s⟩
 dsimp only at h1 hk hz s
 subst h1
 show WP (ZaU.L1 sl y (k : Int)) w _
 unfold ZaU.L1
 refine WP.ite (fun hc => WP.draw' s (fun w s => ?_)) (fun hc => ?_)
 ·have hk2 : k < os.length := by omega
  have hx := za (show k < xs.length by omega)
  have ho := za hk2
  generalize xs[k]'(show k < xs.length by omega) = x at hx
  generalize os[k] = o at ho
  have ht : os.take (k + 1) = os.take k ++ [o] := by
   rw [zy, ho]
   rfl
  have hxi : xs[Int.toNat (k : Int)]? = some x := by rw [zg]; exact hx
  obtain ⟨ek, -⟩ := hh0.2.2 k x o hx ho
  refine WP.idxr s 2 rfl R (by omega) hxi rfl (fun a ha => ?_)
  refine WP.ldp s 2 rfl R hx ha (o := 0) (by rfl) (ZiQ _) (WP.idxr s 2 rfl R (by omega) hxi rfl (fun a2 ha2 => ?_))
  obtain rfl : a = a2 := Option.some.inj (ha.symm.trans ha2)
  refine WP.ldp s 2 rfl R hx ha (o := 1) (Zd4 _ _) (Znh _) ?_
  have s := s.copy 2 rfl (Ro.rdS.and Ze4.ro) (B := rdS cU false x.Data o.data) (fun h hh => (hh.2.2 k x o hx ho).2)
  refine WP.step (Zkn s ⟨0, _, rfl, ZbM⟩ (hd o (zk ho))) ?_
  rintro r15 w ⟨sp15, s⟩
  refine WP.samep s 4 rfl R hx ha (o := 0) (by rfl) (ZiQ _) (WP.slot' s (fun _ w s => ?_))
  have s := Ss.frz1 s (C := rdS cU false r15 o.data) (fun h hh => Zdl hh)
  refine WP.appl s 3 rfl (by rw [hz, zo]; omega) (by decide) (fun y2 w sp2 s => ?_)
  have s : Ss W (rdS cU false r15 o.data :: rdS cU false x.Data o.data :: Ze4 zs (os.take k) :: vec ZcC y2 (zs ++ [⟨x.Kind, r15⟩]) sp2 :: (fun h => rdS ZcC false sl xs h ∧ Ze4 xs os h) :: Hs) w := s
  have s := Ss.drop (s.use [1] rfl)
  have s := Ss.merge s (C := Ze4 (zs ++ [⟨x.Kind, r15⟩]) (os.take k ++ [o])) (fun h1 h2 h l1 l2 a1 a2 => (Ze4.up _ _ l2 a2).snoc ek (Zd8 l1 a1))
  refine WP.next ⟨(k + 1, zs ++ [⟨x.Kind, r15⟩], sp2), ⟨?_, hk2, by simp [hz], by rw [ht]; exact s⟩, by dsimp only; omega⟩
  show wrap .i64 ((k : Int) + 1) = _
  rw [Zau (by omega) (by omega)]
  simp
 ·have hk2 : k = os.length := by omega
  rw [hk2, zI] at s
  refine WP.done ?_
  have s := Ss.drop (s.use [2] rfl)
  exact s.frz2 (fun h1 h2 h l1 l2 a1 a2 => ⟨zs, Zd8 (Zee l2) (Zdl a2), Ze4.up _ _ (Zee l1) a1.fr⟩)
theorem Zp7 {sl : Sl} {es : List ExtC} (s : Ss W Hs w) (r : RdE Hs sl es) (hb : es.length * 56 ≤ reachBytes) (hd : ∀ e ∈ es, e.data.length ≤ reachBytes ∧ e.opts.length * 32 ≤ reachBytes ∧ ∀ o ∈ e.opts, o.data.length ≤ reachBytes) :
  WP (Za1 sl) w (fun y w' => ∃ zs sp, zs.map (fun x => x.Kind) = es.map (fun e => e.kind) ∧ Ss W (vec Zcu y zs sp :: Zfe zs es :: Hs) w') := by
 obtain ⟨i, A, j, xs, e1, R, e2, hkd⟩ := r
 have hr : reachBytes = 140737488351232 := rfl
 obtain ⟨h0, hh0⟩ := s.has e2
 have hlx := hh0.1
 have hlen := (s.rd_len e1 R).1
 have s := s.mk0 (A := vec Zcu Sl.nil [] []) Zcv
 have s := s.mk0 (A := Zfe [] []) Zfe.nil
 unfold Za1
 refine WP.loopG (γ := Nat × List ZcR × List ZcR) (fun g (x : Sl × Int) w => x.2 = (g.1 : Int) ∧ g.1 ≤ es.length ∧ g.2.1.map (fun x => x.Kind) = (es.take g.1).map (fun e => e.kind) ∧ Ss W (Zfe g.2.1 (es.take g.1) :: vec Zcu x.1 g.2.1 g.2.2 :: Hs) w) (fun g _ => es.length - g.1) (0, [], []) ⟨rfl, zF _, rfl, s⟩ ?_
 clear s
 rintro ⟨k, zs, sp⟩ ⟨y, _⟩ w ⟨h1, hk, hz, s⟩
 dsimp only at h1 hk hz s
 subst h1
 have hzl : zs.length = k := by
  have := congrArg List.length hz
  rw [zl, zl, zm] at this
  omega
 show WP (Za1.L1 sl y (k : Int)) w _
 unfold Za1.L1
 refine WP.ite (fun hc => WP.draw' s (fun w s => ?_)) (fun hc => ?_)
 ·have hk2 : k < es.length := by omega
  have hx := za (show k < xs.length by omega)
  have ho := za hk2
  generalize xs[k]'(show k < xs.length by omega) = x at hx
  generalize es[k] = o at ho
  have ht : es.take (k + 1) = es.take k ++ [o] := by
   rw [zy, ho]
   rfl
  have hxi : xs[Int.toNat (k : Int)]? = some x := by rw [zg]; exact hx
  have ek : x.Kind = o.kind := by
   have := congrArg (fun l => l[k]?) hkd
   simp only [zD, hx, ho, Option.map_some, zt] at this
   exact this
  obtain ⟨b1, b2, b3⟩ := hd o (zk ho)
  refine WP.idxr s (i + 2) e1 R (by omega) hxi rfl (fun a ha => ?_)
  refine WP.ldp s (i + 2) e1 R hx ha (o := 0) (by rfl) (ZgE _) (WP.idxr s (i + 2) e1 R (by omega) hxi rfl (fun a2 ha2 => ?_))
  obtain rfl : a = a2 := Option.some.inj (ha.symm.trans ha2)
  refine WP.ldp s (i + 2) e1 R hx ha (o := 1) (Zd4 _ _) (Znp _) (WP.idxr s (i + 2) e1 R (by omega) hxi rfl (fun a3 ha3 => ?_))
  obtain rfl : a = a3 := Option.some.inj (ha.symm.trans ha3)
  refine WP.ldp s (i + 2) e1 R hx ha (o := 2) (Zd4 _ _) (ZiR _) ?_
  have s := s.copy (j + 2) e2 Zfe.ro (B := rdS cU false x.Data o.data) (fun h hh => (hh.2 k x o hx ho).1)
  have s := s.copy (j + 3) e2 Zfe.ro (B := ZfN x.Opts o.opts) (fun h hh => (hh.2 k x o hx ho).2)
  refine WP.step (ZiF s ⟨0, rfl⟩ b2 b3) (fun r20 w s => ?_)
  refine WP.samep s (i + 5) e1 R hx ha (o := 2) (Zd4 _ _) (ZiR _) (WP.samep s (i + 5) e1 R hx ha (o := 0) (by rfl) (ZgE _) ?_)
  refine WP.step (Zkn s ⟨2, _, rfl, ZbM⟩ b1) ?_
  rintro r21 w ⟨sp21, s⟩
  refine WP.samep s (i + 6) e1 R hx ha (o := 0) (by rfl) (ZgE _) (WP.slot' s (fun _ w s => ?_))
  have s := Ss.frz1 s (C := rdS cU false r21 o.data) (fun h hh => Zdl hh)
  refine WP.appl s 5 rfl (by rw [hzl, zo]; omega) (by decide) (fun y2 w sp2 s => ?_)
  have s : Ss W (rdS cU false r21 o.data :: ZfN r20 o.opts :: ZfN x.Opts o.opts :: rdS cU false x.Data o.data :: Zfe zs (es.take k) :: vec Zcu y2 (zs ++ [⟨x.Kind, r20, r21⟩]) sp2 :: Hs) w := s
  have s := Ss.drop (Ss.drop (s.use [2, 2] rfl))
  have s := Ss.merge s (C := fun h => rdS cU false r21 o.data h ∧ ZfN r20 o.opts h) (fun h1 h2 h l1 l2 a1 a2 => ⟨Zd8 l1 a1, ZfN.up _ _ l2 a2⟩)
  have s := Ss.merge s (C := Zfe (zs ++ [⟨x.Kind, r20, r21⟩]) (es.take k ++ [o])) (fun h1 h2 h l1 l2 a1 a2 => (Zfe.up _ _ l2 a2).snoc (Zd8 l1 a1.1) (ZfN.up _ _ l1 a1.2))
  refine WP.next ⟨(k + 1, zs ++ [⟨x.Kind, r20, r21⟩], sp2), ⟨?_, hk2, ?_, by rw [ht]; exact s⟩, by dsimp only; omega⟩
  ·show wrap .i64 ((k : Int) + 1) = _
   rw [Zau (by omega) (by omega)]
   simp
  ·rw [ht, zE, zE, hz, List.map_singleton, List.map_singleton, ek]
 ·have hk2 : k = es.length := by omega
  rw [hk2, zI] at s hz
  exact WP.done ⟨zs, sp, hz, s.use [1] rfl⟩
end
structure OwnX where
 xs : List ZcR
 st : List Zg5
 s4 : List Int
 sx : List ZcR
 s6 : List Int
 si : List Int
 su : List Int
 sT : List Int
def OwnP (y : Zat) (k : PkC) (o : OwnX) : List HP :=
 [vec ZfB y.Tags k.tags o.st, ZfN y.Ip4.Opts k.o4, vec cU y.Ip4.Data k.d4 o.s4, vec Zcu y.Ip6.Exts o.xs o.sx, Zfe o.xs k.exts, vec cU y.Ip6.Data k.d6 o.s6, vec cU y.Icmp.Data k.di o.si, vec cU y.Udp.Data k.du o.su, ZfN y.Tcp.Opts k.oT, vec cU y.Tcp.Data k.dT o.sT]
theorem OwnP.rd {Hs : List HP} {y : Zat} {k : PkC} {o : OwnX} (h : o.xs.map (fun x => x.Kind) = k.exts.map (fun e => e.kind)) : PkR (OwnP y k o ++ Hs) y k :=
 ⟨⟨0, _, rfl, ZcB⟩, ⟨1, rfl⟩, ⟨2, _, rfl, ZcB⟩, ⟨3, _, 4, o.xs, rfl, ZcB, rfl, h⟩, ⟨5, _, rfl, ZcB⟩, ⟨6, _, rfl, ZcB⟩, ⟨7, _, rfl, ZcB⟩, ⟨8, rfl⟩, ⟨9, _, rfl, ZcB⟩⟩
section
variable {W w : World} {Hs : List HP}
theorem ZsI {p : Zat} {k : PkC} (s : Ss W Hs w) (r : PkR Hs p k) (b : PkL k) : WP (ZdC p) w (fun y w' => ∃ o : OwnX, o.xs.map (fun x => x.Kind) = k.exts.map (fun e => e.kind) ∧ PkS p y ∧ Ss W (OwnP y k o ++ Hs) w') := by
 obtain ⟨i, A, e, ra⟩ := r.tags
 have hr : reachBytes = 140737488351232 := rfl
 have bt := b.tags
 unfold ZdC
 refine WP.slot' s (fun _ w s => WP.slot' s (fun _ w s => WP.appS s i e ra (by decide) (WP.appl0 s (by omega) (by decide) (fun r3 w st s => ?_))))
 refine WP.step (ZiF s r.o4.push b.o4.1 b.o4.2) (fun r4 w s => ?_)
 refine WP.step (ZhQ s r.d4.push.push b.d4) ?_
 rintro r5 w ⟨s4, s⟩
 refine WP.step (R := fun y w' => ∃ xs sx s6, xs.map (fun x : ZcR => x.Kind) = k.exts.map (fun e => e.kind) ∧ y = { p.Ip6 with Exts := y.Exts, Data := y.Data } ∧ Ss W (vec cU y.Data k.d6 s6 :: vec Zcu y.Exts xs sx :: Zfe xs k.exts :: vec cU r5 k.d4 s4 :: ZfN r4 k.o4 :: vec ZfB r3 k.tags st :: Hs) w') ?_ ?_
 ·unfold ZeE
  refine WP.slot' s (fun _ w s => WP.slot' s (fun _ w s => WP.step (Zp7 s r.ex.push.push.push b.ex.1 b.ex.2) ?_))
  rintro x3 w ⟨xs, sx, hk, s⟩
  refine WP.step (Zkn s r.d6.push.push.push.push.push b.d6) ?_
  rintro x4 w ⟨s6, s⟩
  exact ret ⟨xs, sx, s6, hk, rfl, s⟩
 rintro r6 w ⟨xs, sx, s6, hk, e6, s⟩
 refine WP.step (ZhQ s r.di.push.push.push.push.push.push b.di) ?_
 rintro r7 w ⟨si, s⟩
 refine WP.step (ZhQ s r.du.push.push.push.push.push.push.push b.du) ?_
 rintro r8 w ⟨su, s⟩
 refine WP.step (ZiF s r.oT.push.push.push.push.push.push.push.push b.oT.1 b.oT.2) (fun r9 w s => ?_)
 refine WP.step (ZhQ s r.dT.push.push.push.push.push.push.push.push.push b.dT) ?_
 rintro r10 w ⟨sT, s⟩
 refine ret ⟨⟨xs, st, s4, sx, s6, si, su, sT⟩, hk, ?_, ?_⟩
 ·unfold PkS
  dsimp only
  rw [← e6]
 ·exact s.use [9, 8, 7, 5, 5, 4, 3, 2, 1, 0] rfl
end
theorem ZpI : ∀ {ms : List ZaR} {k : Nat}, (∀ m ∈ ms, ckM m = 0) → newF k ms = none
 | [], _, _ => rfl
 | m :: ms, k, h => by
  unfold newF
  rw [if_neg (fun h' => h' (h m (List.mem_cons_self ..)))]
  exact ZpI (fun a ha => h a (zO _ ha))
theorem ZpG {ms : List ZaR} (h : ∀ m ∈ ms, ckM m = 0) (hl : ms.length ≤ 256) : newM ms = none := by
 unfold newM
 rw [if_neg (by omega)]
 exact ZpI h
theorem Zqw {ls : List (List Int)} {j n : Nat} (h : j ≤ n) : (ZcX (ls.take j)).length ≤ (ZcX (ls.take n)).length := by
 have : ls.take n = ls.take j ++ (ls.take n).drop j := by
  have := (List.take_append_drop j (ls.take n)).symm
  rwa [List.take_take, Nat.min_eq_left h] at this
 rw [this, Zgk, zc]
 omega
def ArgC (W : World) (p : Zat) : Prop := ∀ (Hs : List HP) (w : World), Ss W Hs w → ∃ (k : PkC) (Ls : List HP), Ss W (Ls ++ Hs) w ∧ PkR (Ls ++ Hs) p k ∧ PkL k ∧ PkB p
section
variable {W w : World} {Hs : List HP}
theorem Zqo {b b2 : Nat} {ms : List ZaR} {v : Sl} {cs : List Zde} (s : Ss W Hs w) (T : RTab Hs) (i : Nat) (e : nth Hs i = some (SetH (pt b 0) ms)) (i2 : Nat) (e2 : nth Hs i2 = some (SetH (pt b2 0) ms)) (j : Nat) (ec : nth Hs j = some (rdS ZdP false v cs)) (hcs : cs.length ≤ 9000000000000000000) (arg : ∀ c ∈ cs, ArgC W c.P) (hf : ∀ m ∈ ms, Zo1 m) (hl : ms.length ≤ 256) :
  WP (Zcn (fun s_ : Int => Zaj.L1 v (some (pt b 0), 0, 0, 0) (some (pt b2 0), 0, 0) s_) 0) w (fun y w' => y = true ∧ ∃ L, Ss W L w') := by
 have len := (s.rd_len ec ZbM).1
 refine WP.loopG (γ := Nat) (fun k (x : Int) w => x = (k : Int) ∧ k ≤ cs.length ∧ Ss W Hs w) (fun k _ => cs.length - k) 0 ⟨rfl, zF _, s⟩ ?_
 clear s
 rintro k _ w ⟨rfl, hk, s⟩
 show WP (Zaj.L1 v (some (pt b 0), 0, 0, 0) (some (pt b2 0), 0, 0) (k : Int)) w _
 unfold Zaj.L1
 refine WP.ite (fun hc => ?_) (fun hc => ZvC s T (fun w s => WP.done ⟨rfl, _, s⟩))
 have hx := za (show k < cs.length by omega)
 generalize cs[k]'(show k < cs.length by omega) = x at hx
 have hxi : cs[Int.toNat (k : Int)]? = some x := by rw [zg]; exact hx
 obtain ⟨pc, Ls, s, pr, pl, pb⟩ := arg x (zk hx) Hs w s
 refine WP.rdxp s (Ls.length + j) (ZoC Ls ec) ZbM (by omega) hxi rfl (ZjX _) (WP.step (ZsI s pr pl) ?_)
 rintro z w ⟨o, hk2, ps, s⟩
 have pz := OwnP.rd (y := z) (Hs := Ls ++ Hs) hk2
 have up : ∀ {t : Nat} {A : HP}, nth Hs t = some A → nth (OwnP z pc o ++ (Ls ++ Hs)) ((OwnP z pc o).length + (Ls.length + t)) = some A := fun h => ZoC _ (ZoC Ls h)
 refine WP.slot' s (fun _ w s => WP.draw' s (fun w s => ?_))
 refine WP.rdxp0 s _ (up ec) ZbM (by omega) hxi rfl (ZeH _) (WP.idxr s _ (up ec) ZbM (by omega) hxi rfl (fun a ha => ?_))
 refine WP.ldp s _ (up ec) ZbM hx ha (o := 0) (by rfl) (ZeH _) ?_
 refine WP.step (ZrY (ms := ms) s _ (up e) (pz.vid s) (ps.byt pb) hf (by omega)) ?_
 rintro _ w ⟨rfl, s⟩
 refine WP.samep s _ (up ec) ZbM hx ha (o := 0) (by rfl) (ZeH _) ?_
 refine WP.step (ZrY (ms := ms) s _ (up e2) (pz.vid s) (ps.byt pb) hf (by omega)) ?_
 rintro _ w ⟨rfl, s⟩
 refine WP.ite (fun h => absurd rfl h) (fun _ => WP.next ⟨k + 1, ⟨?_, by omega, Ss.weak (l := Ls) (Ss.weak (l := OwnP z pc o) s)⟩, by omega⟩)
 rw [Zau (by omega) (by omega)]
 simp
theorem ZnP {u v : Sl} {xs : List ByteArray} {r1 : (Option Addr) × Int × Int × Int} {n : Nat} (s : Ss W Hs w) (T : RTab Hs) (i : Nat) (e : nth Hs i = some (rdS cS false u xs)) (hx0 : xs.length ≤ 9000000000000000000) (hn : n ≤ xs.length) (hr : (ZcX ((xs.map strI).take n)).length ≤ 256)
  (hc : ∀ k : Nat, k ≤ n → ((k : Int) < (u.len : Int) ∧ (r1.2.1 = 0 ∨ (k : Int) < r1.2.2.1) ↔ k < n))
  (K : ∀ w s2 ys sp, Ss W (RlsF ys (ZcX ((xs.map strI).take n)) :: vec Zah s2 ys sp :: Hs) w → WP (Zaj.K1 u v r1 s2) w (fun y w' => y = true ∧ ∃ L, Ss W L w')) :
  WP (Zcn (fun s_ : (Sl × Int) => Zaj.L2 u v r1 s_.1 s_.2) (Sl.nil, 0)) w (fun y w' => y = true ∧ ∃ L, Ss W L w') := by
 have len := (s.rd_len e ZbM).1
 have s := s.mk0 (A := vec Zah Sl.nil [] []) Zcv
 have s := s.mk0 (A := RlsF [] []) RlsF.nil
 refine WP.loopG (γ := Nat × List Zaf × List Zaf) (fun g (x : Sl × Int) w => x.2 = (g.1 : Int) ∧ g.1 ≤ n ∧ g.2.1.length = (ZcX ((xs.map strI).take g.1)).length ∧ Ss W (RlsF g.2.1 (ZcX ((xs.map strI).take g.1)) :: vec Zah x.1 g.2.1 g.2.2 :: Hs) w) (fun g _ => n - g.1) (0, [], []) ⟨rfl, zF _, rfl, s⟩ ?_
 clear s
 rintro ⟨k, ys, sp⟩ ⟨s2, _⟩ w ⟨h1, hk, hy, s⟩
 dsimp only at h1 hk hy s
 subst h1
 show WP (Zaj.L2 u v r1 s2 (k : Int)) w _
 unfold Zaj.L2
 refine WP.step (R := fun y w' => y = decide (k < n) ∧ w = w') (WP.ite (fun h => numW (WP.step (R := fun y w' => y = decide (k < n) ∧ w = w') (WP.ite (fun h2 => ret ⟨(zb ((hc k hk).1 ⟨h, .inl h2⟩)).symm, rfl⟩) (fun h2 => ret ⟨?_, rfl⟩)) (fun y w h => ret h))) (fun h => ret ⟨?_, rfl⟩)) ?_
 ·exact decide_eq_decide.2 ⟨fun h3 => (hc k hk).1 ⟨h, .inr h3⟩, fun h3 => ((hc k hk).2 h3).2.elim (fun h4 => absurd h4 h2) id⟩
 ·exact (zh (fun h3 => h ((hc k hk).2 h3).1)).symm
 rintro _ _ ⟨rfl, rfl⟩
 refine WP.ite (fun h => ?_) (fun h => ?_)
 ·have hkn : k < n := zd h
  have hx := za (show k < xs.length by omega)
  generalize xs[k]'(show k < xs.length by omega) = x at hx
  have ht : (xs.map strI).take (k + 1) = (xs.map strI).take k ++ [strI x] := by
   rw [zy, zD, hx]
   rfl
  have hnext : wrap .i64 ((k : Int) + 1) = ((k + 1 : Nat) : Int) := by
   rw [Zau (by omega) (by omega)]
   simp
  have hr2 := Zqw (ls := xs.map strI) (show k + 1 ≤ n from hkn)
  refine WP.rdx s (i + 2) e ZbM (by omega) (x := x) (by rw [zg]; exact hx) rfl (WP.step (Zmp s T.push.push x) ?_)
  intro r80 w h
  cases hrd : Ziv (strI x) with
  | error f =>
   rw [hrd] at h
   obtain ⟨rfl, hne, s⟩ := h
   have e1 : ZcX ((xs.map strI).take (k + 1)) = ZcX ((xs.map strI).take k) := by
    rw [ht, Zgk, Zhf, hrd, zJ]
   refine WP.slot' s (fun _ w s => numW (WP.ite (fun h' => absurd h' hne) (fun _ => WP.next ⟨(k + 1, ys, sp), ⟨hnext, hkn, by dsimp only; rw [e1]; exact hy, by dsimp only; rw [e1]; exact s⟩, by dsimp only; omega⟩)))
  | ok m =>
   rw [hrd] at h
   obtain ⟨he, s⟩ := h
   have s := Zpq s
   have e1 : ZcX ((xs.map strI).take (k + 1)) = ZcX ((xs.map strI).take k) ++ [m] := by
    rw [ht, Zgk, Zhf, hrd]
   rw [e1, zc, zo] at hr2
   refine WP.slot' s (fun _ w s => numW (WP.ite (fun _ => WP.slot' s (fun _ w s => WP.appl s 2 rfl (by rw [hy, zo]; omega) (by decide) (fun y2 w sp2 s => ?_))) (fun h' => absurd (by rw [he]) h')))
   have s : Ss W (RlH m r80.1 :: RlsF ys (ZcX ((xs.map strI).take k)) :: vec Zah y2 (ys ++ [r80.1]) sp2 :: Hs) w := s
   have s := Ss.merge s (C := RlsF (ys ++ [r80.1]) (ZcX ((xs.map strI).take k) ++ [m])) (fun h1 h2 h l1 l2 a1 a2 => (RlsF.up _ _ l2 a2).snoc (RlH.up _ _ l1 a1))
   exact WP.next ⟨(k + 1, ys ++ [r80.1], sp2), ⟨hnext, hkn, by dsimp only; rw [e1]; simp [hy], by dsimp only; rw [e1]; exact s⟩, by dsimp only; omega⟩
 ·have hkn : k = n := by
   have : ¬ k < n := fun h' => h (zb h')
   omega
  subst hkn
  exact WP.step (K w s2 ys sp s) (fun y w h => WP.done h)
theorem Zq4 {u v : Sl} {xs : List ByteArray} {cs : List Zde} (s : Ss W Hs w) (T : RTab Hs) (i : Nat) (e : nth Hs i = some (rdS cS false u xs)) (j : Nat) (ec : nth Hs j = some (rdS ZdP false v cs)) (hxs : xs.length ≤ 9000000000000000000) (hcs : cs.length ≤ 9000000000000000000) (arg : ∀ c ∈ cs, ArgC W c.P) :
  WP (Zaj u v) w (fun y w' => y = true ∧ ∃ L, Ss W L w') := by
 have len := (s.rd_len e ZbM).1
 unfold Zaj
 refine WP.step (Zvy s T i e ZbM hxs) ?_
 intro r1 w h
 cases hp : Zhi 0 [] (xs.map strI) with
 | error q =>
  rw [hp] at h
  obtain ⟨rfl, hne, s⟩ := h
  obtain ⟨-, q2, q3⟩ := Zmo _ _ _ _ hp (by simp)
  rw [zN, Nat.sub_zero] at q3
  rw [zl, Nat.zero_add] at q2
  refine ZnP (n := q.2.1) s T i e hxs (by omega) q3 (fun k hk => ?_) ?_
  ·dsimp only
   constructor
   ·rintro ⟨-, h' | h'⟩
    ·exact absurd h' hne
    ·omega
   ·intro h'
    exact ⟨by omega, .inr (by omega)⟩
  intro w s2 ys sp s
  have rd := RlsF.rd (i := 0) rfl s (fun m hm => (ZjE m hm).2)
  unfold Zaj.K1
  refine WP.step (Zuu s 1 rfl ZcB rd) ?_
  rintro y w ⟨f, s⟩
  have hnew := ZpG (fun m hm => (ZjE m hm).1) q3
  rcases f with ⟨f, -⟩ | ⟨-, b, rfl⟩
  ·exact absurd hnew f
  refine numW (WP.ite (fun _ => ZvC s T.push.push.push (fun w s => ?_)) (fun h' => absurd hne h'))
  refine WP.step (R := fun y w' => y = true ∧ w = w') (WP.ite (fun _ => ret ⟨rfl, rfl⟩) (fun h => absurd rfl h)) ?_
  rintro _ _ ⟨rfl, rfl⟩
  refine WP.step (R := fun y w' => y = true ∧ w = w') (WP.ite (fun _ => numW (WP.step (R := fun y w' => y = true ∧ w = w') (WP.ite (fun _ => ret ⟨rfl, rfl⟩) (fun h => absurd rfl h)) (fun y w h => ret h))) (fun h => absurd rfl h)) ?_
  rintro _ _ ⟨rfl, rfl⟩
  refine WP.step (R := fun y w' => y = true ∧ w = w') (WP.ite (fun _ => ret ⟨zb (show (0 : Int) ≤ (q.2.1 : Int) by omega), rfl⟩) (fun h => absurd rfl h)) ?_
  rintro _ _ ⟨rfl, rfl⟩
  refine WP.step (R := fun y w' => y = true ∧ w = w') (WP.ite (fun _ => ret ⟨zb (show (q.2.1 : Int) < (u.len : Int) by omega), rfl⟩) (fun h => absurd rfl h)) ?_
  rintro _ _ ⟨rfl, rfl⟩
  exact ret ⟨rfl, _, s⟩
 | ok ms =>
  rw [hp] at h
  obtain ⟨b, rfl, s⟩ := h
  obtain ⟨p1, p2⟩ := Zoy _ _ _ _ hp (by simp)
  rw [zN] at p1
  subst p1
  have hall : (xs.map strI).take xs.length = xs.map strI := zC (by simp)
  refine ZnP (n := xs.length) s T.push (i + 1) e hxs (zB _) (by rw [hall]; exact p2) (fun k hk => ?_) ?_
  ·dsimp only
   constructor
   ·rintro ⟨h', -⟩
    omega
   ·intro h'
    exact ⟨by omega, .inl rfl⟩
  intro w s2 ys sp s
  rw [hall] at s
  have gd : ∀ m ∈ ZcX (xs.map strI), ckM m = 0 ∧ BytR m := ZjE
  have fin : ∀ m ∈ ZcX (xs.map strI), Zo1 m := fun m hm => Zwt (gd m hm).1 (gd m hm).2
  have rd := RlsF.rd (i := 0) rfl s (fun m hm => (gd m hm).2)
  unfold Zaj.K1
  refine WP.step (Zuu s 1 rfl ZcB rd) ?_
  rintro y w ⟨f, s⟩
  have hnew := ZpG (fun m hm => (gd m hm).1) p2
  rcases f with ⟨f, -⟩ | ⟨-, b2, rfl⟩
  ·exact absurd hnew f
  have s : Ss W (SetH (pt b2 0) (ZcX (xs.map strI)) :: RlsF ys (ZcX (xs.map strI)) :: vec Zah s2 ys sp :: SetH (pt b 0) (ZcX (xs.map strI)) :: Hs) w := s
  have T4 := T.push (A := SetH (pt b 0) (ZcX (xs.map strI))) |>.push (A := vec Zah s2 ys sp) |>.push (A := RlsF ys (ZcX (xs.map strI))) |>.push (A := SetH (pt b2 0) (ZcX (xs.map strI)))
  refine numW (WP.ite (fun h' => absurd rfl h') (fun _ => ?_))
  refine orF (fun h => by cases h) rfl ?_
  refine WP.step (R := fun y w' => y = false ∧ w = w') (WP.ite (fun h => by cases h) (fun _ => numW (ret ⟨rfl, rfl⟩))) ?_
  rintro _ _ ⟨rfl, rfl⟩
  refine WP.step (R := fun y w' => y = false ∧ Ss W (SetH (pt b2 0) (ZcX (xs.map strI)) :: RlsF ys (ZcX (xs.map strI)) :: vec Zah s2 ys sp :: SetH (pt b 0) (ZcX (xs.map strI)) :: Hs) w') (WP.ite (fun h => by cases h) (fun _ => WP.step (Zvx s 3 rfl fin p2) ?_)) ?_
  ·rintro r39 w ⟨zs, sz, s⟩
   refine WP.step (ZsH s 1 rfl ZcB (RlsF.rd (i := 0) rfl s (fun m hm => (gd m hm).2)) 4 rfl ZcB (RlsF.rd (i := 3) rfl s (fun m hm => (gd m hm).2)) (fun m hm => (fin m hm).sm) (by omega)) ?_
   rintro _ w ⟨rfl, s⟩
   exact ret ⟨rfl, s.drop.drop⟩
  rintro _ w ⟨rfl, s⟩
  refine WP.step (R := fun y w' => y = false ∧ Ss W (SetH (pt b2 0) (ZcX (xs.map strI)) :: RlsF ys (ZcX (xs.map strI)) :: vec Zah s2 ys sp :: SetH (pt b 0) (ZcX (xs.map strI)) :: Hs) w') (WP.ite (fun h => by cases h) (fun _ => WP.step (ZrX s 3 rfl fin (fun m hm => (gd m hm).1) p2 T4) ?_)) ?_
  ·rintro r42 w ⟨q1, s⟩
   refine WP.step (ZrX s 1 rfl fin (fun m hm => (gd m hm).1) p2 T4.push) ?_
   rintro r43 w ⟨q2, s⟩
   refine WP.step (Zpn s 1 rfl ZcB 0 rfl ZcB (by rw [zl]; omega)) ?_
   rintro _ w ⟨rfl, s⟩
   exact ret ⟨rfl, s.drop.drop⟩
  rintro _ w ⟨rfl, s⟩
  exact WP.ite (fun h => by cases h) (fun _ => Zqo s T4 3 rfl 0 rfl (j + 4) ec hcs arg fin p2)
end
end
end Go.Proofs.YtfnokeoldcfcoaaGreatDoor.Lx
