/- Plain words, put together. -/
import Derived.Test.YtfnokeoldcfcoaaGreatDoorAddrParse3
import Derived.Test.YtfnokeoldcfcoaaGreatDoorLxSh
import Derived.Test.YtfnokeoldcfcoaaGreatDoorLxQ
set_option linter.unusedSimpArgs false
set_option linter.unusedVariables false
namespace Go.Proofs.YtfnokeoldcfcoaaGreatDoor.Lx
open WP (ret)
open Go.IntKind (wrap)
section
open Go Go.Proofs Go.RowKit
def Bad (l : List Int) (f : Flt) : Prop := f.1 ≠ 0 ∧ f.2 ≤ l.length
theorem Zmu {l : List Int} {i : Nat} (h : i ≤ l.length) : Bad l (ZqI l i) := by
 unfold ZqI
 split
 ·exact ⟨by simp, h⟩
 ·exact ⟨by simp, h⟩
theorem Zrp {l : List Int} {i : Nat} {most wrong : Int} {f : Flt} (hi : i ≤ l.length) (hw : wrong ≠ 0) (h : numM l i most wrong = .error f) : Bad l f := by
 unfold numM at h
 split at h
 ·cases h
  exact Zmu hi
 ·split at h
  ·cases h
   exact ⟨hw, hi⟩
  ·split at h
   ·cases h
    exact ⟨hw, hi⟩
   ·cases h
theorem ZpX {l : List Int} : ∀ (k i : Nat) (acc : List Nat) (f : Flt), i ≤ l.length → Zjc l k i acc = .error f → Bad l f
 | 0, _, _, _, _, h => by cases h
 | k + 1, i, acc, f, hi, h => by
  unfold Zjc at h
  have hs : ∀ {x : Bool} {g : Flt}, sepM l i x = .error g → Bad l g := by
   intro x g h
   unfold sepM at h
   split at h
   ·cases h
   ·split at h
    ·cases h
     exact Zmu hi
    ·cases h
  have hs2 : ∀ {x : Bool} {j : Nat}, sepM l i x = .ok j → j ≤ l.length := by
   intro x j h
   unfold sepM at h
   split at h
   ·cases h
    exact hi
   ·split at h
    ·cases h
    ·cases h
     omega
  cases hj : sepM l i acc.isEmpty with
  | error g =>
   rw [hj] at h
   cases h
   exact hs hj
  | ok j =>
   rw [hj] at h
   simp only at h
   cases hn : numM l j 255 43 with
   | error g =>
    rw [hn] at h
    cases h
    exact Zrp (hs2 hj) (by decide) hn
   | ok x =>
    rw [hn] at h
    exact ZpX k x.2 _ f (ZoA hn (hs2 hj)).2.2 h
theorem ZpW {l : List Int} {i : Nat} {f : Flt} (hi : i ≤ l.length) (h : Zie l i = .error f) : Bad l f := by
 unfold Zie at h
 cases hf : Zjc l 4 i [] with
 | error g =>
  rw [hf] at h
  cases h
  exact ZpX _ _ _ _ hi hf
 | ok x =>
  rw [hf] at h
  simp only at h
  split at h
  ·cases h
   exact ⟨by simp, (ZoM _ _ _ _ _ hi (by simp) hf).2.2.2⟩
  ·cases h
theorem Zsv {l : List Int} {st : S6} {f : Flt} (hi : st.at_ ≤ l.length) (h : ZiB l st = .error f) : Bad l f := by
 unfold ZiB at h
 split at h
 ·cases h
  exact Zmu hi
 ·split at h
  ·split at h
   ·cases h
    exact ⟨by simp, hi⟩
   ·cases hf : Zie l st.at_ with
    | error g =>
     rw [hf] at h
     cases h
     exact ZpW hi hf
    | ok x =>
     rw [hf] at h
     cases h
  ·split at h
   ·cases h
    exact ⟨by simp, hi⟩
   ·split at h
    ·cases h
     exact ⟨by simp, hi⟩
    ·cases h
theorem ZmK {l : List Int} {st : S6} {f : Flt} (hi : st.at_ ≤ l.length) (h : Zfc l st = .error f) : Bad l f := by
 unfold Zfc at h
 split at h
 ·cases h
 ·split at h
  ·cases h
   exact ⟨by simp, hi⟩
  ·cases h
theorem Zmg {l : List Int} {f : Flt} : ∀ (n : Nat) (op : Bool) (st : S6), Ok6 l st → l.length + 1 ≤ n + st.at_ → ZgF l n op st = .error f → Bad l f
 | 0, _, _, ok, hn, h => by
  have := ok.a
  omega
 | n + 1, op, st, ok, hn, h => by
  unfold ZgF at h
  split at h
  ·cases h
  ·cases hg : ZiB l st with
   | error e =>
    rw [hg] at h
    cases h
    exact Zsv ok.a hg
   | ok x =>
    obtain ⟨done, st1⟩ := x
    rw [hg] at h
    obtain ⟨k1, -, k2⟩ := Zmz ok hg
    simp only at h
    split at h
    ·split at h
     ·cases h
      exact ⟨by simp, zB _⟩
     ·cases h
    ·rename_i hn'
     have k3 := k2 (by cases done <;> simp_all)
     cases hd : Zfc l st1 with
     | error e =>
      rw [hd] at h
      cases h
      exact ZmK k1.a hd
     | ok x =>
      obtain ⟨y, st2⟩ := x
      rw [hd] at h
      obtain ⟨m1, m2, m3⟩ := Zgm k1 hd
      simp only at h
      split at h
      ·rename_i hy
       have := (m3 hy).1
       exact Zmg n true st2 m1 (by omega) h
      ·rename_i hy
       have e2 := m2 (by simpa using hy)
       subst e2
       split at h
       ·cases h
        exact ⟨by simp, m1.a⟩
       ·have h3 := k1.a
        have h4 : st2.at_ ≠ l.length := fun h' => hn' (.inr h')
        exact Zmg n false ⟨st2.at_ + 1, st2.gs, st2.gap⟩ ⟨by show st2.at_ + 1 ≤ l.length; omega, m1.g, m1.p1, m1.p2, m1.p3, m1.v⟩ (by show l.length + 1 ≤ n + (st2.at_ + 1); omega) h
theorem Zth {l : List Int} {f : Flt} (h : Znt l = .error f) : Bad l f := by
 have ok0 : Ok6 l ⟨0, [], -1⟩ := ⟨by simp, by simp, by simp, by simp, fun h => by simp, fun x h => by cases h⟩
 unfold Znt at h
 cases hd : Zfc l ⟨0, [], -1⟩ with
 | error e =>
  rw [hd] at h
  cases h
  exact ZmK (zF _) hd
 | ok x =>
  obtain ⟨y, st⟩ := x
  rw [hd] at h
  exact Zmg _ _ _ (Zgm ok0 hd).1 (by omega) h
theorem ZnZ {l : List Int} {f : Flt} (h : ZgO l = .error f) : Bad l f := by
 unfold ZgO at h
 split at h
 ·cases h
  exact ⟨by simp, by omega⟩
 ·split at h
  ·cases hr : Znt l with
   | error g =>
    rw [hr] at h
    cases h
    exact Zth hr
   | ok st =>
    rw [hr] at h
    cases h
  ·cases hr : Zie l 0 with
   | error g =>
    rw [hr] at h
    cases h
    exact ZpW (zF _) hr
   | ok a =>
    rw [hr] at h
    cases h
theorem Zrn {l : List Int} {p : Zag} (h : Zpx l = .ok p) : vpM p = 0 ∧ Byt p.IP.A.l := by
 unfold Zpx at h
 split at h
 ·cases h
 ·split at h
  ·cases hr : ZgO (l.take (ZbL l 47)) with
   | error g =>
    rw [hr] at h
    cases h
   | ok ip =>
    rw [hr] at h
    simp only at h
    cases hn : numM l (ZbL l 47 + 1) (ZfZ ip) 45 with
    | error g =>
     rw [hn] at h
     cases h
    | ok x =>
     rw [hn] at h
     simp only at h
     split at h
     ·cases h
     ·split at h
      ·cases h
      ·rename_i hv
       cases h
       exact ⟨Decidable.not_not.1 hv, Zhh hr⟩
  ·cases h
theorem Ztp {l : List Int} {f : Flt} (h : Zpx l = .error f) : Bad l f := by
 unfold Zpx at h
 split at h
 ·cases h
  exact ⟨by simp, by omega⟩
 ·split at h
  ·rename_i hf
   cases hr : ZgO (l.take (ZbL l 47)) with
   | error g =>
    rw [hr] at h
    cases h
    obtain ⟨g1, g2⟩ := ZnZ hr
    rw [zm] at g2
    exact ⟨g1, by omega⟩
   | ok ip =>
    rw [hr] at h
    simp only at h
    cases hn : numM l (ZbL l 47 + 1) (ZfZ ip) 45 with
    | error g =>
     rw [hn] at h
     cases h
     exact Zrp (by omega) (by decide) hn
    | ok x =>
     rw [hn] at h
     simp only at h
     have hx := (ZoA hn (by omega)).2.2
     split at h
     ·cases h
      exact ⟨by simp, hx⟩
     ·split at h
      ·cases h
       exact ⟨by simp, zF _⟩
      ·cases h
  ·cases h
   exact ⟨by simp, zB _⟩
theorem ZsY : strI Zpe = [45] := by decide +kernel
theorem ZwV : strI Zw0 = tx "not" := by decide +kernel
theorem ZsW : strI ZwZ = tx "port" := by decide +kernel
def net1 (e kind : Int) (n : Nat) : List Wd → PE (Zag × List Wd)
 | [] => .error (161, e)
 | w :: ws => if w.1 = comma then .error (160, w.2) else match netR w.1 with
  | none => .error (163, w.2)
  | some p => if n = 16 ∨ Zg2 p kind = false then .error (163, w.2) else .ok (p, ws)
theorem ZiA {e kind : Int} {n : Nat} {w : Wd} {ws : List Wd} : net1 e kind n (w :: ws) = if w.1 = comma then .error (160, w.2) else match netR w.1 with
  | none => .error (163, w.2)
  | some p => if n = 16 ∨ Zg2 p kind = false then .error (163, w.2) else .ok (p, ws) := rfl
theorem Zsl {e kind : Int} {acc : List Zag} {w : Wd} {ws : List Wd} : Zjb e kind acc (w :: ws) = if w.1 = comma then .error (160, w.2) else match netR w.1 with
  | none => .error (163, w.2)
  | some p => if acc.length = 16 ∨ Zg2 p kind = false then .error (163, w.2) else match ws with
   | [] => .ok (acc ++ [p], [])
   | c :: ws => if c.1 = comma then Zjb e kind (acc ++ [p]) ws else .ok (acc ++ [p], c :: ws) := by
 rw [Zjb]
 try rfl
theorem ZkK {e kind : Int} {acc : List Zag} {ws : List Wd} : Zjb e kind acc ws = match net1 e kind acc.length ws with
  | .error f => .error f
  | .ok (p, r) => match Zd9 comma r with
   | none => .ok (acc ++ [p], r)
   | some r => Zjb e kind (acc ++ [p]) r := by
 cases ws with
 | nil => rfl
 | cons w ws =>
  rw [Zsl, ZiA]
  by_cases h : w.1 = comma
  ·rw [if_pos h, if_pos h]
  ·rw [if_neg h, if_neg h]
   cases netR w.1 with
   | none => rfl
   | some p =>
    simp only
    by_cases h2 : acc.length = 16 ∨ Zg2 p kind = false
    ·rw [if_pos h2, if_pos h2]
    ·rw [if_neg h2, if_neg h2]
     cases ws with
     | nil => rfl
     | cons c ws =>
      simp only [Zd9]
      by_cases h3 : c.1 = comma
      ·rw [if_pos h3, if_pos h3]
      ·rw [if_neg h3, if_neg h3]
def Zmj (e : Int) (n : Nat) : List Wd → PE (ZaH × List Wd)
 | [] => .error (161, e)
 | w :: ws => if w.1 = comma then .error (160, w.2) else match Zmi w.1 with
  | none => .error (164, w.2)
  | some p => if n = 16 then .error (164, w.2) else .ok (p, ws)
theorem Zgs {e : Int} {n : Nat} {w : Wd} {ws : List Wd} : Zmj e n (w :: ws) = if w.1 = comma then .error (160, w.2) else match Zmi w.1 with
  | none => .error (164, w.2)
  | some p => if n = 16 then .error (164, w.2) else .ok (p, ws) := rfl
theorem ZqD {e : Int} {acc : List ZaH} {w : Wd} {ws : List Wd} : Zgw e acc (w :: ws) = if w.1 = comma then .error (160, w.2) else match Zmi w.1 with
  | none => .error (164, w.2)
  | some p => if acc.length = 16 then .error (164, w.2) else match ws with
   | [] => .ok (acc ++ [p], [])
   | c :: ws => if c.1 = comma then Zgw e (acc ++ [p]) ws else .ok (acc ++ [p], c :: ws) := by
 rw [Zgw]
 try rfl
theorem ZjG {e : Int} {acc : List ZaH} {ws : List Wd} : Zgw e acc ws = match Zmj e acc.length ws with
  | .error f => .error f
  | .ok (p, r) => match Zd9 comma r with
   | none => .ok (acc ++ [p], r)
   | some r => Zgw e (acc ++ [p]) r := by
 cases ws with
 | nil => rfl
 | cons w ws =>
  rw [ZqD, Zgs]
  by_cases h : w.1 = comma
  ·rw [if_pos h, if_pos h]
  ·rw [if_neg h, if_neg h]
   cases Zmi w.1 with
   | none => rfl
   | some p =>
    simp only
    by_cases h2 : acc.length = 16
    ·rw [if_pos h2, if_pos h2]
    ·rw [if_neg h2, if_neg h2]
     cases ws with
     | nil => rfl
     | cons c ws =>
      simp only [Zd9]
      by_cases h3 : c.1 = comma
      ·rw [if_pos h3, if_pos h3]
      ·rw [if_neg h3, if_neg h3]
theorem Zrr {e kind : Int} {n : Nat} {ws r : List Wd} {p : Zag} (h : net1 e kind n ws = .ok (p, r)) : r.length < ws.length ∧ n ≠ 16 := by
 cases ws with
 | nil => cases h
 | cons w ws =>
  rw [ZiA] at h
  split at h
  ·cases h
  ·split at h
   ·cases h
   ·split at h
    ·cases h
    ·rename_i hn
     cases h
     exact ⟨by simp, fun h => hn (.inl h)⟩
theorem ZnU {e : Int} {n : Nat} {ws r : List Wd} {p : ZaH} (h : Zmj e n ws = .ok (p, r)) : r.length < ws.length ∧ n ≠ 16 := by
 cases ws with
 | nil => cases h
 | cons w ws =>
  rw [Zgs] at h
  split at h
  ·cases h
  ·split at h
   ·cases h
   ·split at h
    ·cases h
    ·rename_i hn
     cases h
     exact ⟨by simp, hn⟩
theorem Zey {t : List Int} {ws r : List Wd} (h : Zd9 t ws = some r) : r.length < ws.length := by
 cases ws with
 | nil => cases h
 | cons w ws =>
  rw [show Zd9 t (w :: ws) = if w.1 = t then some ws else none from rfl] at h
  split at h
  ·cases h
   simp
  ·cases h
theorem ZuW {t : List Int} {p : Zag} (h : netR t = some p) : Byt p.IP.A.l := by
 unfold netR at h
 split at h
 ·rename_i q hq
  cases h
  exact (Zrn hq).2
 ·split at h
  ·rename_i ip hi
   cases h
   exact Zhh hi
  ·cases h
section
variable {W w : World} {Hs : List HP}
theorem Zt3 (s : Ss W Hs w) (p : Zag) (hb : Byt p.IP.A.l) (kind : Int) : WP (ZdS p kind) w (fun r w' => r = Zg2 p kind ∧ Ss W Hs w') := by
 unfold ZdS Zg2
 refine WP.slot' s (fun _ w s => ?_)
 refine WP.step (R := fun y w' => y = verM kind ∧ w = w') ?_ ?_
 ·unfold ZeV
  exact WP.ite (fun h => WP.ite (fun _ => ret ⟨by unfold verM; rw [if_pos (Or.inl h)], rfl⟩) (fun h' => absurd h h')) (fun h => WP.ite (fun h2 => ret ⟨by unfold verM; rw [if_pos (Or.inr h2)], rfl⟩) (fun h2 => WP.ite (fun h3 => ret ⟨by unfold verM; rw [if_neg (fun h' => h'.elim h h2), if_pos h3], rfl⟩) (fun h3 => ret ⟨by unfold verM; rw [if_neg (fun h' => h'.elim h h2), if_neg h3], rfl⟩)))
 rintro _ _ ⟨rfl, rfl⟩
 refine WP.step (ZfX s p hb) ?_
 rintro _ w ⟨rfl, s⟩
 refine WP.step (R := fun y w' => y = decide (vpM p = 0 ∧ (verM kind = 0 ∨ p.IP.V = verM kind)) ∧ Ss W Hs w') (WP.ite (fun h => ?_) (fun h => ret ⟨(zh (fun h' => h h'.1)).symm, s⟩)) (fun y w h => ret h)
 refine WP.step (R := fun y w' => y = decide (verM kind = 0 ∨ p.IP.V = verM kind) ∧ Ss W Hs w') (WP.ite (fun h2 => ret ⟨(zb (.inl h2)).symm, s⟩) (fun h2 => ret ⟨?_, s⟩)) ?_
 ·rw [zj, zq, ze]
  exact ⟨.inr, fun h' => h'.elim (fun h' => absurd h' h2) id⟩
 rintro _ w ⟨rfl, s⟩
 exact ret ⟨decide_eq_decide.2 ⟨fun h' => ⟨h, h'⟩, fun h' => h'.2⟩, s⟩
theorem Zux (s : Ss W Hs w) (t : ByteArray) (ht : t.size ≤ 1000000) {p : ByteArray} {q : Nat} (hq : q < 256) (hp : strI p = [(q : Int)]) : WP (ZdE t p) w (fun r w' => CutA t q r ∧ (¬ ZbL (strI t) q < t.size → r.1 = t) ∧ Ss W Hs w') := by
 have hn : p.size = 1 := by
  rw [← ZbI, hp]
  rfl
 have hl := ZbI t
 unfold ZdE ZdD
 refine WP.step (R := fun r w' => CutA t q r ∧ (¬ ZbL (strI t) q < t.size → r.1 = t) ∧ Ss W Hs w') (WP.step (ZoZ t hq hp) ?_) (fun r w h => ret h)
 rintro _ _ ⟨rfl, rfl⟩
 by_cases hf : ZbL (strI t) q < t.size
 ·rw [if_pos hf]
  have e1 : wrap .i64 (((ZbL (strI t) q : Nat) : Int) + (p.size : Int)) = ((ZbL (strI t) q + 1 : Nat) : Int) := by
   rw [hn, Zau (by omega) (by omega)]
   rfl
  rw [e1]
  refine WP.ite (fun _ => WP.draw' s (fun w s => WP.chk ⟨by omega, by omega, by omega⟩ (WP.chk ⟨by omega, by omega, by omega⟩ (ret ⟨⟨(zb hf).symm, fun _ => ⟨?_, ?_⟩⟩, fun h => absurd hf h, s⟩)))) (fun h => absurd (by omega) h)
  ·simp only
   rw [Zdx]
   simp
  ·simp only
   rw [Zdx]
   simp only [zg]
   rw [zC (by rw [zw]; omega)]
 ·rw [if_neg hf]
  exact WP.ite (fun h => absurd h (by omega)) (fun _ => ret ⟨⟨(zh hf).symm, fun h => absurd h hf⟩, fun _ => rfl, s⟩)
variable {b : Nat} {wl : List ZaG} {e : Int} {m : ZaR} {ws : List Wd} {f : PF}
theorem ZkL (s : Ss W (RrD b f :: Hs) w) (n : Int) (r : ZaG) (j : Int) (p : Zag) : WP (ZaC.K1 (some (pt b 0)) n r j p) w (fun _ w' => Ss W (RrD b f :: Hs) w') := by
 unfold ZaC.K1
 refine WP.draw' s (fun w s => WP.nilck (errD s (fun h => ?_)))
 refine WP.step (R := fun y w' => y = false ∧ w = w') (WP.ite (fun h' => absurd h' h) (fun _ => ret ⟨rfl, rfl⟩)) ?_
 rintro _ _ ⟨rfl, rfl⟩
 exact WP.ite (fun h => by cases h) (fun _ => ret s)
theorem ZlP (s : Ss W (RrA b wl e m ws :: Hs) w) {n : Nat} (r : ZaG) {j : Int} (p : Zag) (hp : j = 0 → Byt p.IP.A.l) : WP (ZaC.K1 (some (pt b 0)) (n : Int) r j p) w (fun x w' => ResR W Hs b wl e m x w' (if j ≠ 0 ∨ n = 16 ∨ Zg2 p m.Kind = false then .error (163, r.at_) else .ok (p, ws))) := by
 unfold ZaC.K1
 refine WP.draw' s (fun w s => WP.nilck (errA s ?_))
 refine WP.step (R := fun y w' => y = decide (j ≠ 0 ∨ n = 16 ∨ Zg2 p m.Kind = false) ∧ Ss W (RrA b wl e m ws :: Hs) w') (WP.ite (fun _ => ?_) (fun h => absurd rfl h)) ?_
 ·refine WP.step (R := fun y w' => y = decide (j ≠ 0 ∨ n = 16) ∧ w = w') (WP.ite (fun h => ret ⟨(zb (.inl h)).symm, rfl⟩) (fun h => ret ⟨?_, rfl⟩)) ?_
  ·rw [zj, zq, ze]
   exact ⟨fun h' => .inr (by omega), fun h' => h'.elim (fun h' => absurd h' h) (fun h' => by omega)⟩
  rintro _ _ ⟨rfl, rfl⟩
  refine WP.step (R := fun y w' => y = decide (j ≠ 0 ∨ n = 16 ∨ Zg2 p m.Kind = false) ∧ Ss W (RrA b wl e m ws :: Hs) w') (WP.ite (fun h => ret ⟨?_, s⟩) (fun h => ?_)) (fun y w h => ret h)
  ·have := zd h
   exact (zb (this.elim .inl (fun h => .inr (.inl h)))).symm
  ·have hn : ¬ (j ≠ 0 ∨ n = 16) := fun h' => h (zb h')
   have hj : j = 0 := zL fun h' => hn (.inl h')
   refine WP.nilck (ZqO s (WP.step (Zt3 s p (hp hj) m.Kind) ?_))
   rintro _ w ⟨rfl, s⟩
   refine ret ⟨?_, s⟩
   rw [zj, Bool.not_eq_true', ze]
   exact ⟨fun h' => .inr (.inr h'), fun h' => h'.elim (fun h' => absurd (.inl h') hn) (fun h' => h'.elim (fun h' => absurd (.inr h') hn) id)⟩
 rintro _ w ⟨rfl, s⟩
 refine WP.ite (fun h => ?_) (fun h => ret ?_)
 ·rw [if_pos (zd h)]
  refine WP.step (ZdV s (by decide) r.at_) ?_
  intro _ w s
  exact ret s
 ·rw [if_neg (fun h' => h (zb h'))]
  exact ⟨rfl, s⟩
theorem ZuP (s : Ss W (RrA b wl e m ws :: Hs) w) (n : Nat) : WP (ZaC (some (pt b 0)) (n : Int)) w (fun x w' => ResR W Hs b wl e m x w' (net1 e m.Kind n ws)) := by
 unfold ZaC
 refine WP.slot' s (fun _ w s => WP.step (Zix s) ?_)
 intro r w h
 have dead : ∀ {w : World} {f : PF}, Ss W (RrD b f :: Hs) w → WP (slot 90 >>= fun b3 => Zas r.s >>= fun r4 => slot 129 >>= fun b5 => (if r4.2.1 ≠ 0 then Zem r.s >>= fun r23 => slot 50 >>= fun b24 =>
   (if r23.1.V = 6 then ZaC.K2 (some (pt b 0)) (n : Int) r r23 (⟨r23.1, 128⟩ : Zag) else ZaC.K2 (some (pt b 0)) (n : Int) r r23 (⟨r23.1, 32⟩ : Zag)) else ZaC.K1 (some (pt b 0)) (n : Int) r r4.2.1 r4.1)) w (fun _ w' => Ss W (RrD b f :: Hs) w') := by
  intro w f s
  refine WP.slot' s (fun _ w s => WP.step (Zjt s r.s) ?_)
  rintro q w ⟨-, s⟩
  refine WP.slot' s (fun _ w s => WP.ite (fun _ => WP.step (Zoj s r.s) ?_) (fun _ => ZkL s _ _ _ _))
  rintro q w ⟨-, s⟩
  exact WP.slot' s (fun _ w s => WP.ite (fun _ => ZkL s _ _ _ _) (fun _ => ZkL s _ _ _ _))
 cases ws with
 | nil => exact dead h.2
 | cons x xs =>
  obtain ⟨hx, s1⟩ := h
  clear s
  have s := s1
  clear s1
  subst hx
  rw [ZiA]
  by_cases hc : (wdOf r).1 = comma
  ·rw [if_pos hc] at s ⊢
   exact dead s
  rw [if_neg hc] at s ⊢
  have hr : (wdOf r).1 = strI r.s := rfl
  rw [hr]
  refine WP.slot' s (fun _ w s => WP.step (Zjt s r.s) ?_)
  rintro _ w ⟨rfl, s⟩
  refine WP.slot' s (fun _ w s => ?_)
  unfold netR ZqC
  cases hp : Zpx (strI r.s) with
  | ok p =>
   refine WP.ite (fun h => absurd rfl h) (fun _ => (ZlP s r p (fun _ => (Zrn hp).2)).mono ?_)
   intro x w h
   simp only [ne_eq, not_true_eq_false, false_or] at h
   exact h
  | error f =>
   have hf := (Ztp hp).1
   refine WP.ite (fun _ => WP.step (Zoj s r.s) ?_) (fun h => absurd hf h)
   rintro _ w ⟨rfl, s⟩
   unfold ipM
   cases hi : ZgO (strI r.s) with
   | ok ip =>
    refine WP.slot' s (fun _ w s => WP.ite (fun h6 => (ZlP s r _ (fun _ => Zhh hi)).mono ?_) (fun h6 => (ZlP s r _ (fun _ => Zhh hi)).mono ?_))
    ·intro x w h
     simp only [ne_eq, not_true_eq_false, false_or] at h
     have h6 : ip.V = 6 := h6
     simp only
     rw [if_pos h6]
     exact h
    ·intro x w h
     simp only [ne_eq, not_true_eq_false, false_or] at h
     have h6 : ¬ ip.V = 6 := h6
     simp only
     rw [if_neg h6]
     exact h
   | error f2 =>
    have hf2 := (ZnZ hi).1
    have fin : ∀ {w : World} (p : Zag), Ss W (RrA b wl e m xs :: Hs) w → WP (ZaC.K2 (some (pt b 0)) (n : Int) r (ZcF, f2.1, (f2.2 : Int)) p) w (fun x w' => ResR W Hs b wl e m x w' (.error (163, r.at_))) := by
     intro w p s
     refine (ZlP s r p (fun h => absurd h hf2)).mono ?_
     intro x w h
     rw [if_pos (.inl hf2)] at h
     exact h
    exact WP.slot' s (fun _ w s => WP.ite (fun _ => fin _ s) (fun _ => fin _ s))
end
def Zjm (a b : Option Int) : Option ZaH := match a, b with
 | some a, some b => if a ≤ b then some ⟨a, b⟩ else none
 | _, _ => none
theorem Ztl (t : List Int) : Zmi t = Zjm (numR (t.take (ZbL t 45)) 0 65535) (numR (if ZbL t 45 < t.length then t.drop (ZbL t 45 + 1) else t.take (ZbL t 45)) 0 65535) := rfl
section
variable {W w : World} {Hs : List HP} {b : Nat} {wl : List ZaG} {e : Int} {m : ZaR} {ws : List Wd} {f : PF}
theorem Zle (s : Ss W (RrD b f :: Hs) w) (n : Int) (r : ZaG) (q : ByteArray × ByteArray × Bool) (t2 : ByteArray) : WP (ZaV.K1 (some (pt b 0)) n r q t2) w (fun _ w' => Ss W (RrD b f :: Hs) w') := by
 unfold ZaV.K1
 refine WP.step (Zli q.1 0 65535) ?_
 rintro x _ ⟨-, -, rfl⟩
 refine WP.step (Zli t2 0 65535) ?_
 rintro y _ ⟨-, -, rfl⟩
 refine WP.nilck (errD s (fun h => ?_))
 refine WP.step (R := fun y w' => y = false ∧ w = w') (WP.ite (fun h' => absurd h' h) (fun _ => ret ⟨rfl, rfl⟩)) ?_
 rintro _ _ ⟨rfl, rfl⟩
 exact WP.ite (fun h => by cases h) (fun _ => ret s)
theorem ZnY (s : Ss W (RrA b wl e m ws :: Hs) w) {n : Nat} (r : ZaG) (q : ByteArray × ByteArray × Bool) (t2 : ByteArray) : WP (ZaV.K1 (some (pt b 0)) (n : Int) r q t2) w (fun x w' => ResR W Hs b wl e m x w' (match Zjm (numR (strI q.1) 0 65535) (numR (strI t2) 0 65535) with
  | none => .error (164, r.at_)
  | some p => if n = 16 then .error (164, r.at_) else .ok (p, ws))) := by
 unfold ZaV.K1
 refine WP.step (Zli q.1 0 65535) ?_
 rintro x _ ⟨a1, a2, rfl⟩
 refine WP.step (Zli t2 0 65535) ?_
 rintro y _ ⟨b1, b2, rfl⟩
 refine WP.nilck (errA s ?_)
 have bad : ∀ {w : World}, Ss W (RrA b wl e m ws :: Hs) w → WP (Za0 (some (pt b 0)) 164 r.at_ >>= fun r15 => pure (⟨x.1, y.1⟩ : ZaH)) w (fun x w' => ResR W Hs b wl e m x w' (.error (164, r.at_))) := by
  intro w s
  refine WP.step (ZdV s (by decide) r.at_) ?_
  intro _ w s
  exact ret s
 refine WP.step (R := fun z w' => z = decide (Zjm (numR (strI q.1) 0 65535) (numR (strI t2) 0 65535) = none ∨ n = 16) ∧ w = w') (WP.ite (fun _ => ?_) (fun h => absurd rfl h)) ?_
 ·cases ha : numR (strI q.1) 0 65535 with
  | none =>
   rw [ha] at a1
   refine WP.step (R := fun z w' => z = true ∧ w = w') (WP.ite (fun _ => ret ⟨rfl, rfl⟩) (fun h => absurd (by rw [a1]; decide) h)) ?_
   rintro _ _ ⟨rfl, rfl⟩
   refine WP.step (R := fun z w' => z = true ∧ w = w') (WP.ite (fun _ => ret ⟨rfl, rfl⟩) (fun h => absurd rfl h)) ?_
   rintro _ _ ⟨rfl, rfl⟩
   refine WP.step (R := fun z w' => z = true ∧ w = w') (WP.ite (fun _ => ret ⟨rfl, rfl⟩) (fun h => absurd rfl h)) ?_
   rintro _ _ ⟨rfl, rfl⟩
   exact ret ⟨(zb (.inl rfl)).symm, rfl⟩
  | some v =>
   have hv := a2 v ha
   rw [ha] at a1
   refine WP.step (R := fun z w' => z = !y.2 ∧ w = w') (WP.ite (fun h => absurd a1 h) (fun _ => ret ⟨rfl, rfl⟩)) ?_
   rintro _ _ ⟨rfl, rfl⟩
   cases hb : numR (strI t2) 0 65535 with
   | none =>
    rw [hb] at b1
    have b1 : y.2 = false := b1
    rw [b1]
    refine WP.step (R := fun z w' => z = true ∧ w = w') (WP.ite (fun _ => ret ⟨rfl, rfl⟩) (fun h => absurd rfl h)) ?_
    rintro _ _ ⟨rfl, rfl⟩
    refine WP.step (R := fun z w' => z = true ∧ w = w') (WP.ite (fun _ => ret ⟨rfl, rfl⟩) (fun h => absurd rfl h)) ?_
    rintro _ _ ⟨rfl, rfl⟩
    exact ret ⟨(zb (.inl rfl)).symm, rfl⟩
   | some u =>
    have hu := b2 u hb
    rw [hb] at b1
    have b1 : y.2 = true := b1
    rw [b1, hv, hu]
    refine WP.step (R := fun z w' => z = decide (v > u) ∧ w = w') (WP.ite (fun h => by cases h) (fun _ => ret ⟨rfl, rfl⟩)) ?_
    rintro _ _ ⟨rfl, rfl⟩
    refine WP.step (R := fun z w' => z = decide (Zjm (some v) (some u) = none ∨ n = 16) ∧ w = w') (WP.ite (fun h => ret ⟨?_, rfl⟩) (fun h => ret ⟨?_, rfl⟩)) (fun z w h => ret h)
    ·have := zd h
     refine (zb (.inl ?_)).symm
     unfold Zjm
     simp only
     rw [if_neg (by omega)]
    ·have h' : ¬ v > u := fun h' => h (zb h')
     rw [zj, zq, ze]
     constructor
     ·intro hn
      exact .inr (by omega)
     ·rintro (h2 | h2)
      ·unfold Zjm at h2
       simp only at h2
       rw [if_pos (by omega)] at h2
       cases h2
      ·omega
 rintro _ _ ⟨rfl, rfl⟩
 refine WP.ite (fun h => ?_) (fun h => ret ?_)
 ·cases hr : Zjm (numR (strI q.1) 0 65535) (numR (strI t2) 0 65535) with
  | none => exact bad s
  | some p =>
   have := zd h
   rw [hr] at this
   have hn : n = 16 := this.elim (fun h => by cases h) id
   simp only
   rw [if_pos hn]
   exact bad s
 ·have hh : ¬ (Zjm (numR (strI q.1) 0 65535) (numR (strI t2) 0 65535) = none ∨ n = 16) := fun h' => h (zb h')
  cases hr : Zjm (numR (strI q.1) 0 65535) (numR (strI t2) 0 65535) with
  | none => exact absurd (.inl hr) hh
  | some p =>
   simp only
   rw [if_neg (fun h => hh (.inr h))]
   refine ⟨?_, s⟩
   cases ha : numR (strI q.1) 0 65535 with
   | none => rw [ha] at hr; cases hr
   | some v =>
    cases hb : numR (strI t2) 0 65535 with
    | none => rw [ha, hb] at hr; cases hr
    | some u =>
     rw [ha, hb] at hr
     rw [a2 v ha, b2 u hb]
     unfold Zjm at hr
     simp only at hr
     split at hr
     ·exact Option.some.inj hr
     ·cases hr
theorem Zsf (s : Ss W (RrA b wl e m ws :: Hs) w) (n : Nat) : WP (ZaV (some (pt b 0)) (n : Int)) w (fun x w' => ResR W Hs b wl e m x w' (Zmj e n ws)) := by
 unfold ZaV
 have hws := wsOk s
 refine WP.slot' s (fun _ w s => WP.step (Zix s) ?_)
 intro r w h
 have dead : ∀ {w : World} {f : PF}, r.s.size ≤ 2000 → Ss W (RrD b f :: Hs) w → WP (slot 90 >>= fun b3 => ZdE r.s Zpe >>= fun r4 => (if ¬ (r4.2.2 = true) then ZaV.K1 (some (pt b 0)) (n : Int) r r4 r4.1 else ZaV.K1 (some (pt b 0)) (n : Int) r r4 r4.2.1)) w (fun _ w' => Ss W (RrD b f :: Hs) w') := by
  intro w f hs s
  refine WP.slot' s (fun _ w s => WP.step (Zux s r.s (by omega) (q := 45) (by decide) ZsY) ?_)
  rintro q w ⟨-, -, s⟩
  exact WP.ite (fun _ => Zle s _ _ _ _) (fun _ => Zle s _ _ _ _)
 cases ws with
 | nil =>
  obtain ⟨hz, s1⟩ := h
  exact dead (by rw [hz]; decide) s1
 | cons x xs =>
  obtain ⟨hx, s1⟩ := h
  clear s
  have s := s1
  clear s1
  subst hx
  have hsz : r.s.size ≤ 2000 := by
   have := hws _ (List.mem_cons_self ..)
   rw [← ZbI]
   exact this
  rw [Zgs]
  by_cases hc : (wdOf r).1 = comma
  ·rw [if_pos hc] at s ⊢
   exact dead hsz s
  rw [if_neg hc] at s ⊢
  have hr : (wdOf r).1 = strI r.s := rfl
  have hl := ZbI r.s
  rw [hr, Ztl]
  refine WP.slot' s (fun _ w s => WP.step (Zux s r.s (by omega) (q := 45) (by decide) ZsY) ?_)
  rintro q w ⟨⟨c1, c2⟩, c3, s⟩
  have c1 : q.2.2 = decide (ZbL (strI r.s) 45 < r.s.size) := c1
  have c2 : ZbL (strI r.s) 45 < r.s.size → strI q.1 = (strI r.s).take (ZbL (strI r.s) 45) ∧ strI q.2.1 = (strI r.s).drop (ZbL (strI r.s) 45 + 1) := c2
  have c3 : ¬ ZbL (strI r.s) 45 < r.s.size → q.1 = r.s := c3
  by_cases hf : ZbL (strI r.s) 45 < r.s.size
  ·rw [if_pos (show ZbL (strI r.s) 45 < (strI r.s).length by omega), ← (c2 hf).1, ← (c2 hf).2]
   exact WP.ite (fun h => absurd (by rw [c1]; exact zb hf) h) (fun _ => ZnY s r q q.2.1)
  ·have hle := Zt5 (strI r.s) 45
   have e1 : (strI r.s).take (ZbL (strI r.s) 45) = strI q.1 := by
    rw [zC (by omega), c3 hf]
   rw [if_neg (show ¬ ZbL (strI r.s) 45 < (strI r.s).length by omega), e1]
   exact WP.ite (fun _ => ZnY s r q q.1) (fun h => absurd (by rw [c1, zh hf]; decide) h)
def ZsG (W : World) (Hs : List HP) (b : Nat) (wl : List ZaG) (e : Int) (m : ZaR) (r : Zar) (w : World) : PE (Zek × List Wd) → Prop
 | .ok q => Ss W (ZjW r q.1 :: RrA b wl e m q.2 :: Hs) w
 | .error f => Ss W (RrD b f :: Hs) w
theorem Zrs {j : Zar} {nt : Bool} {ns sp : List Zag} {ps sp2 : List ZaH} (h : j.Not = nt) (s : Ss W (vec cPfx j.Nets ns sp :: vec cRg j.Ports ps sp2 :: Hs) w) : Ss W (ZjW j ⟨nt, ns, ps⟩ :: Hs) w :=
 (Ss.group (l := [vec cPfx j.Nets ns sp, vec cRg j.Ports ps sp2]) s).first (fun h' hh => ⟨(sp, sp2), h, hh⟩)
abbrev Ph (α : Type) := PE (Bool × List α × List Wd)
def Ph.mu {α : Type} : Ph α → Nat
 | .ok (true, _, ws) => ws.length + 1
 | _ => 0
theorem Zld {X : PE (List ZaH × List Wd)} {Z : PE (Zek × List Wd)} {nt : Bool} {nn : Sl} {ns sp : List Zag} (hX : ∀ ps r, X = .ok (ps, r) → Z = .ok (⟨nt, ns, ps⟩, r)) (hE : ∀ f, X = .error f → Z = .error f) (g : Ph ZaH) {x : Bool × Zar} {acc : List ZaH} {sp2 : List ZaH}
  (hx : x.2.Not = nt ∧ x.2.Nets = nn) (hacc : acc.length ≤ 17)
  (h : match g with
   | .ok (more, a, ws) => x.1 = more ∧ a = acc ∧ acc.length ≤ 16 ∧ (if more = true then Zgw e acc ws else .ok (acc, ws)) = X ∧ Ss W (vec cPfx nn ns sp :: vec cRg x.2.Ports acc sp2 :: RrA b wl e m ws :: Hs) w
   | .error f => X = .error f ∧ Ss W (vec cPfx nn ns sp :: vec cRg x.2.Ports acc sp2 :: RrD b f :: Hs) w) :
  WP (Zcn (fun s_ : (Bool × Zar) => Zac.L1 (some (pt b 0)) s_.1 s_.2) x) w (fun r w' => ZsG W Hs b wl e m r w' Z) := by
 refine WP.loopG (γ := Ph ZaH × List ZaH × List ZaH) (fun g (x : Bool × Zar) w => (x.2.Not = nt ∧ x.2.Nets = nn) ∧ g.2.1.length ≤ 17 ∧ (match g.1 with
   | .ok (more, a, ws) => x.1 = more ∧ a = g.2.1 ∧ g.2.1.length ≤ 16 ∧ (if more = true then Zgw e g.2.1 ws else .ok (g.2.1, ws)) = X ∧ Ss W (vec cPfx nn ns sp :: vec cRg x.2.Ports g.2.1 g.2.2 :: RrA b wl e m ws :: Hs) w
   | .error f => X = .error f ∧ Ss W (vec cPfx nn ns sp :: vec cRg x.2.Ports g.2.1 g.2.2 :: RrD b f :: Hs) w)) (fun g _ => g.1.mu) (g, acc, sp2) ⟨hx, hacc, h⟩ ?_
 clear h hx hacc
 rintro ⟨g, acc, sp2⟩ ⟨more, j⟩ w ⟨⟨hj1, hj2⟩, hacc, h⟩
 simp only at hj1 hj2 hacc h
 show WP (Zac.L1 (some (pt b 0)) more j) w _
 unfold Zac.L1
 cases g with
 | error f =>
  obtain ⟨hXf, s⟩ := h
  have s1 : Ss W (RrD b f :: (vec cPfx nn ns sp :: vec cRg j.Ports acc sp2 :: Hs)) w := by
   have s := s.use [2] rfl
   exact s
  refine WP.step (R := fun y w' => y = false ∧ w = w') (WP.ite (fun _ => WP.nilck (errD s1 (fun h => ret ⟨beq_eq_false_iff_ne.2 h, rfl⟩))) (fun _ => ret ⟨rfl, rfl⟩)) ?_
  rintro _ _ ⟨rfl, rfl⟩
  refine WP.ite (fun h => by cases h) (fun _ => WP.done ?_)
  rw [hE f hXf]
  have s := (s1.use [1, 1] rfl).drop.drop
  exact s
 | ok g =>
  obtain ⟨mr, a, ws⟩ := g
  obtain ⟨h1, h2, h16, h3, s⟩ := h
  subst h1
  subst h2
  have s1 : Ss W (RrA b wl e m ws :: (vec cPfx nn ns sp :: vec cRg j.Ports a sp2 :: Hs)) w := by
   have s := s.use [2] rfl
   exact s
  cases more with
  | false =>
   refine WP.step (R := fun y w' => y = false ∧ w = w') (WP.ite (fun h => by cases h) (fun _ => ret ⟨rfl, rfl⟩)) ?_
   rintro _ _ ⟨rfl, rfl⟩
   refine WP.ite (fun h => by cases h) (fun _ => WP.done ?_)
   rw [hX a ws h3.symm]
   have s2 : Ss W (vec cPfx j.Nets ns sp :: vec cRg j.Ports a sp2 :: (RrA b wl e m ws :: Hs)) w := by
    rw [hj2]
    exact s
   exact Zrs hj1 s2
  | true =>
   refine WP.step (R := fun y w' => y = true ∧ w = w') (WP.ite (fun _ => WP.nilck (errA s1 (ret ⟨rfl, rfl⟩))) (fun h => absurd rfl h)) ?_
   rintro _ _ ⟨rfl, rfl⟩
   refine WP.ite (fun _ => WP.draw' s1 (fun w s => ?_)) (fun h => absurd rfl h)
   have hpl := (s.vec_len (i := 2) rfl).1
   rw [hpl]
   refine WP.step (Zsf s a.length) ?_
   intro p w h
   simp only [if_true] at h3
   rw [ZjG] at h3
   cases hr : Zmj e a.length ws with
   | error f =>
    rw [hr] at h h3
    refine WP.slot' h (fun _ w s => WP.appl s 2 rfl (by simp only [zo]; omega) (by decide) (fun q w sp3 s => ?_))
    have s : Ss W (RrD b f :: (vec cPfx nn ns sp :: vec cRg q (a ++ [p]) sp3 :: Hs)) w := s
    refine WP.step (Zgr s _) ?_
    rintro _ w ⟨rfl, s⟩
    refine WP.next ⟨(.error f, a ++ [p], sp3), ⟨⟨hj1, hj2⟩, by simp only [zc, zo]; omega, h3.symm, ?_⟩, by simp [Ph.mu]⟩
    have s := s.use [1, 1, 0] rfl
    exact s
   | ok q =>
    obtain ⟨p', r⟩ := q
    rw [hr] at h h3
    obtain ⟨hp, s⟩ := h
    simp only at hp s h3
    subst hp
    have hlen := ZnU hr
    refine WP.slot' s (fun _ w s => WP.appl s 2 rfl (by simp only [zo]; omega) (by decide) (fun q w sp3 s => ?_))
    have s : Ss W (RrA b wl e m r :: (vec cPfx nn ns sp :: vec cRg q (a ++ [p]) sp3 :: Hs)) w := s
    refine WP.step (Zgq s ZiT) ?_
    intro y w h
    cases ht : Zd9 comma r with
    | none =>
     rw [ht] at h h3
     obtain ⟨rfl, s⟩ := h
     refine WP.next ⟨(.ok (false, a ++ [p], r), a ++ [p], sp3), ⟨⟨hj1, hj2⟩, by simp only [zc, zo]; omega, rfl, rfl, by simp only [zc, zo]; omega, h3, ?_⟩, by simp [Ph.mu]⟩
     have s := s.use [1, 1, 0] rfl
     exact s
    | some r2 =>
     rw [ht] at h h3
     obtain ⟨rfl, s⟩ := h
     have hlt := Zey ht
     refine WP.next ⟨(.ok (true, a ++ [p], r2), a ++ [p], sp3), ⟨⟨hj1, hj2⟩, by simp only [zc, zo]; omega, rfl, rfl, by simp only [zc, zo]; omega, h3, ?_⟩, by simp only [Ph.mu]; omega⟩
     have s := s.use [1, 1, 0] rfl
     exact s
end
section
variable {W w : World} {Hs : List HP} {b : Nat} {wl : List ZaG} {e : Int} {m : ZaR} {ws : List Wd} {f : PF}
theorem ZuI {x : Wd} {xs : List Wd} (s : Ss W (RrA b wl e m (x :: xs) :: Hs) w) {t : ByteArray} (ht : x.1 = strI t) : WP (Zbo (some (pt b 0)) t) w (fun r w' => r = true ∧ ∃ q d, RrFs e wl m xs q ∧ 0 < q.2 ∧ wl[q.2 - 1]? = some d ∧ wdOf d = x ∧ Ss W (RrHs b wl m q.1 ++ Hs) w') := by
 unfold Zbo
 refine WP.draw' s (fun w s => WP.nilck (errA s ?_))
 obtain ⟨⟨rr, i⟩, hq, s1⟩ := Zid s
 obtain ⟨h1, h2, h3, h4, h5, h6, h7⟩ := hq
 have h50 := h5.1
 simp only at h1 h2 h3 h4 h5 h6 h7 s1
 obtain ⟨r, hr, hx, hxs, hi⟩ := Zkk h6
 have hr' : wl[(i : Int).toNat]? = some r := by rw [zg]; exact hr
 have hl := (s1.rd_cap (i := 1) rfl).1
 have hw : wrap .i64 ((i : Int) + 1) = ((i + 1 : Nat) : Int) := by
  rw [Zau (by omega) (by omega)]
  omega
 refine WP.step (R := fun y w' => y = false ∧ w = w') (WP.ite (fun h => absurd rfl h) (fun _ => WP.nilck (WP.ld (x := rr.i) s1 0 rfl (o := 1) rfl (ZbC _) (WP.nilck (WP.ld (x := rr.l) s1 0 rfl (o := 0) (by simp [Addr.add]) (Zcs _) (ret ⟨?_, rfl⟩)))))) ?_
 ·rw [h1, hl]
  exact beq_eq_false_iff_ne.2 (by omega)
 rintro _ _ ⟨rfl, rfl⟩
 refine WP.step (R := fun y w' => y = false ∧ w = w') (WP.ite (fun h => by cases h) (fun _ => WP.nilck (WP.ld (x := rr.l) s1 0 rfl (o := 0) (by simp [Addr.add]) (Zcs _) (WP.nilck (WP.ld (x := rr.i) s1 0 rfl (o := 1) rfl (ZbC _) ?_))))) ?_
 ·rw [h1]
  refine WP.rdxp0 s1 1 rfl ZbM (by omega) hr' rfl (Zbq _) (ret ⟨?_, rfl⟩)
  rw [Bool.not_eq_false', zq, Zch, ← ht, ← hx]
  rfl
 rintro _ _ ⟨rfl, rfl⟩
 refine WP.ite (fun h => by cases h) (fun _ => WP.nilck (WP.ld (x := rr.i) s1 0 rfl (o := 1) rfl (ZbC _) (WP.nilck ?_)))
 rw [h1, hw]
 refine WP.st s1 0 rfl (o := 1) rfl (ZfR _ _) (fun w s => ret ⟨rfl, ?_⟩)
 exact ⟨(⟨rr.l, ((i + 1 : Nat) : Int), rr.end_, rr.rule, rr.err, rr.at_⟩, i + 1), r, ⟨rfl, h2, h3, hi, h5, hxs, h7⟩, Nat.succ_pos _, hr, hx, s⟩
theorem ZpA (n : Int) : WP (Zel n) w (fun y w' => y = Zfv n ∧ w = w') := by
 unfold Zel Zfv
 refine WP.step (R := fun y w' => y = decide (n = 6 ∨ n = 17) ∧ w = w') (WP.ite (fun h => ret ⟨(zb (.inl h)).symm, rfl⟩) (fun h => ret ⟨?_, rfl⟩)) (fun y w h => ret h)
 rw [zj, zq, ze]
 exact ⟨.inr, fun h' => h'.elim (fun h' => absurd h' h) id⟩
theorem Zrc (n : Int) : WP (Zep n) w (fun y w' => y = Zgp n ∧ w = w') := by
 unfold Zep Zgp
 refine WP.step (R := fun y w' => y = decide (n = 1 ∨ n = 58) ∧ w = w') (WP.ite (fun h => ret ⟨(zb (.inl h)).symm, rfl⟩) (fun h => ret ⟨?_, rfl⟩)) (fun y w h => ret h)
 rw [zj, zq, ze]
 exact ⟨.inr, fun h' => h'.elim (fun h' => absurd h' h) id⟩
theorem ZgI {e proto : Int} {x : Wd} {xs : List Wd} : Ze3 e proto (x :: xs) = if x.1 = tx "port" then (if Zfv proto = true then Zgw e [] xs else .error (165, x.2)) else .ok ([], x :: xs) := rfl
def Zol (nt : Bool) (ns : List Zag) (X : PE (List ZaH × List Wd)) : PE (Zek × List Wd) := match X with
 | .error f => .error f
 | .ok (ps, r) => .ok (⟨nt, ns, ps⟩, r)
theorem Zpi {j : Zar} {nt : Bool} {ns sp : List Zag} (hj : j.Not = nt) (hp : j.Ports = Sl.nil) (s : Ss W (RrA b wl e m ws :: vec cPfx j.Nets ns sp :: Hs) w) :
  WP (Zac.K2 (some (pt b 0)) j) w (fun r w' => ZsG W Hs b wl e m r w' (Zol nt ns (Ze3 e m.Proto ws))) := by
 unfold Zac.K2
 have pass : ∀ {w : World}, Ss W (RrA b wl e m ws :: vec cPfx j.Nets ns sp :: Hs) w → ZsG W Hs b wl e m j w (.ok (⟨nt, ns, []⟩, ws)) := by
  intro w s
  have s := s.mk0 (A := vec cRg j.Ports [] []) (by rw [hp]; exact Zcv)
  have s : Ss W (vec cPfx j.Nets ns sp :: vec cRg j.Ports [] [] :: (RrA b wl e m ws :: Hs)) w := by
   have s := s.use [2, 0] rfl
   exact s
  exact Zrs hj s
 by_cases hc : ∃ x xs, ws = x :: xs ∧ x.1 = tx "port"
 rotate_left
 ·have ht : Zd9 (tx "port") ws = none := by
   cases ws with
   | nil => rfl
   | cons x xs =>
    rw [show Zd9 (tx "port") (x :: xs) = if x.1 = tx "port" then some xs else none from rfl, if_neg (fun h => hc ⟨x, xs, rfl, h⟩)]
  have hs : Ze3 e m.Proto ws = .ok ([], ws) := by
   cases ws with
   | nil => rfl
   | cons x xs =>
    rw [ZgI, if_neg (fun h => hc ⟨x, xs, rfl, h⟩)]
  rw [hs]
  refine WP.step (Zgq s ZsW) ?_
  intro y w h
  rw [ht] at h
  obtain ⟨rfl, s⟩ := h
  exact WP.ite (fun _ => ret (pass s)) (fun h => absurd (by decide) h)
 obtain ⟨x, xs, rfl, hx⟩ := hc
 clear pass
 have hs : Ze3 e m.Proto (x :: xs) = if Zfv m.Proto = true then Zgw e [] xs else .error (165, x.2) := by
  rw [ZgI, if_pos hx]
 rw [hs]
 refine WP.step (ZuI s (hx.trans ZsW.symm)) ?_
 rintro _ w ⟨rfl, ⟨rr, i⟩, d, hq, hi, hd, hdx, s⟩
 have sA := Zln hq s
 refine WP.ite (fun h => absurd rfl h) (fun _ => WP.nilck (Ztn sA (WP.step (ZpA m.Proto) ?_)))
 rintro _ _ ⟨rfl, rfl⟩
 have sA0 := sA.mk0 (A := vec cRg j.Ports [] []) (by rw [hp]; exact Zcv)
 refine WP.ite (fun h => ?_) (fun h => ?_)
 ·rw [if_neg h]
  obtain ⟨h1, h2, h3, h4, h5, h6, h7⟩ := hq
  have h50 := h5.1
  simp only at h1 h2 h3 h4 h5 h6 h7 s hi hd
  refine WP.draw' s (fun w s => WP.nilck (WP.ld (x := rr.l) s 0 rfl (o := 0) (by simp [Addr.add]) (Zcs _) (WP.nilck (WP.ld (x := rr.i) s 0 rfl (o := 1) rfl (ZbC _) ?_))))
  have hw : wrap .i64 (rr.i - 1) = ((i - 1 : Nat) : Int) := by
   rw [h1, Zau (by omega) (by omega)]
   omega
  rw [hw]
  refine WP.rdxp s 1 rfl ZbM (by omega) (x := d) (by rw [zg]; exact hd) rfl (ZbN _) ?_
  have hat : d.at_ = x.2 := by rw [← hdx]; rfl
  rw [hat]
  refine WP.step (ZdV (Zln (q := (rr, i)) ⟨h1, h2, h3, h4, h5, h6, h7⟩ s) (by decide) x.2) ?_
  intro _ w s
  unfold Zac.K1
  have s := s.mk0 (A := vec cRg j.Ports [] []) (by rw [hp]; exact Zcv)
  refine Zld (W := W) (Hs := Hs) (b := b) (wl := wl) (e := e) (m := m) (X := .error (165, x.2)) (nt := nt) (nn := j.Nets) (ns := ns) (sp := sp) (fun ps r h => by cases h) (fun f h => by cases h; rfl) (.error (165, x.2)) (acc := []) (sp2 := []) ⟨hj, rfl⟩ (by simp) ⟨rfl, ?_⟩
  have s := s.use [2, 0, 0] rfl
  exact s
 ·have h' : Zfv m.Proto = true := Decidable.not_not.1 h
  rw [if_pos h']
  unfold Zac.K1
  refine Zld (W := W) (Hs := Hs) (b := b) (wl := wl) (e := e) (m := m) (X := Zgw e [] xs) (nt := nt) (nn := j.Nets) (ns := ns) (sp := sp) (fun ps r h => by rw [h]; rfl) (fun f h => by rw [h]; rfl) (.ok (true, [], xs)) (acc := []) (sp2 := []) ⟨hj, rfl⟩ (by simp) ⟨rfl, rfl, by simp, rfl, ?_⟩
  have s := sA0.use [2, 0, 0] rfl
  exact s
theorem Zqu {j : Zar} (s : Ss W (RrD b f :: Hs) w) : WP (Zac.K2 (some (pt b 0)) j) w (fun r w' => Ss W (RrD b f :: Hs) w') := by
 unfold Zac.K2
 refine WP.step (Zgr s _) ?_
 rintro _ w ⟨rfl, s⟩
 exact WP.ite (fun _ => ret s) (fun h => absurd (by decide) h)
theorem ZqG {X : PE (List Zag × List Wd)} {Z : PE (Zek × List Wd)} {nt : Bool} (hX : ∀ ns r, X = .ok (ns, r) → Z = Zol nt ns (Ze3 e m.Proto r)) (hE : ∀ f, X = .error f → Z = .error f) {x : Bool × Zar}
  (hx : x.2.Not = nt ∧ x.2.Nets = Sl.nil ∧ x.2.Ports = Sl.nil) (h1 : x.1 = true) (h2 : Zjb e m.Kind [] ws = X) (s : Ss W (RrA b wl e m ws :: Hs) w) :
  WP (Zcn (fun s_ : (Bool × Zar) => Zac.L2 (some (pt b 0)) s_.1 s_.2) x) w (fun r w' => ZsG W Hs b wl e m r w' Z) := by
 have s0 := (s.mk0 (A := vec cPfx x.2.Nets [] []) (by rw [hx.2.1]; exact Zcv)).use [1, 0] rfl
 refine WP.loopG (γ := Ph Zag × List Zag × List Zag) (fun g (x : Bool × Zar) w => (x.2.Not = nt ∧ x.2.Ports = Sl.nil) ∧ g.2.1.length ≤ 17 ∧ (match g.1 with
   | .ok (more, a, ws) => x.1 = more ∧ a = g.2.1 ∧ g.2.1.length ≤ 16 ∧ (if more = true then Zjb e m.Kind g.2.1 ws else .ok (g.2.1, ws)) = X ∧ Ss W (RrA b wl e m ws :: vec cPfx x.2.Nets g.2.1 g.2.2 :: Hs) w
   | .error f => X = .error f ∧ Ss W (RrD b f :: vec cPfx x.2.Nets g.2.1 g.2.2 :: Hs) w)) (fun g _ => g.1.mu) (.ok (true, [], ws), [], []) ⟨⟨hx.1, hx.2.2⟩, by simp, h1, rfl, by simp, h2, s0⟩ ?_
 clear hx s s0 h1 h2
 rintro ⟨g, acc, sp⟩ ⟨more, j⟩ w ⟨⟨hj1, hj2⟩, hacc, h⟩
 simp only at hj1 hj2 hacc h
 show WP (Zac.L2 (some (pt b 0)) more j) w _
 unfold Zac.L2
 cases g with
 | error f =>
  obtain ⟨hXf, s⟩ := h
  refine WP.step (R := fun y w' => y = false ∧ w = w') (WP.ite (fun _ => WP.nilck (errD s (fun h => ret ⟨beq_eq_false_iff_ne.2 h, rfl⟩))) (fun _ => ret ⟨rfl, rfl⟩)) ?_
  rintro _ _ ⟨rfl, rfl⟩
  refine WP.ite (fun h => by cases h) (fun _ => WP.step (Zqu (j := j) s) (fun r w h => WP.done ?_))
  rw [hE f hXf]
  exact (h.use [1] rfl).drop
 | ok g =>
  obtain ⟨mr, a, ws⟩ := g
  obtain ⟨h1, h2, h16, h3, s⟩ := h
  subst h1
  subst h2
  cases more with
  | false =>
   refine WP.step (R := fun y w' => y = false ∧ w = w') (WP.ite (fun h => by cases h) (fun _ => ret ⟨rfl, rfl⟩)) ?_
   rintro _ _ ⟨rfl, rfl⟩
   refine WP.ite (fun h => by cases h) (fun _ => WP.step (Zpi (j := j) hj1 hj2 s) (fun r w h => WP.done ?_))
   rw [hX a ws h3.symm]
   exact h
  | true =>
   refine WP.step (R := fun y w' => y = true ∧ w = w') (WP.ite (fun _ => WP.nilck (errA s (ret ⟨rfl, rfl⟩))) (fun h => absurd rfl h)) ?_
   rintro _ _ ⟨rfl, rfl⟩
   refine WP.ite (fun _ => WP.draw' s (fun w s => ?_)) (fun h => absurd rfl h)
   have hpl := (s.vec_len (i := 1) rfl).1
   rw [hpl]
   refine WP.step (ZuP s a.length) ?_
   intro p w h
   simp only [if_true] at h3
   rw [ZkK] at h3
   cases hr : net1 e m.Kind a.length ws with
   | error f =>
    rw [hr] at h h3
    refine WP.slot' h (fun _ w s => WP.appl s 1 rfl (by simp only [zo]; omega) (by decide) (fun q w sp3 s => ?_))
    have s : Ss W (RrD b f :: (vec cPfx q (a ++ [p]) sp3 :: Hs)) w := s
    refine WP.step (Zgr s _) ?_
    rintro _ w ⟨rfl, s⟩
    exact WP.next ⟨(.error f, a ++ [p], sp3), ⟨⟨hj1, hj2⟩, by simp only [zc, zo]; omega, h3.symm, s⟩, by simp [Ph.mu]⟩
   | ok q =>
    obtain ⟨p', r⟩ := q
    rw [hr] at h h3
    obtain ⟨hp, s⟩ := h
    simp only at hp s h3
    subst hp
    have hlen := Zrr hr
    refine WP.slot' s (fun _ w s => WP.appl s 1 rfl (by simp only [zo]; omega) (by decide) (fun q w sp3 s => ?_))
    have s : Ss W (RrA b wl e m r :: (vec cPfx q (a ++ [p]) sp3 :: Hs)) w := s
    refine WP.step (Zgq s ZiT) ?_
    intro y w h
    cases ht : Zd9 comma r with
    | none =>
     rw [ht] at h h3
     obtain ⟨rfl, s⟩ := h
     exact WP.next ⟨(.ok (false, a ++ [p], r), a ++ [p], sp3), ⟨⟨hj1, hj2⟩, by simp only [zc, zo]; omega, rfl, rfl, by simp only [zc, zo]; omega, h3, s⟩, by simp [Ph.mu]⟩
    | some r2 =>
     rw [ht] at h h3
     obtain ⟨rfl, s⟩ := h
     have hlt := Zey ht
     exact WP.next ⟨(.ok (true, a ++ [p], r2), a ++ [p], sp3), ⟨⟨hj1, hj2⟩, by simp only [zc, zo]; omega, rfl, rfl, by simp only [zc, zo]; omega, h3, s⟩, by simp only [Ph.mu]; omega⟩
theorem Zor (kind proto : Int) : Zma e kind proto ws = match Zd9 (tx "any") ws with
  | some r => Zol false [] (Ze3 e proto r)
  | none => match Zjb e kind [] ((Zd9 (tx "not") ws).getD ws) with
   | .error f => .error f
   | .ok (l, r) => Zol (Zd9 (tx "not") ws).isSome l (Ze3 e proto r) := by
 unfold Zma ZvD Zol
 cases Zd9 (tx "any") ws with
 | some r =>
  simp only
  try (cases Ze3 e proto r <;> rfl)
 | none =>
  simp only
  cases Zjb e kind [] ((Zd9 (tx "not") ws).getD ws) with
  | error f => rfl
  | ok q =>
   simp only
   try (cases Ze3 e proto q.2 <;> rfl)
theorem Zpt (s : Ss W (RrA b wl e m ws :: Hs) w) : WP (Zac (some (pt b 0))) w (fun r w' => ZsG W Hs b wl e m r w' (Zma e m.Kind m.Proto ws)) := by
 unfold Zac
 rw [Zor]
 refine WP.slot' s (fun _ w s => WP.slot' s (fun _ w s => WP.step (Zgq s ZvB) ?_))
 intro y w h
 cases ht : Zd9 (tx "any") ws with
 | some r =>
  rw [ht] at h
  obtain ⟨rfl, s⟩ := h
  refine WP.ite (fun h => absurd rfl h) (fun _ => Zpi (sp := []) rfl rfl ?_)
  exact (s.mk0 (A := vec cPfx Za6.Nets [] []) Zcv).use [1, 0] rfl
 | none =>
  rw [ht] at h
  obtain ⟨rfl, s⟩ := h
  refine WP.ite (fun _ => WP.step (Zgq s ZwV) ?_) (fun h => absurd (by decide) h)
  intro y w h
  have go : ∀ {w : World} {y : Bool} {r : List Wd}, Ss W (RrA b wl e m r :: Hs) w → WP (Zcn (fun s_ : (Bool × Zar) => Zac.L2 (some (pt b 0)) s_.1 s_.2) (true, (⟨y, Za6.Nets, Za6.Ports⟩ : Zar))) w (fun r' w' => ZsG W Hs b wl e m r' w' (match Zjb e m.Kind [] r with
   | .error f => .error f
   | .ok (l, r) => Zol y l (Ze3 e m.Proto r))) := by
   intro w y r s
   exact ZqG (X := Zjb e m.Kind [] r) (nt := y) (fun ns r h => by rw [h]) (fun f h => by rw [h]) ⟨rfl, rfl, rfl⟩ rfl rfl s
  cases hn : Zd9 (tx "not") ws with
  | some r =>
   rw [hn] at h
   obtain ⟨rfl, s⟩ := h
   exact go s
  | none =>
   rw [hn] at h
   obtain ⟨rfl, s⟩ := h
   exact go s
end
theorem Zka (a : Nat) : BitVec.ofInt 64 (a : Int) = BitVec.ofNat 64 a := by
 apply BitVec.eq_of_toNat_eq
 simp [BitVec.toNat_ofInt, BitVec.toNat_ofNat]
theorem Zuk {a b : Nat} (ha : a < 256) (hb : b < 256) : bor .i64 (a : Int) (b : Int) = ((a ||| b : Nat) : Int) := by
 have h : a ||| b < 2 ^ 8 := Nat.or_lt_two_pow ha hb
 unfold bor
 rw [show IntKind.i64.bits = 64 from rfl, Zka, Zka, BitVec.toNat_or, BitVec.toNat_ofNat, BitVec.toNat_ofNat, Nat.mod_eq_of_lt (by omega), Nat.mod_eq_of_lt (by omega), Zau (by omega) (by omega)]
theorem Zvr {a b : Nat} (ha : a < 256) (hb : b < 256) : band .i64 (a : Int) (b : Int) = ((a &&& b : Nat) : Int) := by
 have h : a &&& b ≤ a := Nat.and_le_left
 unfold band
 rw [show IntKind.i64.bits = 64 from rfl, Zka, Zka, BitVec.toNat_and, BitVec.toNat_ofNat, BitVec.toNat_ofNat, Nat.mod_eq_of_lt (by omega), Nat.mod_eq_of_lt (by omega), Zau (by omega) (by omega)]
theorem Zvq : ∀ n : _root_.Fin 256, band .i64 (n.val : Int) 1 = ((n.val % 2 : Nat) : Int) := by decide +kernel
theorem ZgR (a k : Nat) : hasB (a : Int) k = a.testBit k := by
 unfold hasB
 rw [zj, ze, Nat.testBit_eq_decide_div_mod_eq, ze]
 have : ((2 : Int) ^ k) = ((2 ^ k : Nat) : Int) := by push_cast; rfl
 rw [this, ← Int.natCast_ediv]
 omega
theorem ZvO {a : Nat} (ha : a < 256) {k : Nat} (hk : k < 8) : (band .i64 (Int.fdiv (a : Int) (2 ^ min (Int.toNat (wrap .u64 (k : Int))) 64)) 1 = 1) ↔ hasB (a : Int) k = true := by
 have hw : wrap .u64 (k : Int) = (k : Int) := ZgH (by omega) (by omega)
 rw [hw, zg, show min k 64 = k by omega]
 have e : Int.fdiv (a : Int) (2 ^ k) = ((a / 2 ^ k : Nat) : Int) := by
  have : ((2 : Int) ^ k) = ((2 ^ k : Nat) : Int) := by push_cast; rfl
  rw [this, Int.fdiv_eq_ediv_of_nonneg _ (Int.natCast_nonneg _), Int.natCast_ediv]
 have hlt : a / 2 ^ k < 256 := Nat.lt_of_le_of_lt (Nat.div_le_self ..) ha
 have hb := Zvq ⟨a / 2 ^ k, hlt⟩
 simp only at hb
 rw [e, hb, ZgR, Nat.testBit_eq_decide_div_mod_eq, ze]
 omega
theorem ZvN {s c : Int} (hs : 0 ≤ s ∧ s ≤ 255) (hc : 0 ≤ c ∧ c ≤ 255) {k : Nat} (hk : k < 8) : (band .i64 (Int.fdiv (bor .i64 s c) (2 ^ min (Int.toNat (wrap .u64 (k : Int))) 64)) 1 = 1) ↔ (hasB s k || hasB c k) = true := by
 obtain ⟨a, rfl⟩ : ∃ a : Nat, s = a := ⟨s.toNat, by omega⟩
 obtain ⟨b, rfl⟩ : ∃ b : Nat, c = b := ⟨c.toNat, by omega⟩
 rw [Zuk (by omega) (by omega), ZvO (Nat.or_lt_two_pow (n := 8) (by omega) (by omega)) hk, ZgR, ZgR, ZgR, Nat.testBit_or]
theorem ZoV {s : Int} (hs : 0 ≤ s ∧ s ≤ 255) {k : Nat} (hk : k < 8) : (band .i64 (Int.fdiv s (2 ^ min (Int.toNat (wrap .u64 (k : Int))) 64)) 1 = 1) ↔ hasB s k = true := by
 obtain ⟨a, rfl⟩ : ∃ a : Nat, s = a := ⟨s.toNat, by omega⟩
 exact ZvO (by omega) hk
theorem ZwH : ∀ a : _root_.Fin 256, ∀ k : _root_.Fin 8, hasB (a.val : Int) k.val = false → bor .i64 (a.val : Int) (wrap .i64 (1 * 2 ^ min (Int.toNat (wrap .u64 (k.val : Int))) 64)) = (a.val : Int) + 2 ^ k.val ∧ (a.val : Int) + 2 ^ k.val ≤ 255 := by decide +kernel
theorem ZkX {s : Int} (hs : 0 ≤ s ∧ s ≤ 255) {k : Nat} (hk : k < 8) (h : hasB s k = false) : bor .i64 s (wrap .i64 (1 * 2 ^ min (Int.toNat (wrap .u64 (k : Int))) 64)) = s + 2 ^ k ∧ 0 ≤ s + 2 ^ k ∧ s + 2 ^ k ≤ 255 := by
 obtain ⟨a, rfl⟩ : ∃ a : Nat, s = a := ⟨s.toNat, by omega⟩
 obtain ⟨h1, h2⟩ := ZwH ⟨a, by omega⟩ ⟨k, hk⟩ h
 simp only at h1 h2
 have : (0 : Int) < 2 ^ k := Int.pow_pos (by omega)
 exact ⟨h1, by omega, h2⟩
theorem Zvp {s c : Int} (hs : 0 ≤ s ∧ s ≤ 255) (hc : 0 ≤ c ∧ c ≤ 255) : bor .i64 s c ≠ 0 ↔ (s ≠ 0 ∨ c ≠ 0) := by
 obtain ⟨a, rfl⟩ : ∃ a : Nat, s = a := ⟨s.toNat, by omega⟩
 obtain ⟨b, rfl⟩ : ∃ b : Nat, c = b := ⟨c.toNat, by omega⟩
 rw [Zuk (by omega) (by omega)]
 have : a ||| b = 0 ↔ a = 0 ∧ b = 0 := Nat.or_eq_zero_iff
 omega
theorem ZsD {s c : Int} (hs : 0 ≤ s ∧ s ≤ 255) (hc : 0 ≤ c ∧ c ≤ 255) : band .i64 s c = 0 ↔ Zji s c = false := by
 obtain ⟨a, rfl⟩ : ∃ a : Nat, s = a := ⟨s.toNat, by omega⟩
 obtain ⟨b, rfl⟩ : ∃ b : Nat, c = b := ⟨c.toNat, by omega⟩
 rw [Zvr (by omega) (by omega)]
 unfold Zji
 rw [List.any_eq_false]
 constructor
 ·intro h k _
  have h0 : a &&& b = 0 := by omega
  rw [ZgR, ZgR, ← Nat.testBit_and, h0]
  simp
 ·intro h
  have : a &&& b = 0 := by
   refine Nat.eq_of_testBit_eq fun k => ?_
   rw [Nat.zero_testBit]
   by_cases hk : k < 8
   ·have := h k (List.mem_range.2 hk)
    rw [ZgR, ZgR, ← Nat.testBit_and] at this
    simpa using this
   ·have hle : a &&& b ≤ a := Nat.and_le_left
    refine Nat.testBit_lt_two_pow (Nat.lt_of_lt_of_le (show a &&& b < 2 ^ 8 by omega) (Nat.pow_le_pow_right (by omega) (by omega)))
  rw [this]
  rfl
def Zho : List ByteArray := ZhO.map bstr
theorem Zvh : Zho.map strI = ZhO := by decide +kernel
theorem Zqn : strI Zr7 = [33] := by decide +kernel
theorem tx_p : strI str8 = [112] := by decide +kernel
def ZpZ (e s c : Int) : List Wd → PE ((Int × Int) × List Wd)
 | [] => .error (161, e)
 | w :: ws => if w.1 = comma then .error (160, w.2) else match (Zif w.1).2 with
  | none => .error (160, w.2)
  | some k => if (hasB s k || hasB c k) = true then .error (165, w.2) else .ok ((if (Zif w.1).1 = true then (s, c + 2 ^ k) else (s + 2 ^ k, c)), ws)
theorem Zhp {e s c : Int} {w : Wd} {ws : List Wd} : ZpZ e s c (w :: ws) = if w.1 = comma then .error (160, w.2) else match (Zif w.1).2 with
  | none => .error (160, w.2)
  | some k => if (hasB s k || hasB c k) = true then .error (165, w.2) else .ok ((if (Zif w.1).1 = true then (s, c + 2 ^ k) else (s + 2 ^ k, c)), ws) := rfl
theorem ZqU {e s c : Int} {w : Wd} {ws : List Wd} : Zge e s c (w :: ws) = if w.1 = comma then .error (160, w.2) else match (Zif w.1).2 with
  | none => .error (160, w.2)
  | some k => if (hasB s k || hasB c k) = true then .error (165, w.2) else match ws with
   | [] => .ok ((if (Zif w.1).1 = true then (s, c + 2 ^ k) else (s + 2 ^ k, c)), [])
   | d :: ws => if d.1 = comma then (if (Zif w.1).1 = true then Zge e s (c + 2 ^ k) ws else Zge e (s + 2 ^ k) c ws)
    else .ok ((if (Zif w.1).1 = true then (s, c + 2 ^ k) else (s + 2 ^ k, c)), d :: ws) := by
 rw [Zge]
 try rfl
theorem ZjL {e s c : Int} {ws : List Wd} : Zge e s c ws = match ZpZ e s c ws with
  | .error f => .error f
  | .ok (p, r) => match Zd9 comma r with
   | none => .ok (p, r)
   | some r => Zge e p.1 p.2 r := by
 cases ws with
 | nil => rfl
 | cons w ws =>
  rw [ZqU, Zhp]
  by_cases h : w.1 = comma
  ·rw [if_pos h, if_pos h]
  ·rw [if_neg h, if_neg h]
   cases (Zif w.1).2 with
   | none => rfl
   | some k =>
    simp only
    by_cases h2 : (hasB s k || hasB c k) = true
    ·rw [if_pos h2, if_pos h2]
    ·rw [if_neg h2, if_neg h2]
     cases ws with
     | nil => rfl
     | cons d ws =>
      simp only [Zd9]
      by_cases h3 : d.1 = comma
      ·rw [if_pos h3, if_pos h3]
       cases (Zif w.1).1 <;> rfl
      ·rw [if_neg h3, if_neg h3]
theorem ZmI {e s c : Int} {ws r : List Wd} {p : Int × Int} (h : ZpZ e s c ws = .ok (p, r)) : r.length < ws.length := by
 cases ws with
 | nil => cases h
 | cons w ws =>
  rw [Zhp] at h
  split at h
  ·cases h
  ·split at h
   ·cases h
   ·split at h
    ·cases h
    ·cases h
     simp
section
variable {W w : World} {Hs : List HP}
theorem ZmM (t p : ByteArray) {q : Int} (hp : strI p = [q]) : WP (Zcp t p) w (fun r w' => (if (strI t).head? = some q then r.2 = true ∧ strI r.1 = (strI t).tail else r = (t, false)) ∧ w = w') := by
 have hn : p.size = 1 := by
  rw [← ZbI, hp]
  rfl
 have hl := ZbI t
 have hh : ((strI t).take p.size = strI p) ↔ (strI t).head? = some q := by
  rw [hn, hp]
  cases strI t with
  | nil => simp
  | cons a l => simp
 unfold Zcp ZcN
 refine WP.step (R := fun r w' => (if (strI t).head? = some q then r.2 = true ∧ strI r.1 = (strI t).tail else r = (t, false)) ∧ w = w') ?_ (fun r w h => ret h)
 refine WP.step (R := fun r w' => r = decide ((strI t).head? = some q) ∧ w = w') ?_ ?_
 ·unfold Zb1
  refine WP.step (R := fun r w' => r = decide ((strI t).head? = some q) ∧ w = w') (WP.ite (fun h => WP.chk ⟨by omega, by omega, h⟩ (ret ⟨?_, rfl⟩)) (fun h => ret ⟨?_, rfl⟩)) (fun r w h => ret h)
  ·rw [zj, zq, ze, Zch, Zdx, ← hh]
   simp
  ·have : strI t = [] := List.length_eq_zero_iff.1 (by omega)
   rw [this]
   rfl
 rintro _ _ ⟨rfl, rfl⟩
 by_cases hq : (strI t).head? = some q
 ·simp only [if_pos hq]
  refine WP.ite (fun h => absurd (zb hq) h) (fun _ => WP.chk ⟨by omega, ?_, by omega⟩ (ret ⟨⟨rfl, ?_⟩, rfl⟩))
  ·cases e : strI t with
   | nil => rw [e] at hq; cases hq
   | cons a l =>
    rw [e] at hl
    simp at hl
    omega
  ·simp only
   rw [Zdx, hn]
   simp only [zg, show ((1 : Nat) : Int).toNat = 1 from rfl]
   rw [zC (by rw [zw]; omega), List.drop_one]
 ·simp only [if_neg hq]
  exact WP.ite (fun _ => ret ⟨rfl, rfl⟩) (fun h => absurd (by simp [hq]) h)
variable {b : Nat} {wl : List ZaG} {e : Int} {m : ZaR} {ws : List Wd} {f : PF}
theorem Zti (s : Ss W (RrA b wl e m ws :: Hs) w) : WP (Zda (some (pt b 0))) w (fun r w' => ResR W Hs b wl e m r w' (Znu e ws)) := by
 unfold Zda
 refine WP.step (Zix s) ?_
 intro r w h
 have dead : ∀ {w : World} {f : PF}, Ss W (RrD b f :: Hs) w → WP (slot 90 >>= fun b2 => Zcp r.s str8 >>= fun r3 => Zbg r3.1 0 7 >>= fun r4 => nilck (some (pt b 0)) >>= fun p5 => ld (cI .i64) (Addr.add p5 19) >>= fun x6 =>
   (if x6 = 0 then (if ¬ (r3.2 = true) then pure true else pure (!r4.2)) >>= fun y7 => pure y7 else pure false) >>= fun y8 => if y8 = true then Za0 (some (pt b 0)) 162 r.at_ >>= fun r10 => pure r4.1 else pure r4.1) w (fun _ w' => Ss W (RrD b f :: Hs) w') := by
  intro w f s
  refine WP.slot' s (fun _ w s => WP.step (ZmM r.s _ tx_p) ?_)
  rintro q _ ⟨-, rfl⟩
  refine WP.step (Zli q.1 0 7) ?_
  rintro x _ ⟨-, -, rfl⟩
  refine WP.nilck (errD s (fun h => ?_))
  refine WP.step (R := fun y w' => y = false ∧ w = w') (WP.ite (fun h' => absurd h' h) (fun _ => ret ⟨rfl, rfl⟩)) ?_
  rintro _ _ ⟨rfl, rfl⟩
  exact WP.ite (fun h => by cases h) (fun _ => ret s)
 cases ws with
 | nil => exact dead h.2
 | cons x xs =>
  obtain ⟨hx, s1⟩ := h
  clear s
  have s := s1
  clear s1
  subst hx
  rw [show Znu e (wdOf r :: xs) = if (wdOf r).1 = comma then .error (160, (wdOf r).2) else match (if (wdOf r).1.head? = some 112 then numR (wdOf r).1.tail 0 7 else none) with
   | none => .error (162, (wdOf r).2)
   | some n => .ok (n, xs) from rfl]
  by_cases hc : (wdOf r).1 = comma
  ·rw [if_pos hc] at s ⊢
   exact dead s
  rw [if_neg hc] at s ⊢
  have hr : (wdOf r).1 = strI r.s := rfl
  rw [hr]
  refine WP.slot' s (fun _ w s => WP.step (ZmM r.s _ tx_p) ?_)
  rintro q _ ⟨hq, rfl⟩
  refine WP.step (Zli q.1 0 7) ?_
  rintro x _ ⟨a1, a2, rfl⟩
  refine WP.nilck (errA s ?_)
  have bad : ∀ {w : World}, Ss W (RrA b wl e m xs :: Hs) w → WP (Za0 (some (pt b 0)) 162 r.at_ >>= fun _ => pure x.1) w (fun y w' => ResR W Hs b wl e m y w' (.error (162, r.at_))) := by
   intro w s
   refine WP.step (ZdV s (by decide) r.at_) ?_
   intro _ w s
   exact ret s
  by_cases hh : (strI r.s).head? = some 112
  ·rw [if_pos hh] at hq ⊢
   obtain ⟨q1, q2⟩ := hq
   rw [q2] at a1 a2
   refine WP.step (R := fun y w' => y = !x.2 ∧ w = w') (WP.ite (fun _ => WP.step (R := fun y w' => y = !x.2 ∧ w = w') (WP.ite (fun h => absurd q1 h) (fun _ => ret ⟨rfl, rfl⟩)) (fun y w h => ret h)) (fun h => absurd rfl h)) ?_
   rintro _ _ ⟨rfl, rfl⟩
   rw [a1]
   cases hn : numR (strI r.s).tail 0 7 with
   | none => exact WP.ite (fun _ => bad s) (fun h => absurd rfl h)
   | some v => exact WP.ite (fun h => by cases h) (fun _ => ret ⟨a2 v hn, s⟩)
  ·rw [if_neg hh] at hq ⊢
   refine WP.step (R := fun y w' => y = true ∧ w = w') (WP.ite (fun _ => WP.step (R := fun y w' => y = true ∧ w = w') (WP.ite (fun _ => ret ⟨rfl, rfl⟩) (fun h => absurd (by rw [hq]; exact Bool.false_ne_true) h)) (fun y w h => ret h)) (fun h => absurd rfl h)) ?_
   rintro _ _ ⟨rfl, rfl⟩
   exact WP.ite (fun _ => bad s) (fun h => absurd rfl h)
def Zot (m : ZaR) (p : Int × Int) : ZaR := { m with Set := p.1, Clear := p.2 }
def Zuz (m : ZaR) (X : PE ((Int × Int) × List Wd)) : PE (ZaR × List Wd) := match X with
 | .error f => .error f
 | .ok (p, r) => .ok (Zot m p, r)
def B255 (p : Int × Int) : Prop := (0 ≤ p.1 ∧ p.1 ≤ 255) ∧ (0 ≤ p.2 ∧ p.2 ≤ 255)
theorem Zt2 {s c : Int} {ws r : List Wd} {p : Int × Int} (hb : B255 (s, c)) (h : ZpZ e s c ws = .ok (p, r)) : B255 p := by
 cases ws with
 | nil => cases h
 | cons w ws =>
  rw [Zhp] at h
  split at h
  ·cases h
  ·split at h
   ·cases h
   ·rename_i k hk
    split at h
    ·cases h
    ·rename_i hn
     have hk8 : k < 8 := by
      unfold Zif at hk
      split at hk
      ·exact ZhL hk
      ·exact ZhL hk
     have hn1 : hasB s k = false := by
      cases hh : hasB s k with
      | false => rfl
      | true => exact absurd (by simp [hh]) hn
     have hn2 : hasB c k = false := by
      cases hh : hasB c k with
      | false => rfl
      | true => exact absurd (by simp [hh]) hn
     have a1 := ZkX hb.1 hk8 hn1
     have a2 := ZkX hb.2 hk8 hn2
     cases h
     split
     ·exact ⟨hb.1, a2.2⟩
     ·exact ⟨a1.2, hb.2⟩
theorem ZgS (s : Ss W (RrD b f :: Hs) w) : WP (Zap.K1 (some (pt b 0))) w (fun r w' => r = LS.next false ∧ Ss W (RrD b f :: Hs) w') := by
 unfold Zap.K1
 refine WP.step (Zgr s _) ?_
 rintro _ w ⟨rfl, s⟩
 exact ret ⟨rfl, s⟩
def FlR (W : World) (Hs : List HP) (b : Nat) (wl : List ZaG) (e : Int) (m : ZaR) (r : LS Bool Unit) (w : World) : PE ((Int × Int) × List Wd) → Prop
 | .error f => r = LS.next false ∧ Ss W (RrD b f :: Hs) w
 | .ok (p, ws) => match Zd9 comma ws with
  | none => r = LS.next false ∧ Ss W (RrA b wl e (Zot m p) ws :: Hs) w
  | some ws => r = LS.next true ∧ Ss W (RrA b wl e (Zot m p) ws :: Hs) w
theorem Zn9 {p : Int × Int} (s : Ss W (RrA b wl e (Zot m p) ws :: Hs) w) : WP (Zap.K1 (some (pt b 0))) w (fun r w' => FlR W Hs b wl e m r w' (.ok (p, ws))) := by
 unfold Zap.K1
 refine WP.step (Zgq s ZiT) ?_
 intro y w h
 refine ret ?_
 cases ht : Zd9 comma ws with
 | none =>
  rw [ht] at h
  obtain ⟨rfl, s⟩ := h
  simp only [FlR, ht]
  exact ⟨trivial, s⟩
 | some r =>
  rw [ht] at h
  obtain ⟨rfl, s⟩ := h
  simp only [FlR, ht]
  exact ⟨trivial, s⟩
theorem ZpY {p : Int × Int} (hb : B255 p) (fi : Nat) (ef : nth Hs fi = some (NmP 2 Zho)) (s : Ss W (RrA b wl e (Zot m p) ws :: Hs) w) : WP (Zap.L1 (some (pt b 0)) true) w (fun r w' => FlR W Hs b wl e m r w' (ZpZ e p.1 p.2 ws)) := by
 unfold Zap.L1
 refine WP.step (R := fun y w' => y = true ∧ w = w') (WP.ite (fun _ => WP.nilck (errA s (ret ⟨rfl, rfl⟩))) (fun h => absurd rfl h)) ?_
 rintro _ _ ⟨rfl, rfl⟩
 refine WP.ite (fun _ => WP.step (Zix s) ?_) (fun h => absurd rfl h)
 intro r w h
 cases ws with
 | nil =>
  obtain ⟨hz, s⟩ := h
  refine WP.slot' s (fun _ w s => WP.step (ZmM r.s _ Zqn) ?_)
  rintro q _ ⟨-, rfl⟩
  refine ZiV s (fi + 1) ef (by decide) (WP.nilck (errD s (fun h => WP.ite (fun _ => ZgS s) (fun h' => absurd h h'))))
 | cons x xs =>
  obtain ⟨hx, s1⟩ := h
  clear s
  have s := s1
  clear s1
  subst hx
  rw [Zhp]
  have hr : (wdOf r).1 = strI r.s := rfl
  by_cases hc : (wdOf r).1 = comma
  ·rw [if_pos hc] at s ⊢
   refine WP.slot' s (fun _ w s => WP.step (ZmM r.s _ Zqn) ?_)
   rintro q _ ⟨-, rfl⟩
   refine ZiV s (fi + 1) ef (by decide) (WP.nilck (errD s (fun h => WP.ite (fun _ => ZgS s) (fun h' => absurd h h'))))
  rw [if_neg hc] at s ⊢
  rw [hr]
  refine WP.slot' s (fun _ w s => WP.step (ZmM r.s _ Zqn) ?_)
  rintro q _ ⟨hq, rfl⟩
  have hfr : Zif (strI r.s) = (q.2, idxT ZhO (strI q.1)) := by
   unfold Zif
   by_cases hh : (strI r.s).head? = some 33
   ·rw [if_pos hh] at hq ⊢
    rw [hq.1, hq.2]
   ·rw [if_neg hh] at hq ⊢
    rw [hq]
  refine ZiV s (fi + 1) ef (by decide) ?_
  rw [Zvh, hfr]
  unfold idxI
  simp only
  cases hk : idxT ZhO (strI q.1) with
  | none =>
   refine WP.nilck (errA s (WP.ite (fun h => absurd rfl h) (fun _ => WP.ite (fun _ => WP.step (ZdV s (by decide) r.at_) ?_) (fun h => absurd (by decide) h))))
   intro _ w s
   exact ZgS s
  | some k =>
   have hk8 : k < 8 := ZhL hk
   have hu : (0 : Int) ≤ wrap .u64 (k : Int) := by rw [ZgH (by omega) (by omega)]; omega
   dsimp only
   refine WP.nilck (errA s (WP.ite (fun h => absurd rfl h) (fun _ => WP.ite (fun h => absurd h (by omega)) (fun _ => WP.draw' s (fun w s => WP.nilck (ldA (o := 12) (v := p.1) s (fun r => r.Set) (fun r => ZcD r) (fun r h => h.2.2.2.2.2.2.1) (WP.nilck (ldA (o := 13) (v := p.2) s (fun r => r.Clear) (fun r => Zca r) (fun r h => h.2.2.2.2.2.2.2.1) ?_))))))))
   refine WP.chk hu (WP.ite (fun h => ?_) (fun h => ?_))
   ·have h' := (ZvN hb.1 hb.2 hk8).1 h
    rw [if_pos h']
    refine WP.step (ZdV s (by decide) r.at_) ?_
    intro _ w s
    exact ZgS s
   ·have h' : ¬ (hasB p.1 k || hasB p.2 k) = true := fun h' => h ((ZvN hb.1 hb.2 hk8).2 h')
    rw [if_neg h']
    have hn1 : hasB p.1 k = false := by
     cases hh : hasB p.1 k with
     | false => rfl
     | true => exact absurd (by simp [hh]) h'
    have hn2 : hasB p.2 k = false := by
     cases hh : hasB p.2 k with
     | false => rfl
     | true => exact absurd (by simp [hh]) h'
    refine WP.ite (fun h2 => ?_) (fun h2 => ?_)
    ·rw [if_pos h2]
     refine WP.nilck (ldA (o := 13) (v := p.2) s (fun r => r.Clear) (fun r => Zca r) (fun r h => h.2.2.2.2.2.2.2.1) (WP.chk hu (WP.nilck ?_)))
     rw [(ZkX hb.2 hk8 hn2).1]
     exact setA (o := 13) (m' := Zot m (p.1, p.2 + 2 ^ k)) s (fun r => { r with Clear := p.2 + 2 ^ k }) (fun r => ZkZ r _) (fun r h => ⟨h.1, h.2.1, h.2.2.1, h.2.2.2.1, h.2.2.2.2.1, h.2.2.2.2.2.1, h.2.2.2.2.2.2.1, rfl, h.2.2.2.2.2.2.2.2⟩) (fun r => ⟨rfl, rfl⟩) ⟨rfl, rfl⟩ (fun w s => Zn9 s)
    ·rw [if_neg h2]
     refine WP.nilck (ldA (o := 12) (v := p.1) s (fun r => r.Set) (fun r => ZcD r) (fun r h => h.2.2.2.2.2.2.1) (WP.chk hu (WP.nilck ?_)))
     rw [(ZkX hb.1 hk8 hn1).1]
     exact setA (o := 12) (m' := Zot m (p.1 + 2 ^ k, p.2)) s (fun r => { r with Set := p.1 + 2 ^ k }) (fun r => Zm0 r _) (fun r h => ⟨h.1, h.2.1, h.2.2.1, h.2.2.2.1, h.2.2.2.2.1, h.2.2.2.2.2.1, rfl, h.2.2.2.2.2.2.2⟩) (fun r => ⟨rfl, rfl⟩) ⟨rfl, rfl⟩ (fun w s => Zn9 s)
theorem Zsg {p : Int × Int} (hb : B255 p) (fi : Nat) (ef : nth Hs fi = some (NmP 2 Zho)) (s : Ss W (RrA b wl e (Zot m p) ws :: Hs) w) : WP (Zap (some (pt b 0))) w (fun _ w' => RulR W Hs b wl e w' (Zuz m (Zge e p.1 p.2 ws))) := by
 unfold Zap
 generalize hX : Zge e p.1 p.2 ws = X
 refine WP.loopG (γ := PE (Bool × (Int × Int) × List Wd)) (fun g (x : Bool) w => match g with
   | .ok (more, p, ws) => x = more ∧ B255 p ∧ (if more = true then Zge e p.1 p.2 ws else .ok (p, ws)) = X ∧ Ss W (RrA b wl e (Zot m p) ws :: Hs) w
   | .error f => x = false ∧ X = .error f ∧ Ss W (RrD b f :: Hs) w) (fun g _ => match g with
   | .ok (true, _, ws) => ws.length + 1
   | _ => 0) (.ok (true, p, ws)) ⟨rfl, hb, hX, s⟩ ?_
 clear s hb hX
 rintro g x w h
 show WP (Zap.L1 (some (pt b 0)) x) w _
 have stop : ∀ {w : World} {Q : LS Bool Unit → World → Prop}, Q (LS.done ()) w → WP (Zap.L1 (some (pt b 0)) false) w Q := by
  intro w Q h
  unfold Zap.L1
  refine WP.step (R := fun y w' => y = false ∧ w = w') (WP.ite (fun h => by cases h) (fun _ => ret ⟨rfl, rfl⟩)) ?_
  rintro _ _ ⟨rfl, rfl⟩
  exact WP.ite (fun h => by cases h) (fun _ => ret h)
 cases g with
 | error f =>
  obtain ⟨rfl, hXf, s⟩ := h
  refine stop ?_
  show RulR W Hs b wl e w (Zuz m X)
  rw [hXf]
  exact s
 | ok g =>
  obtain ⟨more, p, ws⟩ := g
  obtain ⟨rfl, hb, hX, s⟩ := h
  cases x with
  | false =>
   refine stop ?_
   show RulR W Hs b wl e w (Zuz m X)
   rw [← hX]
   exact s
  | true =>
   refine (ZpY hb fi ef s).mono ?_
   intro r w h
   simp only [if_true] at hX
   rw [ZjL] at hX
   cases hf : ZpZ e p.1 p.2 ws with
   | error f =>
    rw [hf] at h hX
    obtain ⟨rfl, s⟩ := h
    exact ⟨.error f, ⟨rfl, hX.symm, s⟩, by simp⟩
   | ok q =>
    obtain ⟨p', r'⟩ := q
    have hlen := ZmI hf
    have hb' := Zt2 hb hf
    rw [hf] at h hX
    simp only [FlR] at h hX
    cases ht : Zd9 comma r' with
    | none =>
     rw [ht] at h hX
     obtain ⟨rfl, s⟩ := h
     exact ⟨.ok (false, p', r'), ⟨rfl, hb', hX, s⟩, by simp⟩
    | some r2 =>
     rw [ht] at h hX
     obtain ⟨rfl, s⟩ := h
     have := Zey ht
     exact ⟨.ok (true, p', r2), ⟨rfl, hb', hX, s⟩, by simp only; omega⟩
end
theorem ZxJ : strI Zv3 = tx "on" := by decide +kernel
theorem ZwS : strI Zv2 = tx "vid" := by decide +kernel
theorem ZvV : strI Zqs = tx "from" := by decide +kernel
theorem ZxI : strI Zta = tx "to" := by decide +kernel
theorem Zrd : strI Zqr = tx "flags" := by decide +kernel
theorem ZsV : strI Zqq = tx "type" := by decide +kernel
theorem ZsX : strI Zv1 = tx "pieces" := by decide +kernel
section
variable {W w : World} {Hs : List HP} {b : Nat} {wl : List ZaG} {e : Int} {m : ZaR} {ws : List Wd} {f : PF}
theorem Zv6 {β : Type} {sd : Zar} {sm : Zek} {g : Unit → M β} {Q : β → World → Prop} (s : Ss W (ZjW sd sm :: RrA b wl e m ws :: Hs) w) (k : ∀ w, Ss W (RrA b wl e { m with From := sm } ws :: Hs) w → WP (g ()) w Q) : WP (st ZaM (Addr.add (Addr.add (pt b 0) 3) 6) sd >>= g) w Q := by
 obtain ⟨⟨rr, i⟩, hq, s⟩ := Zid (s.use [1] (s := [_]) (r := _ :: Hs) rfl)
 obtain ⟨h1, h2, h3, h4, h5, h6, h7⟩ := hq
 refine WP.st s 0 rfl (o := 3 + 6) rfl ((ZbX rr).trans' (ZeC rr.rule sd) (Zeb rr _)) (fun w s => k w ?_)
 refine Zln (q := (⟨rr.l, rr.i, rr.end_, { rr.rule with From := sd }, rr.err, rr.at_⟩, i)) ⟨h1, h2, h3, h4, h5, h6, h7⟩ ?_
 have s := (s.use [2] rfl).drop
 have s := s.use [0, 0, 1] rfl
 exact s
theorem ZxN {β : Type} {sd : Zar} {sm : Zek} {g : Unit → M β} {Q : β → World → Prop} (s : Ss W (ZjW sd sm :: RrA b wl e m ws :: Hs) w) (k : ∀ w, Ss W (RrA b wl e { m with To := sm } ws :: Hs) w → WP (g ()) w Q) : WP (st ZaM (Addr.add (Addr.add (pt b 0) 3) 9) sd >>= g) w Q := by
 obtain ⟨⟨rr, i⟩, hq, s⟩ := Zid (s.use [1] (s := [_]) (r := _ :: Hs) rfl)
 obtain ⟨h1, h2, h3, h4, h5, h6, h7⟩ := hq
 refine WP.st s 0 rfl (o := 3 + 9) rfl ((ZbX rr).trans' (Ze7 rr.rule sd) (Zeb rr _)) (fun w s => k w ?_)
 refine Zln (q := (⟨rr.l, rr.i, rr.end_, { rr.rule with To := sd }, rr.err, rr.at_⟩, i)) ⟨h1, h2, h3, h4, h5, h6, h7⟩ ?_
 have s := (s.use [3] rfl).drop
 exact s
def ClR (W : World) (Hs : List HP) (b : Nat) (wl : List ZaG) (e : Int) (m : ZaR) (ws : List Wd) (r : Bool) (w : World) : Option (PE (ZaR × List Wd)) → Prop
 | none => r = false ∧ Ss W (RrA b wl e m ws :: Hs) w
 | some X => r = true ∧ RulR W Hs b wl e w X
theorem ZqA (hb : B255 (m.Set, m.Clear)) (fi : Nat) (ef : nth Hs fi = some (NmP 2 Zho)) (t : ByteArray) (s : Ss W (RrA b wl e m ws :: Hs) w) : WP (ZaB (some (pt b 0)) t) w (fun r w' => ClR W Hs b wl e m ws r w' (ZfQ e (strI t) m ws)) := by
 unfold ZaB ZfQ
 have k1 : t.toList = (Zv3).toList ↔ strI t = tx "on" := by rw [Zch, ZxJ]
 have k2 : t.toList = (Zv2).toList ↔ strI t = tx "vid" := by rw [Zch, ZwS]
 have k3 : t.toList = (Zqs).toList ↔ strI t = tx "from" := by rw [Zch, ZvV]
 have k4 : t.toList = (Zta).toList ↔ strI t = tx "to" := by rw [Zch, ZxI]
 have k5 : t.toList = (Zqr).toList ↔ strI t = tx "flags" := by rw [Zch, Zrd]
 have k6 : t.toList = (Zqq).toList ↔ strI t = tx "type" := by rw [Zch, ZsV]
 have k7 : t.toList = (Zv1).toList ↔ strI t = tx "pieces" := by rw [Zch, ZsX]
 by_cases h1 : strI t = tx "on"
 ·rw [if_pos h1]
  refine WP.ite (fun _ => WP.step (Zti s) ?_) (fun h => absurd (k1.2 h1) h)
  intro n w h
  cases hp : Znu e ws with
  | error f =>
   rw [hp] at h
   exact WP.nilck (setD (o := 4) h (fun r => { r with In := wrap .i64 (n + 1) }) (fun r => Zjs r _) (fun w s => ret ⟨rfl, s⟩))
  | ok q =>
   rw [hp] at h
   obtain ⟨rfl, s⟩ := h
   have hr : 0 ≤ q.1 ∧ q.1 ≤ 7 := by
    cases ws with
    | nil => cases hp
    | cons x xs =>
     rw [show Znu e (x :: xs) = if x.1 = comma then .error (160, x.2) else match (if x.1.head? = some 112 then numR x.1.tail 0 7 else none) with
      | none => .error (162, x.2)
      | some n => .ok (n, xs) from rfl] at hp
     split at hp
     ·cases hp
     ·split at hp
      ·cases hp
      ·rename_i n hn
       cases hp
       split at hn
       ·unfold numR at hn
        split at hn
        ·cases hn
        ·split at hn
         ·rename_i hh
          cases hn
          exact hh
         ·cases hn
       ·cases hn
   have hw : wrap .i64 (q.1 + 1) = q.1 + 1 := Zau (by omega) (by omega)
   rw [hw]
   exact WP.nilck (setA (o := 4) (m' := { m with In := q.1 + 1 }) s (fun r => { r with In := q.1 + 1 }) (fun r => Zjs r _) (fun r h => ⟨h.1, h.2.1, h.2.2.1, h.2.2.2.1, rfl, h.2.2.2.2.2⟩) (fun r => ⟨rfl, rfl⟩) ⟨rfl, rfl⟩ (fun w s => ret ⟨rfl, s⟩))
 rw [if_neg h1]
 refine WP.ite (fun h => absurd (k1.1 h) h1) (fun _ => ?_)
 by_cases h2 : strI t = tx "vid"
 ·rw [if_pos h2]
  refine WP.ite (fun _ => WP.step (ZlO s 1 4094) ?_) (fun h => absurd (k2.2 h2) h)
  intro n w h
  cases hp : numP e 1 4094 ws with
  | error f =>
   rw [hp] at h
   exact WP.nilck (setD (o := 5) h (fun r => { r with Vid := n }) (fun r => ZiO r _) (fun w s => ret ⟨rfl, s⟩))
  | ok q =>
   rw [hp] at h
   obtain ⟨rfl, s⟩ := h
   exact WP.nilck (setA (o := 5) (m' := { m with Vid := q.1 }) s (fun r => { r with Vid := q.1 }) (fun r => ZiO r _) (fun r h => ⟨h.1, h.2.1, h.2.2.1, h.2.2.2.1, h.2.2.2.2.1, rfl, h.2.2.2.2.2.2⟩) (fun r => ⟨rfl, rfl⟩) ⟨rfl, rfl⟩ (fun w s => ret ⟨rfl, s⟩))
 rw [if_neg h2]
 refine WP.ite (fun h => absurd (k2.1 h) h2) (fun _ => ?_)
 by_cases h3 : strI t = tx "from"
 ·rw [if_pos h3]
  refine WP.ite (fun _ => WP.step (Zpt s) ?_) (fun h => absurd (k3.2 h3) h)
  intro n w h
  unfold ZaB.K1
  cases hp : Zma e m.Kind m.Proto ws with
  | error f =>
   rw [hp] at h
   exact WP.nilck (setD (o := 6) h (fun r => { r with From := n }) (fun r => ZeC r _) (fun w s => ret ⟨rfl, s⟩))
  | ok q =>
   rw [hp] at h
   exact WP.nilck (Zv6 h (fun w s => ret ⟨rfl, s⟩))
 rw [if_neg h3]
 refine WP.ite (fun h => absurd (k3.1 h) h3) (fun _ => ?_)
 by_cases h4 : strI t = tx "to"
 ·rw [if_pos h4]
  refine WP.ite (fun _ => WP.step (Zpt s) ?_) (fun h => absurd (k4.2 h4) h)
  intro n w h
  unfold ZaB.K1
  cases hp : Zma e m.Kind m.Proto ws with
  | error f =>
   rw [hp] at h
   exact WP.nilck (setD (o := 9) h (fun r => { r with To := n }) (fun r => Ze7 r _) (fun w s => ret ⟨rfl, s⟩))
  | ok q =>
   rw [hp] at h
   exact WP.nilck (ZxN h (fun w s => ret ⟨rfl, s⟩))
 rw [if_neg h4]
 refine WP.ite (fun h => absurd (k4.1 h) h4) (fun _ => ?_)
 by_cases h5 : strI t = tx "flags"
 ·rw [if_pos h5]
  refine WP.ite (fun _ => WP.step (Zsg (m := m) (p := (m.Set, m.Clear)) hb fi ef s) ?_) (fun h => absurd (k5.2 h5) h)
  intro n w h
  unfold ZaB.K1
  refine ret ⟨rfl, ?_⟩
  unfold Zuz at h
  simp only at h
  cases hp : Zge e m.Set m.Clear ws with
  | error f => rw [hp] at h; exact h
  | ok q => rw [hp] at h; exact h
 rw [if_neg h5]
 refine WP.ite (fun h => absurd (k5.1 h) h5) (fun _ => ?_)
 by_cases h6 : strI t = tx "type"
 ·rw [if_pos h6]
  refine WP.ite (fun _ => WP.step (ZlO s 0 255) ?_) (fun h => absurd (k6.2 h6) h)
  intro n w h
  unfold ZaB.K1
  cases hp : numP e 0 255 ws with
  | error f =>
   rw [hp] at h
   exact WP.nilck (setD (o := 14) h (fun r => { r with Type_ := wrap .i64 (n + 1) }) (fun r => Zht r _) (fun w s => ret ⟨rfl, s⟩))
  | ok q =>
   rw [hp] at h
   obtain ⟨rfl, s⟩ := h
   have hr : 0 ≤ q.1 ∧ q.1 ≤ 255 := by
    cases ws with
    | nil => cases hp
    | cons x xs =>
     rw [show numP e 0 255 (x :: xs) = if x.1 = comma then .error (160, x.2) else match numR x.1 0 255 with
      | none => .error (162, x.2)
      | some n => .ok (n, xs) from rfl] at hp
     split at hp
     ·cases hp
     ·split at hp
      ·cases hp
      ·rename_i n hn
       cases hp
       unfold numR at hn
       split at hn
       ·cases hn
       ·split at hn
        ·rename_i hh
         cases hn
         exact hh
        ·cases hn
   have hw : wrap .i64 (q.1 + 1) = q.1 + 1 := Zau (by omega) (by omega)
   rw [hw]
   exact WP.nilck (setA (o := 14) (m' := { m with Type_ := q.1 + 1 }) s (fun r => { r with Type_ := q.1 + 1 }) (fun r => Zht r _) (fun r h => ⟨h.1, h.2.1, h.2.2.1, h.2.2.2.1, h.2.2.2.2.1, h.2.2.2.2.2.1, h.2.2.2.2.2.2.1, h.2.2.2.2.2.2.2.1, rfl, h.2.2.2.2.2.2.2.2.2⟩) (fun r => ⟨rfl, rfl⟩) ⟨rfl, rfl⟩ (fun w s => ret ⟨rfl, s⟩))
 rw [if_neg h6]
 refine WP.ite (fun h => absurd (k6.1 h) h6) (fun _ => ?_)
 by_cases h7 : strI t = tx "pieces"
 ·rw [if_pos h7]
  unfold ZaB.K1
  exact WP.ite (fun _ => WP.nilck (setA (o := 15) (m' := { m with Pieces := true }) s (fun r => { r with Pieces := true }) (fun r => Zkx r _) (fun r h => ⟨h.1, h.2.1, h.2.2.1, h.2.2.2.1, h.2.2.2.2.1, h.2.2.2.2.2.1, h.2.2.2.2.2.2.1, h.2.2.2.2.2.2.2.1, h.2.2.2.2.2.2.2.2.1, rfl⟩) (fun r => ⟨rfl, rfl⟩) ⟨rfl, rfl⟩ (fun w s => ret ⟨rfl, s⟩))) (fun h => absurd (k7.2 h7) h)
 rw [if_neg h7]
 exact WP.ite (fun h => absurd (k7.1 h) h7) (fun _ => ret ⟨rfl, s⟩)
end
theorem Zkb {e lo hi n : Int} {ws r : List Wd} (h : numP e lo hi ws = .ok (n, r)) : r.length < ws.length ∧ lo ≤ n ∧ n ≤ hi := by
 cases ws with
 | nil => cases h
 | cons x xs =>
  rw [show numP e lo hi (x :: xs) = if x.1 = comma then .error (160, x.2) else match numR x.1 lo hi with
   | none => .error (162, x.2)
   | some n => .ok (n, xs) from rfl] at h
  split at h
  ·cases h
  ·split at h
   ·cases h
   ·rename_i k hk
    cases h
    unfold numR at hk
    split at hk
    ·cases hk
    ·split at hk
     ·rename_i hh
      cases hk
      exact ⟨by simp, hh⟩
     ·cases hk
theorem Ztq {e n : Int} {ws r : List Wd} (h : Znu e ws = .ok (n, r)) : r.length < ws.length := by
 cases ws with
 | nil => cases h
 | cons x xs =>
  rw [show Znu e (x :: xs) = if x.1 = comma then .error (160, x.2) else match (if x.1.head? = some 112 then numR x.1.tail 0 7 else none) with
   | none => .error (162, x.2)
   | some n => .ok (n, xs) from rfl] at h
  split at h
  ·cases h
  ·split at h
   ·cases h
   ·cases h
    simp
theorem ZpJ {e kind : Int} : ∀ (k : Nat) {acc : List Zag} {ws r : List Wd} {l : List Zag}, ws.length ≤ k → Zjb e kind acc ws = .ok (l, r) → r.length < ws.length
 | 0, acc, ws, r, l, hk, h => by
  have : ws = [] := List.length_eq_zero_iff.1 (by omega)
  subst this
  cases h
 | k + 1, acc, ws, r, l, hk, h => by
  rw [ZkK] at h
  split at h
  ·cases h
  ·rename_i p r1 h1
   have := (Zrr h1).1
   split at h
   ·cases h
    exact this
   ·rename_i r2 h2
    have := Zey h2
    have := ZpJ k (by omega) h
    omega
theorem ZnX {e : Int} : ∀ (k : Nat) {acc : List ZaH} {ws r : List Wd} {l : List ZaH}, ws.length ≤ k → Zgw e acc ws = .ok (l, r) → r.length < ws.length
 | 0, acc, ws, r, l, hk, h => by
  have : ws = [] := List.length_eq_zero_iff.1 (by omega)
  subst this
  cases h
 | k + 1, acc, ws, r, l, hk, h => by
  rw [ZjG] at h
  split at h
  ·cases h
  ·rename_i p r1 h1
   have := (ZnU h1).1
   split at h
   ·cases h
    exact this
   ·rename_i r2 h2
    have := Zey h2
    have := ZnX k (by omega) h
    omega
theorem Zmd {e proto : Int} {ws r : List Wd} {l : List ZaH} (h : Ze3 e proto ws = .ok (l, r)) : r.length ≤ ws.length := by
 cases ws with
 | nil =>
  unfold Ze3 at h
  cases h
  simp
 | cons x xs =>
  rw [ZgI] at h
  split at h
  ·split at h
   ·have := ZnX _ (zB _) h
    simp
    omega
   ·cases h
  ·cases h
   simp
theorem Zph {e kind proto : Int} {ws r : List Wd} {s : Zek} (h : Zma e kind proto ws = .ok (s, r)) : r.length ≤ ws.length := by
 rw [Zor] at h
 unfold Zol at h
 split at h
 ·rename_i r1 h1
  have := Zey h1
  split at h
  ·cases h
  ·rename_i h2
   have := Zmd h2
   cases h
   omega
 ·split at h
  ·cases h
  ·rename_i l r1 h1
   have := ZpJ _ (zB _) h1
   have hle : ((Zd9 (tx "not") ws).getD ws).length ≤ ws.length := by
    cases ht : Zd9 (tx "not") ws with
    | none => simp
    | some r =>
     have := Zey ht
     simp only [Option.getD_some]
     omega
   split at h
   ·cases h
   ·rename_i h2
    have := Zmd h2
    cases h
    omega
theorem Zn8 {e : Int} : ∀ (k : Nat) {s c : Int} {ws r : List Wd} {p : Int × Int}, ws.length ≤ k → Zge e s c ws = .ok (p, r) → r.length < ws.length ∧ (B255 (s, c) → B255 p)
 | 0, s, c, ws, r, p, hk, h => by
  have : ws = [] := List.length_eq_zero_iff.1 (by omega)
  subst this
  cases h
 | k + 1, s, c, ws, r, p, hk, h => by
  rw [ZjL] at h
  split at h
  ·cases h
  ·rename_i q r1 h1
   have hl := ZmI h1
   have hb : B255 (s, c) → B255 q := fun hb => Zt2 hb h1
   split at h
   ·cases h
    exact ⟨hl, hb⟩
   ·rename_i r2 h2
    have := Zey h2
    obtain ⟨q1, q2⟩ := Zn8 k (by omega) h
    exact ⟨by omega, fun h => q2 (hb h)⟩
theorem ZmP {e : Int} {t : List Int} {m m' : ZaR} {ws r : List Wd} (h : ZfQ e t m ws = some (.ok (m', r))) : r.length ≤ ws.length ∧ (B255 (m.Set, m.Clear) → B255 (m'.Set, m'.Clear)) := by
 unfold ZfQ at h
 split at h
 ·split at h
  ·cases h
  ·rename_i h1
   cases h
   exact ⟨Nat.le_of_lt (Ztq h1), fun h => h⟩
 ·split at h
  ·split at h
   ·cases h
   ·rename_i h1
    cases h
    exact ⟨Nat.le_of_lt (Zkb h1).1, fun h => h⟩
  ·split at h
   ·split at h
    ·cases h
    ·rename_i h1
     cases h
     exact ⟨Zph h1, fun h => h⟩
   ·split at h
    ·split at h
     ·cases h
     ·rename_i h1
      cases h
      exact ⟨Zph h1, fun h => h⟩
    ·split at h
     ·split at h
      ·cases h
      ·rename_i h1
       obtain ⟨q1, q2⟩ := Zn8 _ (zB _) h1
       cases h
       exact ⟨Nat.le_of_lt q1, q2⟩
     ·split at h
      ·split at h
       ·cases h
       ·rename_i h1
        cases h
        exact ⟨Nat.le_of_lt (Zkb h1).1, fun h => h⟩
      ·split at h
       ·cases h
        exact ⟨zB _, fun h => h⟩
       ·cases h
theorem ZsK : RSc ZaL zRl := ⟨rfl, rfl, rfl, rfl, rfl, rfl, rfl, rfl, rfl, rfl⟩
def ZwM (r : Zaf) (m : ZaR) : HP := fun h => RSc r m ∧ seps [ZjW r.From m.From, ZjW r.To m.To] h
def ParR (W : World) (Hs : List HP) (r : Zaf × Int × Int) (w : World) : PE ZaR → Prop
 | .ok m => r.2 = (0, 0) ∧ Ss W (ZwM r.1 m :: Hs) w
 | .error f => r = (ZaL, f.1, f.2) ∧ f.1 ≠ 0 ∧ Ss W Hs w
abbrev Znb (b : Nat) (kvs : List (ByteArray × Int)) : HP := mapH cS (cI .i64) b kvs
def Zqf (kvs : List (ByteArray × Int)) (seen : List (List Int)) : Prop := (∀ p ∈ kvs, p.2 > 0) ∧ ∀ t : ByteArray, (∃ x, (t, x) ∈ kvs) ↔ strI t ∈ seen
theorem ZlQ : ∀ (l cur : List Int) (p : Int) (ws : List Wd), lexM cur p l = .ok ws → ws.length ≤ l.length + 1 ∧ (cur = [] → ws.length ≤ l.length) ∧ ∀ w ∈ ws, w.1.length ≤ cur.length + l.length
 | [], cur, p, ws, h => by
  have h : ws = if cur = [] then [] else [(cur, p - cur.length)] := by
   rw [lexM] at h
   exact (Except.ok.inj h).symm
  subst h
  split
  ·exact ⟨by simp, fun _ => by simp, by simp⟩
  ·rename_i hc
   exact ⟨by simp, fun h => absurd h hc, by simp⟩
 | c :: cs, cur, p, ws, h => by
  by_cases hw : Zh8 c = true
  ·rw [Zrw hw] at h
   obtain ⟨h1, -, h3⟩ := ZlQ cs _ _ _ h
   refine ⟨by simp; omega, fun hc => ?_, fun w hm => ?_⟩
   ·simp
    omega
   ·have := h3 w hm
    simp at this ⊢
    omega
  ·rw [Zrx (by simpa using hw)] at h
   split at h
   ·cases h
   ·rename_i r hr
    cases h
    have key : r.length ≤ cs.length + 1 ∧ ∀ w ∈ r, w.1.length ≤ 1 + cs.length := by
     split at hr
     ·split at hr
      ·cases hr
      ·rename_i r' hr'
       cases hr
       obtain ⟨-, h2, h3⟩ := ZlQ cs [] _ _ hr'
       refine ⟨by simp only [zf]; have := h2 rfl; omega, fun w hm => ?_⟩
       rcases List.mem_cons.1 hm with rfl | hm
       ·simp
       ·have := h3 w hm
        simp at this
        omega
     ·split at hr
      ·obtain ⟨-, h2, h3⟩ := ZlQ cs [] _ _ hr
       refine ⟨by have := h2 rfl; omega, fun w hm => ?_⟩
       have := h3 w hm
       simp at this
       omega
      ·cases hr
    split
    ·rename_i hc
     refine ⟨by simp only [zf]; omega, fun _ => by simp only [zf]; omega, fun w hm => ?_⟩
     have := key.2 w hm
     simp only [zf]
     omega
    ·rename_i hc
     refine ⟨by simp only [zf]; omega, fun h => absurd h hc, fun w hm => ?_⟩
     rcases List.mem_cons.1 hm with rfl | hm
     ·simp
     ·have := key.2 w hm
      simp only [zf]
      omega
section
variable {W w : World} {Hs : List HP} {b : Nat} {wl : List ZaG} {e : Int} {m : ZaR} {ws : List Wd} {f : PF}
theorem ldI {β : Type} {g : Int → M β} {Q : β → World → Prop} (s : Ss W (RrA b wl e m ws :: Hs) w) (k : ∀ i : Nat, i + ws.length = wl.length → WP (g (i : Int)) w Q) : WP (ld (cI .i64) (Addr.add (pt b 0) 1) >>= g) w Q := by
 obtain ⟨⟨rr, i⟩, hq, s1⟩ := Zid s
 obtain ⟨h1, h2, h3, h4, h5, h6, h7⟩ := hq
 refine WP.ld (x := rr.i) s1 0 rfl (o := 1) rfl (ZbC _) ?_
 have h1 : rr.i = (i : Int) := h1
 have h4 : i ≤ wl.length := h4
 rw [h1]
 refine k i ?_
 have : ws.length = wl.length - i := by rw [h6]; simp
 omega
theorem ldID {β : Type} {g : Int → M β} {Q : β → World → Prop} (s : Ss W (RrD b f :: Hs) w) (k : ∀ i, WP (g i) w Q) : WP (ld (cI .i64) (Addr.add (pt b 0) 1) >>= g) w Q := by
 obtain ⟨rr, hq, s1⟩ := s.openx 0 rfl
 exact WP.ld (x := rr.i) s1 0 rfl (o := 1) rfl (ZbC _) (k _)
theorem Ziy (s : Ss W (RrD b f :: Hs) w) : WP (Zal.K1 b) w (fun r w' => ParR W Hs r w' (.error f)) := by
 unfold Zal.K1
 refine errD s (fun h => WP.ite (fun _ => WP.draw' s (fun w s => ?_)) (fun h' => absurd h h'))
 obtain ⟨rr, hq, s1⟩ := s.openx 0 rfl
 refine WP.ld (x := rr.err) s1 0 rfl (o := 19) rfl (Zew _) (WP.ld (x := rr.at_) s1 0 rfl (o := 20) rfl (ZgC _) (WP.same (x := rr.at_) s1 0 rfl (o := 20) rfl (ZgC _) (WP.same (x := rr.err) s1 0 rfl (o := 19) rfl (Zew _) (ret ⟨?_, h, s.drop⟩))))
 rw [hq.1, hq.2.1]
theorem Zsk (s : Ss W (RrA b wl e m ws :: Hs) w) : WP (Zal.K1 b) w (fun r w' => ParR W Hs r w' (.ok m)) := by
 unfold Zal.K1
 refine errA s (WP.ite (fun h => absurd rfl h) (fun _ => ?_))
 obtain ⟨⟨rr, i⟩, hq, s⟩ := Zid s
 refine WP.ld (x := rr.rule) s 0 rfl (o := 3) rfl (ZbX _) (ret ⟨rfl, ?_⟩)
 have s : Ss W ([ZjW rr.rule.From m.From, ZjW rr.rule.To m.To] ++ Hs) w := by
  have s := s.drop.drop
  exact s
 exact s.group.first (fun h hh => ⟨hq.2.2.2.2.2.2, hh⟩)
theorem ZuO {kvs : List (ByteArray × Int)} {seen : List (List Int)} {t : ByteArray} {x : Int} (h : Zqf kvs seen) (hx : x > 0) : Zqf (kvs ++ [(t, x)]) (strI t :: seen) := by
 refine ⟨fun p hp => ?_, fun u => ?_⟩
 ·rcases List.mem_append.1 hp with hp | hp
  ·exact h.1 p hp
  ·rw [List.mem_singleton.1 hp]
   exact hx
 ·rw [zU, ← h.2 u]
  constructor
  ·rintro ⟨y, hy⟩
   rcases List.mem_append.1 hy with hy | hy
   ·exact .inr ⟨y, hy⟩
   ·have := List.mem_singleton.1 hy
    left
    rw [(Prod.mk.inj this).1]
  ·rintro (hu | ⟨y, hy⟩)
   ·have : u = t := by rw [← ZmS u, ← ZmS t, hu]
    exact ⟨x, List.mem_append_right _ (by rw [this]; simp)⟩
   ·exact ⟨y, List.mem_append_left _ hy⟩
theorem ZpB {r2 : Sl × Int} {b5 : Nat} (hl : r2.1.len = wl.length) (fi : Nat) (ef : nth Hs fi = some (NmP 2 Zho)) {fuel : Nat} {X : PE ZaR} (hX : ZjH e fuel [] m ws = X) (hf : ws.length < fuel) (hb : B255 (m.Set, m.Clear)) (hp : ws.length < wl.length) (s : Ss W (RrA b wl e m ws :: Znb b5 [] :: Hs) w) :
  WP (Zcn (fun s_ : Unit => Zal.L1 r2 b b5) ()) w (fun r w' => ParR W Hs r w' X) := by
 refine WP.loopG (γ := PE (Nat × List (List Int) × ZaR × List Wd) × List (ByteArray × Int)) (fun g (_ : Unit) w => match g.1 with
   | .ok (fuel, seen, m, ws) => ZjH e fuel seen m ws = X ∧ ws.length < fuel ∧ B255 (m.Set, m.Clear) ∧ ws.length < wl.length ∧ Zqf g.2 seen ∧ Ss W (RrA b wl e m ws :: Znb b5 g.2 :: Hs) w
   | .error f => X = .error f ∧ Ss W (RrD b f :: Znb b5 g.2 :: Hs) w) (fun g _ => match g.1 with
   | .ok (_, _, _, ws) => ws.length + 1
   | .error _ => 0) (.ok (fuel, [], m, ws), []) ⟨hX, hf, hb, hp, ⟨by simp, by simp⟩, s⟩ ?_
 clear s hX hf hb hp
 rintro ⟨g, kvs⟩ _ w h
 show WP (Zal.L1 r2 b b5) w _
 unfold Zal.L1
 cases g with
 | error f =>
  obtain ⟨hXf, s⟩ := h
  refine errD s (fun h => ?_)
  refine WP.step (R := fun y w' => y = false ∧ w = w') (WP.ite (fun h' => absurd h' h) (fun _ => ret ⟨rfl, rfl⟩)) ?_
  rintro _ _ ⟨rfl, rfl⟩
  refine WP.ite (fun h => by cases h) (fun _ => WP.step (Ziy s) (fun r w h => WP.done ?_))
  rw [hXf]
  obtain ⟨q1, q2, s⟩ := h
  exact ⟨q1, q2, s.drop⟩
 | ok g =>
  obtain ⟨fuel, seen, m, ws⟩ := g
  obtain ⟨hX, hf, hb, hp, hs, s⟩ := h
  simp only at hX hf hb hp hs s
  obtain ⟨fu, rfl⟩ : ∃ k, fuel = k + 1 := ⟨fuel - 1, by omega⟩
  refine errA s ?_
  refine WP.step (R := fun y w' => y = decide (ws ≠ []) ∧ w = w') (WP.ite (fun _ => ldI s (fun i hi => ret ⟨?_, rfl⟩)) (fun h => absurd rfl h)) ?_
  ·rw [hl]
   refine decide_eq_decide.2 ?_
   have : ws ≠ [] ↔ 0 < ws.length := List.length_pos_iff.symm
   rw [this]
   omega
  rintro _ _ ⟨rfl, rfl⟩
  cases ws with
  | nil =>
   refine WP.ite (fun h => by simp at h) (fun _ => WP.step (Zsk s) (fun r w h => WP.done ?_))
   rw [← hX]
   obtain ⟨q1, s⟩ := h
   refine ⟨q1, ?_⟩
   have s := (s.use [1] rfl).drop
   exact s
  | cons x xs =>
   refine WP.ite (fun _ => WP.step (Ziw s) ?_) (fun h => absurd (by simp) h)
   rintro r w ⟨hx, s1⟩
   clear s
   have s := s1
   clear s1
   subst hx
   rw [show ZjH e (fu + 1) seen m (wdOf r :: xs) = if mayM seen m (strI r.s) = false then .error (165, r.at_) else match ZfQ e (strI r.s) m xs with
    | none => .error (160, r.at_)
    | some (.error q) => .error q
    | some (.ok (m', r')) => ZjH e fu (strI r.s :: seen) m' r' from rfl] at hX
   simp only [zf] at hf hp
   refine WP.slot' s (fun _ w s => ?_)
   -- what has been seen
   have cont : ∀ {v : Int × Bool}, (v.1 > 0 ↔ strI r.s ∈ seen) → WP ((if v.1 > 0 then pure true else (if r.s.toList = (Zqr).toList then ld (cI .i64) (Addr.add (Addr.add (pt b 0) 3) 3) >>= fun x41 => pure (x41 != 6) else pure false) >>= fun y42 => pure y42) >>= fun y43 =>
     (if y43 = true then pure true else (if r.s.toList = (Zqq).toList then ld (cI .i64) (Addr.add (Addr.add (pt b 0) 3) 3) >>= fun x44 => Zep x44 >>= fun r45 => pure (!r45) else pure false) >>= fun y46 => pure y46) >>= fun y47 =>
     if y47 = true then Za0 (some (pt b 0)) 165 r.at_ >>= fun r49 => (Zal.K1 b) >>= fun b => pure (LS.done b)
     else ZaB (some (pt b 0)) r.s >>= fun r50 => if ¬ (r50 = true) then Za0 (some (pt b 0)) 160 r.at_ >>= fun r53 => Zal.K2 b b5 r else Zal.K2 b b5 r) w (WP.Rd (fun (_ : Unit) w => ∃ g' : PE (Nat × List (List Int) × ZaR × List Wd) × List (ByteArray × Int), (match g'.1 with
   | .ok (fuel, seen, m, ws) => ZjH e fuel seen m ws = X ∧ ws.length < fuel ∧ B255 (m.Set, m.Clear) ∧ ws.length < wl.length ∧ Zqf g'.2 seen ∧ Ss W (RrA b wl e m ws :: Znb b5 g'.2 :: Hs) w
   | .error f => X = .error f ∧ Ss W (RrD b f :: Znb b5 g'.2 :: Hs) w) ∧ (match g'.1 with
   | .ok (_, _, _, ws) => ws.length + 1
   | .error _ => 0) < (wdOf r :: xs).length + 1) (fun r w' => ParR W Hs r w' X)) := by
    intro v hv
    have e1 : r.s.toList = (Zqr).toList ↔ strI r.s = tx "flags" := by rw [Zch, Zrd]
    have e2 : r.s.toList = (Zqq).toList ↔ strI r.s = tx "type" := by rw [Zch, ZsV]
    refine WP.step (R := fun y w' => y = decide (strI r.s ∈ seen ∨ (strI r.s = tx "flags" ∧ m.Proto ≠ 6)) ∧ w = w') (WP.ite (fun h => ret ⟨(zb (.inl (hv.1 h))).symm, rfl⟩) (fun h => ?_)) ?_
    ·have hn : strI r.s ∉ seen := fun h' => h (hv.2 h')
     refine WP.step (R := fun y w' => y = decide (strI r.s ∈ seen ∨ (strI r.s = tx "flags" ∧ m.Proto ≠ 6)) ∧ w = w') (WP.ite (fun h2 => Ztn s (ret ⟨?_, rfl⟩)) (fun h2 => ret ⟨?_, rfl⟩)) (fun y w h => ret h)
     ·rw [zj, bne_iff_ne, ze]
      exact ⟨fun h' => .inr ⟨e1.1 h2, h'⟩, fun h' => h'.elim (fun h' => absurd h' hn) (fun h' => h'.2)⟩
     ·exact (zh (fun h' => h'.elim hn (fun h' => h2 (e1.2 h'.1)))).symm
    rintro _ _ ⟨rfl, rfl⟩
    have hmay : mayM seen m (strI r.s) = false ↔ (strI r.s ∈ seen ∨ (strI r.s = tx "flags" ∧ m.Proto ≠ 6)) ∨ (strI r.s = tx "type" ∧ Zgp m.Proto = false) := by
     unfold mayM
     rw [zX]
     constructor
     ·intro h
      by_cases a1 : strI r.s ∈ seen
      ·exact .inl (.inl a1)
      by_cases a2 : strI r.s = tx "flags" ∧ m.Proto ≠ 6
      ·exact .inl (.inr a2)
      by_cases a3 : strI r.s = tx "type" ∧ Zgp m.Proto = false
      ·exact .inr a3
      exact absurd ⟨a1, fun h' => zL fun hn => a2 ⟨h', hn⟩, fun h' => by
       cases ht : Zgp m.Proto with
       | true => rfl
       | false => exact absurd ⟨h', ht⟩ a3⟩ h
     ·rintro ((h | ⟨h, h'⟩) | ⟨h, h'⟩) ⟨b1, b2, b3⟩
      ·exact b1 h
      ·exact h' (b2 h)
      ·rw [b3 h] at h'
       cases h'
    refine WP.step (R := fun y w' => y = !(mayM seen m (strI r.s)) ∧ w = w') (WP.ite (fun h => ret ⟨?_, rfl⟩) (fun h => ?_)) ?_
    ·rw [hmay.2 (.inl (zd h))]
     rfl
    ·have hn : ¬ (strI r.s ∈ seen ∨ (strI r.s = tx "flags" ∧ m.Proto ≠ 6)) := fun h' => h (zb h')
     refine WP.step (R := fun y w' => y = !(mayM seen m (strI r.s)) ∧ w = w') (WP.ite (fun h2 => Ztn s (WP.step (Zrc m.Proto) ?_)) (fun h2 => ret ⟨?_, rfl⟩)) (fun y w h => ret h)
     ·rintro _ _ ⟨rfl, rfl⟩
      refine ret ⟨?_, rfl⟩
      cases ht : Zgp m.Proto with
      | false => rw [hmay.2 (.inr ⟨e2.1 h2, ht⟩)]
      | true =>
       cases hm : mayM seen m (strI r.s) with
       | true => rfl
       | false => exact absurd (hmay.1 hm) (fun h' => h'.elim hn (fun h' => by rw [ht] at h'; cases h'.2))
     ·cases hm : mayM seen m (strI r.s) with
      | true => rfl
      | false => exact absurd (hmay.1 hm) (fun h' => h'.elim hn (fun h' => h2 (e2.2 h'.1)))
    rintro _ _ ⟨rfl, rfl⟩
    cases hm : mayM seen m (strI r.s) with
    | false =>
     rw [if_pos hm] at hX
     refine WP.ite (fun _ => WP.step (ZdV s (by decide) r.at_) ?_) (fun h => absurd rfl h)
     intro _ w s
     refine WP.step (Ziy s) (fun r w h => WP.done ?_)
     rw [← hX]
     obtain ⟨q1, q2, s⟩ := h
     exact ⟨q1, q2, s.drop⟩
    | true =>
     rw [if_neg (by rw [hm]; decide)] at hX
     have hns : strI r.s ∉ seen := fun h' => by rw [hmay.2 (.inl (.inl h'))] at hm; cases hm
     have hkey : ∀ y, (r.s, y) ∉ kvs := fun y hy => hns ((hs.2 r.s).1 ⟨y, hy⟩)
     have deadK2 : ∀ {w : World} {f : PF}, X = .error f → Ss W (RrD b f :: Znb b5 kvs :: Hs) w → WP (Zal.K2 b b5 r) w (WP.Rd (fun (_ : Unit) w => ∃ g' : PE (Nat × List (List Int) × ZaR × List Wd) × List (ByteArray × Int), (match g'.1 with
       | .ok (fuel, seen, m, ws) => ZjH e fuel seen m ws = X ∧ ws.length < fuel ∧ B255 (m.Set, m.Clear) ∧ ws.length < wl.length ∧ Zqf g'.2 seen ∧ Ss W (RrA b wl e m ws :: Znb b5 g'.2 :: Hs) w
       | .error f => X = .error f ∧ Ss W (RrD b f :: Znb b5 g'.2 :: Hs) w) ∧ (match g'.1 with
       | .ok (_, _, _, ws) => ws.length + 1
       | .error _ => 0) < (wdOf r :: xs).length + 1) (fun r w' => ParR W Hs r w' X)) := by
      intro w f hXf s
      unfold Zal.K2
      refine WP.draw' s (fun w s => ldID s (fun i => WP.mset (ck := cS) (cv := cI .i64) s 1 rfl hkey (fun w s => WP.next ⟨(.error f, kvs ++ [(r.s, i)]), ⟨hXf, s⟩, by simp⟩)))
     refine WP.ite (fun h => by cases h) (fun _ => WP.step (ZqA hb (fi + 1) ef r.s s) ?_)
     intro y w h
     cases hc : ZfQ e (strI r.s) m xs with
     | none =>
      rw [hc] at h hX
      obtain ⟨rfl, s⟩ := h
      refine WP.ite (fun _ => WP.step (ZdV s (by decide) r.at_) ?_) (fun h => absurd (by decide) h)
      intro _ w s
      exact deadK2 hX.symm s
     | some Y =>
      rw [hc] at h hX
      obtain ⟨rfl, h⟩ := h
      refine WP.ite (fun h => absurd rfl h) (fun _ => ?_)
      cases Y with
      | error f => exact deadK2 hX.symm h
      | ok q =>
       obtain ⟨m', r'⟩ := q
       obtain ⟨c1, c2⟩ := ZmP hc
       have c1 : r'.length ≤ xs.length := c1
       unfold Zal.K2
       refine WP.draw' h (fun w s => ldI s (fun i (hi : i + r'.length = wl.length) => WP.mset (ck := cS) (cv := cI .i64) s 1 rfl hkey (fun w s => WP.next ⟨(.ok (fu, strI r.s :: seen, m', r'), kvs ++ [(r.s, (i : Int))]), ⟨hX, show r'.length < fu by omega, c2 hb, show r'.length < wl.length by omega, ZuO hs (by omega), s⟩, show r'.length + 1 < xs.length + 1 + 1 by omega⟩)))
   refine WP.mget (ck := cS) (cv := cI .i64) s 1 rfl (fun v hv => cont ?_) (fun h0 => cont ?_)
   ·exact ⟨fun _ => (hs.2 r.s).1 ⟨v, hv⟩, fun _ => hs.1 _ hv⟩
   ·refine ⟨fun h => absurd h (by decide), fun h => ?_⟩
    obtain ⟨v, hv⟩ := (hs.2 r.s).2 h
    exact absurd hv (h0 v)
theorem ZtU {e : Int} {ws r : List Wd} {m : ZaR} (hh : ZlC e ws = .ok (m, r)) : B255 (m.Set, m.Clear) ∧ r.length < ws.length := by
 cases ws with
 | nil => cases hh
 | cons x xs =>
  rw [show ZlC e (x :: xs) = match idxT actN x.1 with
   | none => .error (160, x.2)
   | some a => match Zhr e a xs with
    | .error f => .error f
    | .ok (c, r) => match Zl5 e r with
     | .error f => .error f
     | .ok (k, r) => .ok ({ zRl with Act := (a : Int) + 1, Class := c, Kind := k.1, Proto := k.2 }, r) from rfl] at hh
  split at hh
  ·cases hh
  ·split at hh
   ·cases hh
   ·rename_i a ha c r1 h1
    split at hh
    ·cases hh
    ·rename_i k r3 h3
     cases hh
     refine ⟨⟨by simp [zRl], by simp [zRl]⟩, ?_⟩
     have c1 : r1.length ≤ xs.length := by
      unfold Zhr at h1
      split at h1
      ·split at h1
       ·cases h1
        exact zB _
       ·rename_i r4 h4
        have := Zey h4
        have := (Zkb h1).1
        omega
      ·cases h1
       exact zB _
     have c2 : r.length ≤ r1.length := by
      cases r1 with
      | nil => cases h3
      | cons y ys =>
       rw [ZkB] at h3
       have pl : ∀ {kd : Int} {v : Wd} {zs : List Wd} {n : Int} {u : List Wd}, Zgu e kd v zs = .ok (n, u) → u.length ≤ zs.length := by
        intro kd v zs n u hp
        unfold Zgu at hp
        split at hp
        ·cases hp
        ·split at hp
         ·cases hp
          exact zB _
         ·exact Nat.le_of_lt (Zkb hp).1
       split at h3
       ·cases h3
        simp
       ·split at h3
        ·split at h3
         ·split at h3
          ·cases h3
          ·rename_i h5
           have := pl h5
           cases h3
           simp
           omega
         ·cases h3
        ·unfold ZsO at h3
         split at h3
         ·cases h3
          simp
         ·split at h3
          ·split at h3
           ·cases h3
           ·rename_i h5
            have := pl h5
            cases h3
            simp
            omega
          ·cases h3
           simp
     simp only [zf]
     omega
theorem Zqh (s : Ss W Hs w) (ia : Nat) (ea : nth Hs ia = some (NmP 0 actB)) (ik : Nat) (ek : nth Hs ik = some (NmP 1 ZjJ)) (fi : Nat) (ef : nth Hs fi = some (NmP 2 Zho)) (t : ByteArray) :
  WP (Zal t) w (fun r w' => ParR W Hs r w' (Ziv (strI t))) := by
 unfold Zal Ziv
 have hl := ZbI t
 refine WP.slot' s (fun _ w s => WP.ite (fun h => ret ?_) (fun h => ?_))
 ·rw [if_pos (show (strI t).length > 1024 by omega)]
  exact ⟨rfl, by decide, s⟩
 rw [if_neg (show ¬ (strI t).length > 1024 by omega)]
 refine WP.step (Zuy s t (by omega)) ?_
 intro r2 w h
 cases hx : lexM [] 0 (strI t) with
 | error p =>
  rw [hx] at h
  obtain ⟨h1, s⟩ := h
  have hp := ZoH _ _ _ _ (by omega) hx
  refine WP.ite (fun _ => ret ?_) (fun h => absurd (by omega) h)
  rw [h1]
  exact ⟨rfl, show (160 : Int) ≠ 0 by decide, s⟩
 | ok ws =>
  rw [hx] at h
  show WP _ w (fun r w' => ParR W Hs r w' (match ZlC ((strI t).length : Int) ws with
   | .error f => .error f
   | .ok (m, r) => ZjH ((strI t).length : Int) (ws.length + 1) [] m r))
  obtain ⟨h1, wl, sp, hw, s⟩ := h
  obtain ⟨l1, l2, l3⟩ := ZlQ _ _ _ _ hx
  refine WP.ite (fun h => absurd h (by omega)) (fun _ => ?_)
  have hrl := (s.vec_len (i := 0) rfl).1
  have hwl : wl.length = ws.length := by rw [← hw, zl]
  have hok : WlOk wl := by
   refine ⟨by omega, fun r hr => ?_⟩
   have := l3 (wdOf r) (by rw [← hw]; exact List.mem_map.2 ⟨r, hr, rfl⟩)
   have h2 : (strI r.s).length ≤ 0 + (strI t).length := this
   rw [ZbI] at h2
   omega
  have s := s.vec_freeze
  refine WP.newv (c := Zbm) s (fun b w s => ?_)
  have s := (((s.mk0 (A := vec cRg Sl.nil [] []) Zcv).mk0 (A := vec cPfx Sl.nil [] []) Zcv))
  have s : Ss W (ZjW Za6 zSd :: (pts true (pt b 0) (cRr.enc ⟨r2.1, 0, (t.size : Int), ZaL, 0, 0⟩) :: rdS cWd false r2.1 wl :: Hs)) w := Zrs (j := Za6) (nt := false) (ns := []) (ps := []) (sp := []) (sp2 := []) rfl s
  have s := (((s.mk0 (A := vec cRg Sl.nil [] []) Zcv).mk0 (A := vec cPfx Sl.nil [] []) Zcv))
  have s : Ss W (ZjW Za6 zSd :: (ZjW Za6 zSd :: pts true (pt b 0) (cRr.enc ⟨r2.1, 0, (t.size : Int), ZaL, 0, 0⟩) :: rdS cWd false r2.1 wl :: Hs)) w := Zrs (j := Za6) (nt := false) (ns := []) (ps := []) (sp := []) (sp2 := []) rfl s
  have s : Ss W (RrHs b wl zRl ⟨r2.1, 0, (t.size : Int), ZaL, 0, 0⟩ ++ Hs) w := by
   have s := s.use [2, 2, 0, 0] rfl
   exact s
  have s : Ss W (RrA b wl ((strI t).length : Int) zRl ws :: Hs) w := Zln (q := (⟨r2.1, 0, (t.size : Int), ZaL, 0, 0⟩, 0)) ⟨rfl, by simp only; omega, rfl, zF _, hok, by rw [List.drop_zero]; exact hw.symm, ZsK⟩ s
  refine WP.step (Zwr s ia ea ik ek) ?_
  intro _ w h
  cases hh : ZlC ((strI t).length : Int) ws with
  | error f =>
   rw [hh] at h
   refine WP.mkMap (ck := cS) (cv := cI .i64) (show Ss W (RrD b f :: Hs) w from h) (fun b5 w s => ?_)
   have s : Ss W (RrD b f :: Znb b5 [] :: Hs) w := by
    have s := s.use [1] rfl
    exact s
   -- the loop ends at once
   refine WP.loopG (γ := Unit) (fun _ (_ : Unit) w => Ss W (RrD b f :: Znb b5 [] :: Hs) w) (fun _ _ => 0) () s ?_
   clear s
   rintro _ _ w s
   show WP (Zal.L1 r2 b b5) w _
   unfold Zal.L1
   refine errD s (fun h => ?_)
   refine WP.step (R := fun y w' => y = false ∧ w = w') (WP.ite (fun h' => absurd h' h) (fun _ => ret ⟨rfl, rfl⟩)) ?_
   rintro _ _ ⟨rfl, rfl⟩
   refine WP.ite (fun h => by cases h) (fun _ => WP.step (Ziy s) (fun r w h => WP.done ?_))
   obtain ⟨q1, q2, s⟩ := h
   exact ⟨q1, q2, s.drop⟩
  | ok q =>
   obtain ⟨m, r⟩ := q
   rw [hh] at h
   have hb := ZtU hh
   refine WP.mkMap (ck := cS) (cv := cI .i64) (show Ss W (RrA b wl ((strI t).length : Int) m r :: Hs) w from h) (fun b5 w s => ?_)
   have s : Ss W (RrA b wl ((strI t).length : Int) m r :: Znb b5 [] :: Hs) w := by
    have s := s.use [1] rfl
    exact s
   exact ZpB (by omega) fi ef (fuel := ws.length + 1) rfl (by omega) hb.1 (by omega) s
end
def Byts (l : List Zag) : Prop := ∀ p ∈ l, Byt p.IP.A.l
structure RdSd (L : List HP) (sd : Zar) (m : Zek) : Prop where
 no : sd.Not = m.Not
 byts : Byts m.nets
 rn : ∃ i A, nth L i = some A ∧ Rdb A cPfx sd.Nets m.nets
 rp : ∃ i A, nth L i = some A ∧ Rdb A cRg sd.Ports m.ports
theorem RdSd.push {L : List HP} {sd : Zar} {m : Zek} {A : HP} (r : RdSd L sd m) : RdSd (A :: L) sd m := by
 obtain ⟨h1, h2, ⟨i, B, e1, r1⟩, ⟨j, C, e2, r2⟩⟩ := r
 exact ⟨h1, h2, ⟨i + 1, B, e1, r1⟩, ⟨j + 1, C, e2, r2⟩⟩
structure RdR (L : List HP) (r : Zaf) (m : ZaR) : Prop where
 sc : RSc r m
 from_ : RdSd L r.From m.From
 to_ : RdSd L r.To m.To
theorem RdR.push {L : List HP} {r : Zaf} {m : ZaR} {A : HP} (h : RdR L r m) : RdR (A :: L) r m := ⟨h.sc, h.from_.push, h.to_.push⟩
section
variable {W w : World} {Hs : List HP}
theorem Zwx {sd : Zar} {m : Zek} (s : Ss W Hs w) (hl : sd.Ports.len = m.ports.length) (proto : Int) :
  WP (Zao.K1 sd proto) w (fun y w' => y = (if m.ports ≠ [] ∧ Zfv proto = false then 165 else 0) ∧ Ss W Hs w') := by
 unfold Zao.K1
 have hne : ((sd.Ports.len : Int) > 0) ↔ m.ports ≠ [] := by
  rw [hl]
  exact ⟨fun h h' => by rw [h'] at h; simp at h, fun h => by have := List.length_pos_iff.2 h; omega⟩
 refine WP.step (R := fun y w' => y = decide (m.ports ≠ [] ∧ Zfv proto = false) ∧ w = w') (WP.ite (fun h => WP.step (ZpA proto) ?_) (fun h => ret ⟨?_, rfl⟩)) ?_
 ·rintro _ _ ⟨rfl, rfl⟩
  refine ret ⟨?_, rfl⟩
  have h1 := hne.1 h
  cases hp : Zfv proto <;> simp [h1]
 ·exact (zh (fun h' => h (hne.2 h'.1))).symm
 rintro _ _ ⟨rfl, rfl⟩
 refine WP.ite (fun h => ret ⟨?_, s⟩) (fun h => ret ⟨?_, s⟩)
 ·rw [if_pos (zd h)]
 ·rw [if_neg (fun h' => h (zb h'))]
theorem Zww {sd : Zar} {m : Zek} (s : Ss W Hs w) {j : Nat} {B : HP} (e2 : nth Hs j = some B) (rb : Rdb B cRg sd.Ports m.ports) (proto : Int) :
  WP (Zao.K2 sd proto) w (fun y w' => y = (if m.ports.length > 16 then 164 else if ¬ (∀ r ∈ m.ports, Zfb r = true) then 164 else if m.ports ≠ [] ∧ Zfv proto = false then 165 else 0) ∧ Ss W Hs w') := by
 unfold Zao.K2
 have hl := (s.rd_len e2 rb).1
 refine WP.ite (fun h => ret ⟨by rw [if_pos (by omega)], s⟩) (fun h => ?_)
 rw [if_neg (by omega)]
 refine WP.loopG (γ := Nat) (fun k (x : Int) w => x = (k : Int) ∧ k ≤ m.ports.length ∧ (∀ r ∈ m.ports.take k, Zfb r = true) ∧ Ss W Hs w) (fun k _ => m.ports.length - k) 0 ⟨rfl, zF _, by simp, s⟩ ?_
 clear s
 rintro k _ w ⟨rfl, hk, ha, s⟩
 show WP (Zao.L1 sd proto (k : Int)) w _
 unfold Zao.L1
 refine WP.ite (fun h => ?_) (fun h => ?_)
 ·have hk2 : k < m.ports.length := by omega
  have hx := za hk2
  have htake : m.ports.take (k + 1) = m.ports.take k ++ [m.ports[k]] := by
   rw [zy, hx]
   rfl
  generalize m.ports[k] = x at hx htake
  refine WP.rdx s j e2 rb (by omega) (x := x) (by rw [zg]; exact hx) rfl (WP.slot' s (fun _ w s => ?_))
  refine WP.step (R := fun y w' => y = decide (x.Lo < 0 ∨ x.Hi > 65535) ∧ w = w') (WP.ite (fun h => ret ⟨(zb (.inl h)).symm, rfl⟩) (fun h => ret ⟨decide_eq_decide.2 ⟨.inr, fun h' => h'.elim (fun h' => absurd h' h) id⟩, rfl⟩)) ?_
  rintro _ _ ⟨rfl, rfl⟩
  refine WP.step (R := fun y w' => y = !(Zfb x) ∧ w = w') (WP.ite (fun h => ret ⟨?_, rfl⟩) (fun h => ret ⟨?_, rfl⟩)) ?_
  ·unfold Zfb
   have h := zd h
   rw [zh (by omega)]
   rfl
  ·unfold Zfb
   have h : ¬ (x.Lo < 0 ∨ x.Hi > 65535) := fun h' => h (zb h')
   rw [← decide_not]
   exact decide_eq_decide.2 (by omega)
  rintro _ _ ⟨rfl, rfl⟩
  cases hr : Zfb x with
  | false =>
   refine WP.ite (fun _ => WP.done ⟨?_, s⟩) (fun h => absurd rfl h)
   rw [if_pos (fun h' => by have := h' x (zk hx); rw [hr] at this; cases this)]
  | true =>
   refine WP.ite (fun h => by cases h) (fun _ => WP.next ⟨k + 1, ⟨?_, hk2, ?_, s⟩, by omega⟩)
   ·rw [Zau (by omega) (by omega)]
    simp
   ·rw [htake]
    intro r hm
    rcases List.mem_append.1 hm with hm | hm
    ·exact ha r hm
    ·rw [List.mem_singleton.1 hm]
     exact hr
 ·have hk2 : k = m.ports.length := by omega
  rw [hk2, zI] at ha
  refine WP.step (Zwx s hl proto) (fun y w h => WP.done ?_)
  rw [if_neg (fun h' => h' ha)]
  exact h
theorem Zlq {sd : Zar} {m : Zek} (s : Ss W Hs w) (r : RdSd Hs sd m) (kind proto : Int) :
  WP (Zao sd kind proto) w (fun y w' => y = ZdX m kind proto ∧ Ss W Hs w') := by
 obtain ⟨hno, hb, ⟨i, A, e, ra⟩, ⟨j, B, e2, rb⟩⟩ := r
 unfold Zao
 have hl := (s.rd_len e ra).1
 have hne : ((sd.Nets.len : Int) == 0) = decide (m.nets = []) := by
  rw [zj, zq, ze, hl, ← List.length_eq_zero_iff]
  omega
 refine WP.slot' s (fun _ w s => ?_)
 refine WP.step (R := fun y w' => y = decide (m.nets.length > 16 ∨ (m.Not = true ∧ m.nets = [])) ∧ w = w') (WP.ite (fun h => ret ⟨(zb (.inl (by omega))).symm, rfl⟩) (fun h => ?_)) ?_
 ·refine WP.step (R := fun y w' => y = decide (m.nets.length > 16 ∨ (m.Not = true ∧ m.nets = [])) ∧ w = w') (WP.ite (fun h2 => ret ⟨?_, rfl⟩) (fun h2 => ret ⟨?_, rfl⟩)) (fun y w h => ret h)
  ·rw [hne]
   rw [hno] at h2
   exact decide_eq_decide.2 ⟨fun h' => .inr ⟨h2, h'⟩, fun h' => h'.elim (fun h' => absurd h' (by omega)) (fun h' => h'.2)⟩
  ·rw [hno] at h2
   exact (zh (fun h' => h'.elim (fun h' => absurd h' (by omega)) (fun h' => h2 h'.1))).symm
 rintro _ _ ⟨rfl, rfl⟩
 unfold ZdX
 refine WP.ite (fun h => ret ⟨by rw [if_pos (zd h)], s⟩) (fun h => ?_)
 have h16 : ¬ (m.nets.length > 16 ∨ (m.Not = true ∧ m.nets = [])) := fun h' => h (zb h')
 rw [if_neg h16]
 refine WP.loopG (γ := Nat) (fun k (x : Int) w => x = (k : Int) ∧ k ≤ m.nets.length ∧ (∀ p ∈ m.nets.take k, Zg2 p kind = true) ∧ Ss W Hs w) (fun k _ => m.nets.length - k) 0 ⟨rfl, zF _, by simp, s⟩ ?_
 clear s
 rintro k _ w ⟨rfl, hk, ha, s⟩
 show WP (Zao.L2 sd kind proto (k : Int)) w _
 unfold Zao.L2
 refine WP.ite (fun h => ?_) (fun h => ?_)
 ·have hk2 : k < m.nets.length := by omega
  have hx := za hk2
  have htake : m.nets.take (k + 1) = m.nets.take k ++ [m.nets[k]] := by
   rw [zy, hx]
   rfl
  generalize m.nets[k] = x at hx htake
  refine WP.rdx s i e ra (by omega) (x := x) (by rw [zg]; exact hx) rfl (WP.slot' s (fun _ w s => WP.step (Zt3 s x (hb x (zk hx)) kind) ?_))
  rintro _ w ⟨rfl, s⟩
  cases hr : Zg2 x kind with
  | false =>
   refine WP.ite (fun _ => WP.done ⟨?_, s⟩) (fun h => absurd (by decide) h)
   rw [if_pos (fun h' => by have := h' x (zk hx); rw [hr] at this; cases this)]
  | true =>
   refine WP.ite (fun h => absurd rfl h) (fun _ => WP.next ⟨k + 1, ⟨?_, hk2, ?_, s⟩, by omega⟩)
   ·rw [Zau (by omega) (by omega)]
    simp
   ·rw [htake]
    intro r hm
    rcases List.mem_append.1 hm with hm | hm
    ·exact ha r hm
    ·rw [List.mem_singleton.1 hm]
     exact hr
 ·have hk2 : k = m.nets.length := by omega
  rw [hk2, zI] at ha
  refine WP.step (Zww s e2 rb proto) (fun y w h => WP.done ?_)
  rw [if_neg (fun h' => h' ha)]
  exact h
theorem Zl4 (n lo hi : Int) : WP (ZbT n lo hi) w (fun y w' => y = inR n lo hi ∧ w = w') := by
 unfold ZbT inR
 refine WP.step (R := fun y w' => y = decide (lo ≤ n ∧ n ≤ hi) ∧ w = w') (WP.ite (fun h => ret ⟨decide_eq_decide.2 ⟨fun h' => ⟨h, h'⟩, fun h' => h'.2⟩, rfl⟩) (fun h => ret ⟨(zh (fun h' => h h'.1)).symm, rfl⟩)) (fun y w h => ret h)
theorem wand {β : Type} {a : Bool} {n lo hi : Int} {f : Bool → M β} {Q : β → World → Prop} (k : WP (f (a && inR n lo hi)) w Q) : WP ((if a = true then ZbT n lo hi >>= fun r => pure r else pure false) >>= f) w Q := by
 refine WP.step (R := fun y w' => y = (a && inR n lo hi) ∧ w = w') (WP.ite (fun h => WP.step (Zl4 n lo hi) ?_) (fun h => ret ⟨?_, rfl⟩)) ?_
 ·rintro _ _ ⟨rfl, rfl⟩
  exact ret ⟨by rw [h]; rfl, rfl⟩
 ·cases a
  ·rfl
  ·exact absurd rfl h
 rintro _ _ ⟨rfl, rfl⟩
 exact k
theorem Zoe {r : Zaf} {m : ZaR} (s : Ss W Hs w) (h : RdR Hs r m) (j : Bool) : WP (Za4.K1 r j) w (fun y w' => y = (if j = true then 165 else if ZdX m.From m.Kind m.Proto ≠ 0 then ZdX m.From m.Kind m.Proto else ZdX m.To m.Kind m.Proto) ∧ Ss W Hs w') := by
 unfold Za4.K1
 obtain ⟨⟨-, -, hk, hp, -⟩, hf, ht⟩ := h
 rw [hk, hp]
 refine WP.ite (fun h => ret ⟨by rw [if_pos h], s⟩) (fun h => ?_)
 rw [if_neg h]
 refine WP.step (Zlq s hf m.Kind m.Proto) ?_
 rintro _ w ⟨rfl, s⟩
 refine WP.ite (fun h => ret ⟨by rw [if_pos h], s⟩) (fun h => ?_)
 rw [if_neg h]
 refine WP.step (Zlq s ht m.Kind m.Proto) ?_
 rintro _ w ⟨rfl, s⟩
 exact ret ⟨rfl, s⟩
theorem Zsy {r : Zaf} {m : ZaR} (s : Ss W Hs w) (h : RdR Hs r m) (hs : 0 ≤ m.Set ∧ m.Set ≤ 255) (hc : 0 ≤ m.Clear ∧ m.Clear ≤ 255) (j : Bool) : WP (Za4.K2 r j) w (fun y w' => y = (if (j || decide (((m.Set ≠ 0 ∨ m.Clear ≠ 0) ∧ m.Proto ≠ 6) ∨ (m.Type_ ≠ 0 ∧ Zgp m.Proto = false))) = true then 165 else if ZdX m.From m.Kind m.Proto ≠ 0 then ZdX m.From m.Kind m.Proto else ZdX m.To m.Kind m.Proto) ∧ Ss W Hs w') := by
 have h0 := h
 obtain ⟨⟨-, -, -, hp, -, -, e1, e2, e3, -⟩, -, -⟩ := h
 unfold Za4.K2
 rw [hp, e1, e2, e3]
 refine WP.ite (fun h => ret ⟨by rw [h]; rfl, s⟩) (fun h => ?_)
 have hj : j = false := by cases j with
  | false => rfl
  | true => exact absurd rfl h
 subst hj
 rw [Bool.false_or]
 have hz := Zvp hs hc
 refine WP.step (R := fun y w' => y = decide ((m.Set ≠ 0 ∨ m.Clear ≠ 0) ∧ m.Proto ≠ 6) ∧ w = w') (WP.ite (fun h => ret ⟨?_, rfl⟩) (fun h => ret ⟨?_, rfl⟩)) ?_
 ·rw [zj, bne_iff_ne, ze]
  exact ⟨fun h' => ⟨hz.1 h, h'⟩, fun h' => h'.2⟩
 ·exact (zh (fun h' => h (hz.2 h'.1))).symm
 rintro _ _ ⟨rfl, rfl⟩
 refine WP.ite (fun h => ?_) (fun h => ?_)
 ·have h' := zd h
  refine (Zoe s h0 _).mono ?_
  rintro y w ⟨rfl, s⟩
  rw [if_pos h, if_pos (zb (.inl h'))]
  exact ⟨rfl, s⟩
 ·have h' : ¬ ((m.Set ≠ 0 ∨ m.Clear ≠ 0) ∧ m.Proto ≠ 6) := fun h' => h (zb h')
  refine WP.step (R := fun y w' => y = decide (((m.Set ≠ 0 ∨ m.Clear ≠ 0) ∧ m.Proto ≠ 6) ∨ (m.Type_ ≠ 0 ∧ Zgp m.Proto = false)) ∧ w = w') (WP.ite (fun h2 => WP.step (Zrc m.Proto) ?_) (fun h2 => ret ⟨?_, rfl⟩)) ?_
  ·rintro _ _ ⟨rfl, rfl⟩
   refine ret ⟨?_, rfl⟩
   cases ht : Zgp m.Proto with
   | false => exact (zb (.inr ⟨h2, rfl⟩)).symm
   | true => exact (zh (fun h3 => h3.elim h' (fun h3 => by cases h3.2))).symm
  ·exact (zh (fun h3 => h3.elim h' (fun h3 => h2 h3.1))).symm
  rintro _ _ ⟨rfl, rfl⟩
  exact Zoe s h0 _
theorem Zo3 {r : Zaf} {m : ZaR} (s : Ss W Hs w) (h : RdR Hs r m) : WP (Za4 r) w (fun y w' => y = ckM m ∧ Ss W Hs w') := by
 have h0 := h
 obtain ⟨⟨c1, c2, c3, c4, c5, c6, c7, c8, c9, c10⟩, -, -⟩ := h
 unfold Za4
 rw [c1, c2, c3, c4, c5, c6, c7, c8, c9]
 refine WP.slot' s (fun _ w s => WP.step (Zl4 m.Act 1 3) ?_)
 rintro _ _ ⟨rfl, rfl⟩
 refine wand (wand (wand (wand (wand (wand (wand (wand ?_)))))))
 have hf : ∀ {a : Bool}, (a = true → (0 ≤ m.Set ∧ m.Set ≤ 255) ∧ (0 ≤ m.Clear ∧ m.Clear ≤ 255)) → ((if a = true then pure (band .i64 m.Set m.Clear == 0) else pure false : M Bool)) = pure (a && !Zji m.Set m.Clear) := by
  intro a ha
  cases a with
  | false => rfl
  | true =>
   have := ZsD (ha rfl).1 (ha rfl).2
   rw [if_pos rfl, Bool.true_and]
   congr 1
   rw [zj, zq, this]
   simp
 rw [hf (fun h => by
  simp only [Bool.and_eq_true, inR, ze] at h
  exact ⟨h.1.1.2, h.1.2⟩)]
 refine WP.step (R := fun y w' => y = Znx m ∧ w = w') (ret ⟨rfl, rfl⟩) ?_
 rintro _ _ ⟨rfl, rfl⟩
 unfold ckM
 cases hfm : Znx m with
 | false => exact WP.ite (fun _ => ret ⟨rfl, s⟩) (fun h => absurd (by decide) h)
 | true =>
  rw [if_neg (show ¬ (true = false) by decide)]
  refine WP.ite (fun h => absurd rfl h) (fun _ => ?_)
  have hb : (0 ≤ m.Set ∧ m.Set ≤ 255) ∧ (0 ≤ m.Clear ∧ m.Clear ≤ 255) := by
   unfold Znx at hfm
   simp only [Bool.and_eq_true, inR, ze] at hfm
   exact ⟨hfm.1.1.1.2, hfm.1.1.2⟩
  have fin : ∀ {w : World} {j : Bool}, Ss W Hs w → (j = decide ((m.Class ≠ 0 ∧ m.Act ≠ 1) ∨ (m.Proto ≠ 0 ∧ m.Kind = 1))) → WP (Za4.K2 r j) w (fun y w' => y = (if ZmQ m = true then 165 else if ZdX m.From m.Kind m.Proto ≠ 0 then ZdX m.From m.Kind m.Proto else ZdX m.To m.Kind m.Proto) ∧ Ss W Hs w') := by
   intro w j s hj
   have hcl : ZmQ m = (j || decide (((m.Set ≠ 0 ∨ m.Clear ≠ 0) ∧ m.Proto ≠ 6) ∨ (m.Type_ ≠ 0 ∧ Zgp m.Proto = false))) := by
    rw [hj]
    unfold ZmQ
    rw [zj]
    simp only [Bool.or_eq_true, ze]
    exact ⟨fun h => h.elim (fun h => .inl (.inl h)) (fun h => h.elim (fun h => .inl (.inr h)) .inr), fun h => h.elim (fun h => h.elim .inl (fun h => .inr (.inl h))) (fun h => .inr (.inr h))⟩
   rw [hcl]
   exact Zsy s h0 hb.1 hb.2 j
  refine WP.step (R := fun y w' => y = decide (m.Class ≠ 0 ∧ m.Act ≠ 1) ∧ w = w') (WP.ite (fun h => ret ⟨?_, rfl⟩) (fun h => ret ⟨?_, rfl⟩)) ?_
  ·rw [zj, bne_iff_ne, ze]
   exact ⟨fun h' => ⟨h, h'⟩, fun h' => h'.2⟩
  ·exact (zh (fun h' => h h'.1)).symm
  rintro _ _ ⟨rfl, rfl⟩
  refine WP.ite (fun h => fin s ?_) (fun h => ?_)
  ·rw [h, zb (.inl (zd h))]
  ·have h' : ¬ (m.Class ≠ 0 ∧ m.Act ≠ 1) := fun h' => h (zb h')
   refine WP.step (R := fun y w' => y = decide ((m.Class ≠ 0 ∧ m.Act ≠ 1) ∨ (m.Proto ≠ 0 ∧ m.Kind = 1)) ∧ w = w') (WP.ite (fun h => ret ⟨?_, rfl⟩) (fun h => ret ⟨?_, rfl⟩)) ?_
   ·rw [zj, zq, ze]
    exact ⟨fun h2 => .inr ⟨h, h2⟩, fun h2 => h2.elim (fun h2 => absurd h2 h') (fun h2 => h2.2)⟩
   ·exact (zh (fun h2 => h2.elim h' (fun h2 => h h2.1))).symm
   rintro _ _ ⟨rfl, rfl⟩
   exact fin s rfl
end
def dec5 (n : Nat) : List Int := (if n < 10000 then [] else [48 + ((n / 10000 : Nat) : Int)]) ++ [48 + ((n % 10000 / 100 / 10 : Nat) : Int), 48 + ((n % 10000 / 100 % 10 : Nat) : Int), 48 + ((n % 10000 % 100 / 10 : Nat) : Int), 48 + ((n % 10000 % 100 % 10 : Nat) : Int)]
def nd5 (n : Nat) : Nat := if n < 10000 then 4 else 5
theorem ZoO (n : Nat) : (dec5 n).length = nd5 n := by
 unfold dec5 nd5
 split <;> rfl
theorem Zod {n : Nat} (h : n < 1000) : decM (n : Int) = dec3 n := by
 unfold decM dec3
 rw [zg]
 by_cases h1 : n < 10
 ·rw [if_pos h1, decF, if_pos h1]
 rw [if_neg h1, decF, if_neg h1]
 by_cases h2 : n < 100
 ·rw [if_pos h2, decF, if_pos (by omega)]
  rfl
 ·rw [if_neg h2, decF, if_neg (by omega), decF, if_pos (by omega), Nat.div_div_eq_div_mul]
  rfl
theorem ZrM {n : Nat} (h0 : 1000 ≤ n) (h : n < 65536) : decM (n : Int) = dec5 n := by
 unfold decM dec5
 rw [zg]
 rw [decF, if_neg (by omega), decF, if_neg (by omega), decF, if_neg (by omega)]
 by_cases h1 : n < 10000
 ·rw [if_pos h1, decF, if_pos (by omega)]
  simp only [zN, zV, List.cons.injEq, and_true, true_and, Nat.div_div_eq_div_mul]
  omega
 ·rw [if_neg h1, decF, if_neg (by omega), decF, if_pos (by omega)]
  simp only [zN, zV, List.cons.injEq, and_true, true_and, Nat.div_div_eq_div_mul]
  omega
theorem Zu3 : ∀ q : _root_.Fin 256, 3 ≤ q.val → 8 + sb Zi6 (q.val : Int) ≤ 64 ∧ (((8 + sb Zi6 (q.val : Int)) * 78913).fdiv (2 ^ 18) = 3 ∧ q.val < 32 ∨ ((8 + sb Zi6 (q.val : Int)) * 78913).fdiv (2 ^ 18) = 4) := by decide +kernel
section
variable {W w : World} {Hs : List HP}
theorem Zuv {n : Nat} (h0 : 1000 ≤ n) (h : n < 65536) : WP (Zbj (n : Int)) w (fun r w' => r = Znw n ∧ w = w') := by
 have hs : (Zi6).size = 256 := by decide +kernel
 unfold Zbj
 refine WP.ite (fun h => absurd h (by omega)) (fun _ => ?_)
 unfold Zbj.K2
 refine WP.ite (fun h => absurd h (by omega)) (fun _ => ?_)
 unfold Zbj.K1 Znw
 have hd : Int.fdiv (n : Int) (2 ^ 8) = ((n / 256 : Nat) : Int) := ZlV n 256
 refine WP.ite (fun h => ?_) (fun h => absurd (by omega) h)
 rw [hd, Zgo (n := ((n / 256 : Nat) : Int)) (by omega) (by omega), hs]
 refine WP.chk ⟨by omega, by omega⟩ (ret ⟨?_, rfl⟩)
 have := Zj3 Zi6 ((n / 256 : Nat) : Int)
 rw [if_pos (by omega), Zau (n := 0 + 8) (by omega) (by omega), Zau (n := sb _ _) (by omega) (by omega), Zau (by omega) (by omega)]
 omega
theorem ZoB (s : Ss W Hs w) (i : Nat) (e : nth Hs i = some TabN) {n : Nat} (h0 : 1000 ≤ n) (h : n < 65536) : WP (Zcq (n : Int)) w (fun r w' => r = (nd5 n : Int) ∧ w = w') := by
 unfold Zcq
 refine WP.step (Zuv h0 h) ?_
 rintro _ _ ⟨rfl, rfl⟩
 have hlen : Znw n = 8 + sb Zi6 ((n / 256 : Nat) : Int) := by unfold Znw; rw [if_pos (by omega)]
 obtain ⟨t2, t5⟩ := Zu3 ⟨n / 256, by omega⟩ (by simp only; omega)
 have t1 := Zj3 Zi6 ((n / 256 : Nat) : Int)
 simp only at t2 t5
 rw [← hlen] at t2 t5
 have hl : 0 ≤ Znw n := by rw [hlen]; omega
 have hd : l10 n = 3 ∧ n < 10000 ∨ l10 n = 4 := by
  unfold l10
  rcases t5 with ⟨t5, t6⟩ | t5
  ·exact .inl ⟨t5, by omega⟩
  ·exact .inr t5
 refine WP.step (R := fun r w' => r = l10 n ∧ w = w') ?_ ?_
 ·unfold Zc8
  refine ret ⟨?_, rfl⟩
  rw [Zau (by omega) (by omega)]
  rfl
 rintro _ _ ⟨rfl, rfl⟩
 have t3 : 0 ≤ l10 n := by omega
 have t4 : l10 n < 20 := by omega
 refine WP.idx t3 (by omega) ?_
 have hat : At (((cI .u64).arr 20).enc Zgv) ((l10 n).toNat * (cI .u64).n) ((cI .u64).enc (Zgv.g (l10 n) 0)) := At.arr t3 t4
 refine WP.ldh s i e (TabN.pow.at_ hat) rfl ?_
 have hg : (l10 n = 3 → Zgv.g (l10 n) 0 = 1000) ∧ (l10 n = 4 → Zgv.g (l10 n) 0 = 10000) := ⟨fun h => by rw [h]; rfl, fun h => by rw [h]; rfl⟩
 refine WP.step (R := fun r w' => r = (if (n : Int) ≥ Zgv.g (l10 n) 0 then 1 else 0) ∧ w = w') ?_ ?_
 ·unfold Zc9
  refine WP.ite (fun h => ret ⟨?_, rfl⟩) (fun h => ret ⟨?_, rfl⟩)
  ·exact (if_pos (zd h)).symm
  ·exact (if_neg (fun h' => h (zb h'))).symm
 rintro _ _ ⟨rfl, rfl⟩
 refine ret ⟨?_, rfl⟩
 unfold nd5
 rcases hd with ⟨h1, h2⟩ | h1
 ·rw [hg.1 h1, h1, if_pos (by omega), if_pos h2]
  rfl
 ·rw [hg.2 h1, h1]
  by_cases h2 : n < 10000
  ·rw [if_neg (by omega), if_pos h2]
   rfl
  ·rw [if_pos (by omega), if_neg h2]
   rfl
theorem stcW {β : Type} {a : Addr} {pre suf : List Int} {N : Nat} {k : Int} {ys : List Int} {v : Int} {f : Unit → M β} {Q : β → World → Prop} (s : Ss W (pts true a ((pre ++ ys ++ suf).flatMap (cI .u8).enc) :: Hs) w) (hl : ys.length = N) (k0 : 0 ≤ k) (k1 : k < N)
  (g : ∀ w', Ss W (pts true a ((pre ++ ys.set k.toNat v ++ suf).flatMap (cI .u8).enc) :: Hs) w' → WP (f ()) w' Q) : WP (idx (some (a.add pre.length)) N k 1 >>= fun p => st (cI .u8) p v >>= f) w Q := by
 refine WP.idx k0 (by omega) ?_
 have hk : pre.length + k.toNat < (pre ++ ys ++ suf).length := by simp only [zc]; omega
 refine WP.st s 0 rfl (o := (pre.length + k.toNat) * 1) (by rw [Zd4]; congr 1; omega) (ZuC (c := cI .u8) v hk) (fun w s => g w ?_)
 have e : (pre ++ ys ++ suf).set (pre.length + k.toNat) v = pre ++ ys.set k.toNat v ++ suf := by
  rw [zu, List.set_append_right _ _ (by omega), Nat.add_sub_cancel_left, List.set_append_left _ _ (by omega), ← zu]
 rw [e] at s
 exact s
theorem ZsC {a : Addr} {cap : Nat} {pre suf : List Int} (n : Nat) (h0 : 1000 ≤ n) (h : n < 65536) {xs : List Int} (hx : xs.length = nd5 n) (s : Ss W (pts true a ((pre ++ xs ++ suf).flatMap (cI .u8).enc) :: Hs) w) :
  WP (Zab ⟨some (a.add pre.length), nd5 n, cap⟩ (n : Int)) w (fun _ w' => Ss W (pts true a ((pre ++ dec5 n ++ suf).flatMap (cI .u8).enc) :: Hs) w') := by
 unfold Zab
 refine WP.loop (fun (p : Int × Int) w' => p = ((n : Int), ((nd5 n : Nat) : Int)) ∧ Ss W (pts true a ((pre ++ xs ++ suf).flatMap (cI .u8).enc) :: Hs) w') (fun _ _ => 0) ⟨rfl, s⟩ ?_
 clear s
 rintro _ w ⟨rfl, s⟩
 have hnd : nd5 n = 4 ∧ n < 10000 ∨ nd5 n = 5 ∧ ¬ n < 10000 := by
  unfold nd5
  split
  ·exact .inl ⟨rfl, ‹_›⟩
  ·exact .inr ⟨rfl, ‹_›⟩
 show WP (Zab.L1 _ (n : Int) ((nd5 n : Nat) : Int)) w _
 unfold Zab.L1
 refine WP.ite (fun h => absurd h (by omega)) (fun _ => ?_)
 refine WP.step ?_ (fun r w h => WP.done h)
 unfold Zab.K3
 have hw : wrap .u32 (n : Int) = (n : Int) := Zfp (by omega) (by omega)
 have hm : Int.tmod (n : Int) 10000 = ((n % 10000 : Nat) : Int) := Zop n 10000
 have hd : Int.tdiv (n : Int) 10000 = ((n / 10000 : Nat) : Int) := Zoq n 10000
 have hm2 : Int.tmod ((n % 10000 : Nat) : Int) 100 = ((n % 10000 % 100 : Nat) : Int) := Zop (n % 10000) 100
 have hd2 : Int.tdiv ((n % 10000 : Nat) : Int) 100 = ((n % 10000 / 100 : Nat) : Int) := Zoq (n % 10000) 100
 have dbl : ∀ k : Nat, k < 100 → wrap .u32 ((k : Int) * 2) = 2 * (k : Int) ∧ wrap .u32 (2 * (k : Int) + 1) = 2 * (k : Int) + 1 := fun k hk => ⟨by rw [Zfp (by omega) (by omega)]; omega, Zfp (by omega) (by omega)⟩
 obtain ⟨b1, b2⟩ := dbl (n % 10000 % 100) (by omega)
 obtain ⟨c1, c2⟩ := dbl (n % 10000 / 100) (by omega)
 obtain ⟨q1, q2⟩ := Ztb ⟨n % 10000 % 100, by omega⟩
 obtain ⟨r1, r2⟩ := Ztb ⟨n % 10000 / 100, by omega⟩
 simp only at q1 q2 r1 r2
 refine WP.ite (fun _ => WP.draw' s (fun w s => ?_)) (fun h => absurd (by omega) h)
 rw [hw, hm, hm2, hd2, hd, b1, b2, Zfp (n := ((n % 10000 / 100 : Nat) : Int)) (by omega) (by omega), c1, c2, q1, q2, r1, r2, Zjz]
 refine WP.chk ⟨by omega, by omega⟩ (WP.chk ⟨by omega, by omega⟩ ?_)
 rw [Zau (n := ((nd5 n : Nat) : Int) - 1) (by omega) (by omega), Zau (n := ((nd5 n : Nat) : Int) - 2) (by omega) (by omega), Zau (n := ((nd5 n : Nat) : Int) - 3) (by omega) (by omega), Zau (n := ((nd5 n : Nat) : Int) - 4) (by omega) (by omega)]
 refine stcW (N := nd5 n) s hx (by omega) (by omega) (fun w s => ?_)
 refine stcW (N := nd5 n) s (by rw [zS]; exact hx) (by omega) (by omega) (fun w s => WP.draw' s (fun w s => ?_))
 refine WP.chk ⟨by omega, by omega⟩ (WP.chk ⟨by omega, by omega⟩ ?_)
 refine stcW (N := nd5 n) s (by rw [zS, zS]; exact hx) (by omega) (by omega) (fun w s => ?_)
 refine stcW (N := nd5 n) s (by rw [zS, zS, zS]; exact hx) (by omega) (by omega) (fun w s => ?_)
 unfold Zab.K2
 refine WP.ite (fun h => absurd h (by omega)) (fun _ => ?_)
 unfold Zab.K1
 rcases hnd with ⟨h1, h2⟩ | ⟨h1, h2⟩
 ·rw [h1] at s hx ⊢
  obtain ⟨x1, x2, x3, x4, rfl⟩ : ∃ x1 x2 x3 x4, xs = [x1, x2, x3, x4] := by
   match xs, hx with
   | [x1, x2, x3, x4], _ => exact ⟨x1, x2, x3, x4, rfl⟩
  refine WP.ite (fun h => absurd h (by decide)) (fun _ => ret ?_)
  have e : dec5 n = [48 + ((n % 10000 / 100 / 10 : Nat) : Int), 48 + ((n % 10000 / 100 % 10 : Nat) : Int), 48 + ((n % 10000 % 100 / 10 : Nat) : Int), 48 + ((n % 10000 % 100 % 10 : Nat) : Int)] := by unfold dec5; rw [if_pos h2]; rfl
  rw [e]
  exact s
 ·rw [h1] at s hx ⊢
  obtain ⟨x1, x2, x3, x4, x5, rfl⟩ : ∃ x1 x2 x3 x4 x5, xs = [x1, x2, x3, x4, x5] := by
   match xs, hx with
   | [x1, x2, x3, x4, x5], _ => exact ⟨x1, x2, x3, x4, x5, rfl⟩
  have e : dec5 n = [48 + ((n / 10000 : Nat) : Int), 48 + ((n % 10000 / 100 / 10 : Nat) : Int), 48 + ((n % 10000 / 100 % 10 : Nat) : Int), 48 + ((n % 10000 % 100 / 10 : Nat) : Int), 48 + ((n % 10000 % 100 % 10 : Nat) : Int)] := by unfold dec5; rw [if_neg h2]; rfl
  refine WP.ite (fun _ => ?_) (fun h => absurd (by decide) h)
  have e1 : wrap .u8 (wrap .u32 (48 + wrap .u32 ((n / 10000 : Nat) : Int))) = 48 + ((n / 10000 : Nat) : Int) := by
   rw [Zfp (n := ((n / 10000 : Nat) : Int)) (by omega) (by omega), Zfp (by omega) (by omega), Zgo (by omega) (by omega)]
  rw [e1]
  refine stcW (N := 5) s rfl (by omega) (by decide) (fun w s => ret ?_)
  rw [e]
  exact s
theorem Zo0 (s : Ss W Hs w) (i : Nat) (e : nth Hs i = some TabN) {n : Nat} (h0 : 1000 ≤ n) (h : n < 65536) : WP (ZaX (n : Int) 10) w (fun r w' => r = bstr (dec5 n) ∧ Ss W Hs w') := by
 unfold ZaX
 refine WP.ite (fun _ => ?_) (fun h => absurd rfl h)
 refine WP.step (R := fun y w' => y = decide (n < 100) ∧ w = w') (WP.ite (fun _ => ret ⟨?_, rfl⟩) (fun h => absurd (by omega) h)) ?_
 ·exact decide_eq_decide.2 ⟨fun h => by omega, fun h => by omega⟩
 rintro _ _ ⟨rfl, rfl⟩
 refine WP.ite (fun h' => absurd (zd h') (by omega)) (fun h' => ?_)
 refine WP.newv s (fun b w s => ?_)
 refine WP.ite (fun h => absurd h (by omega)) (fun _ => ?_)
 rw [ZgH (by omega) (by omega)]
 unfold ZaX.K1
 refine WP.step (ZoB s (i + 1) e h0 h) ?_
 rintro _ _ ⟨rfl, rfl⟩
 have hnd : nd5 n = 4 ∨ nd5 n = 5 := by
  unfold nd5
  split
  ·exact .inl rfl
  ·exact .inr rfl
 rw [Zau (by omega) (by omega)]
 have hs : Ss W (pts true (pt b 0) (([0] ++ List.replicate (nd5 n) 0 ++ List.replicate (23 - nd5 n) 0 : List Int).flatMap (cI .u8).enc) :: Hs) w := by
  rw [Cod.arr_enc] at s
  rcases hnd with h | h <;> rw [h] <;> exact s
 refine WP.cutlh (by omega) (by omega) (by omega) (by omega) ?_
 have e1 : (1 + ((nd5 n : Nat) : Int)).toNat - (1 : Int).toNat = nd5 n := by omega
 rw [e1]
 refine WP.step (ZsC (a := pt b 0) (cap := 24 - (1 : Int).toNat) (pre := [0]) (suf := List.replicate (23 - nd5 n) 0) n h0 h (xs := List.replicate (nd5 n) 0) (by simp) hs) ?_
 rintro _ w s
 refine WP.ite (fun h => absurd h (by omega)) (fun _ => ?_)
 refine WP.cutlh (by omega) (by omega) (by omega) (by omega) ?_
 rw [e1]
 have hat : At (([0] ++ dec5 n ++ List.replicate (23 - nd5 n) 0 : List Int).flatMap (cI .u8).enc) ((1 : Int).toNat * 1) ((dec5 n).flatMap (cI .u8).enc) := by
  refine ⟨([0] : List Int).flatMap (cI .u8).enc, (List.replicate (23 - nd5 n) (0 : Int)).flatMap (cI .u8).enc, ?_, rfl⟩
  rw [zv, zv]
 have hr : Rdb (pts true (pt b 0) (([0] ++ dec5 n ++ List.replicate (23 - nd5 n) 0 : List Int).flatMap (cI .u8).enc)) (cI .u8) ⟨some ((pt b 0).add ((1 : Int).toNat * 1)), nd5 n, 24 - (1 : Int).toNat⟩ (dec5 n) := by
  have := ((ZdI.pts (q := true) (a := pt b 0)).at_ hat).rdb (c := cI .u8) (k := 24 - (1 : Int).toNat)
  rw [ZoO] at this
  exact this
 refine WP.toStr s 0 rfl hr (ret ⟨rfl, s.drop⟩)
theorem ZhV (s : Ss W Hs w) (i : Nat) (e : nth Hs i = some TabN) {v : Int} (h0 : 0 ≤ v) (h : v < 65536) : WP (ZbR v) w (fun r w' => r = bstr (decM v) ∧ Ss W Hs w') := by
 obtain ⟨n, rfl⟩ : ∃ n : Nat, v = (n : Int) := ⟨v.toNat, by omega⟩
 by_cases hn : n < 1000
 ·rw [Zod hn]
  exact Zq6 s i e hn
 ·rw [ZrM (by omega) (by omega)]
  unfold ZbR
  refine WP.step (R := fun r w' => r = bstr (dec5 n) ∧ Ss W Hs w') ?_ (fun r w h => ret h)
  unfold ZeM
  exact WP.step (Zo0 s i e (by omega) (by omega)) (fun r w h => ret h)
end
section
variable {W w : World} {Hs : List HP}
end
theorem ZoK : ∀ k : _root_.Fin 16, hexV (hexd k.val) = (k.val : Int) := by decide +kernel
theorem Zke {k : Nat} (h : k < 16) : hexV (hexd k) = (k : Int) := ZoK ⟨k, h⟩
theorem ZkO {k : Nat} (h : k < 16) : Zhl (hexd k) = true := by
 unfold Zhl
 rw [Zke h]
 exact zb (by omega)
end
section
open Go Go.Proofs Go.RowKit
end
section
open Go Go.Proofs Go.RowKit
end
section
open Go Go.Proofs Go.RowKit
theorem ZtT : ∀ (f n : Nat), n < 16 ^ (f + 1) → n < 65536 → (∀ c ∈ hexL f n, Zhl c = true) ∧ hexN (hexL f n) = n ∧ 0 < (hexL f n).length ∧ (hexL f n).length ≤ f + 1
 | 0, n, h, _ => by
  have h : n < 16 := by simpa using h
  have e : hexL 0 n = [hexd n] := by
   unfold hexL
   rw [Nat.mod_eq_of_lt h]
  rw [e]
  refine ⟨fun c hc => ?_, ?_, by simp, by simp⟩
  ·rw [zG] at hc
   subst hc
   exact ZkO h
  ·show 0 * 16 % 1048576 + (hexV (hexd n)).toNat = n
   rw [Zke h]
   simp
 | f + 1, n, h, h5 => by
  unfold hexL
  split
  ·rename_i h
   refine ⟨fun c hc => ?_, ?_, by simp, by simp⟩
   ·rw [zG] at hc
    subst hc
    exact ZkO h
   ·show 0 * 16 % 1048576 + (hexV (hexd n)).toNat = n
    rw [Zke h]
    simp
  ·obtain ⟨i1, i2, i3, i4⟩ := ZtT f (n / 16) (by rw [Nat.pow_succ] at h; omega) (by omega)
   refine ⟨fun c hc => ?_, ?_, by simp, by simp; omega⟩
   ·rcases List.mem_append.1 hc with hc | hc
    ·exact i1 c hc
    ·rw [zG] at hc
     subst hc
     exact ZkO (by omega)
   ·rw [Zkf, i2, Zke (by omega)]
    omega
theorem Zwq {n : Nat} (h : n < 65536) : (∀ c ∈ hex4 n, Zhl c = true) ∧ hexN (hex4 n) = n ∧ 0 < (hex4 n).length ∧ (hex4 n).length ≤ 4 := ZtT 3 n (by simpa using h) h
structure Grp (mid : List Int) (n : Nat) : Prop where
 x : ∀ c ∈ mid, Zhl c = true
 p : 0 < mid.length
 q : mid.length ≤ 4
 v : hexN mid = n
inductive Grps : List (List Int) → List Nat → Prop
 | nil : Grps [] []
 | cons {m : List Int} {n : Nat} {ms : List (List Int)} {ns : List Nat} (g : Grp m n) (h : Grps ms ns) : Grps (m :: ms) (n :: ns)
theorem Grps.len {ms : List (List Int)} {ns : List Nat} (h : Grps ms ns) : ms.length = ns.length := by
 induction h with
 | nil => rfl
 | cons _ _ ih => simp [ih]
end
section
open Go Go.Proofs Go.RowKit
end
section
open Go Go.Proofs Go.RowKit
end
section
open Go Go.Proofs Go.RowKit
end
section
open Go Go.Proofs Go.RowKit
end
section
open Go Go.Proofs Go.RowKit
end
section
open Go Go.Proofs Go.RowKit
end
section
open Go Go.Proofs Go.RowKit
theorem Zjo {l : List Int} (h : l.all (fun x => decide (0 ≤ x ∧ x ≤ 255)) = true) : Byt l := fun x hx => zd (List.all_eq_true.1 h x hx)
theorem ZfW {v : Int} (h0 : 0 ≤ v) (h : v < 65536) : (decM v).length ≤ 5 ∧ 0 < (decM v).length ∧ Byt (decM v) := by
 obtain ⟨n, rfl⟩ : ∃ n : Nat, v = (n : Int) := ⟨v.toNat, by omega⟩
 by_cases hn : n < 1000
 ·rw [Zod hn]
  refine ⟨?_, ?_, ZlW hn⟩
  ·rw [ZhP]
   unfold ndig
   split
   ·omega
   ·split <;> omega
  ·rw [ZhP]
   unfold ndig
   split
   ·omega
   ·split <;> omega
 ·rw [ZrM (by omega) (by omega)]
  refine ⟨?_, ?_, ?_⟩
  ·rw [ZoO]
   unfold nd5
   split <;> omega
  ·rw [ZoO]
   unfold nd5
   split <;> omega
  ·unfold dec5
   refine Byt.app ?_ ?_
   ·split
    ·intro x hx
     cases hx
    ·intro x hx
     rw [List.mem_singleton.1 hx]
     omega
   ·intro x hx
    simp only [zU, List.not_mem_nil, or_false] at hx
    omega
theorem ZmO {gs : List Nat} (hl : gs.length ≤ 8) : (colM gs).length ≤ 40 := by
 have := Zkd (sep := [58]) (l := gs.map hex4) (k := 4) (fun x hx => by
  obtain ⟨y, _, rfl⟩ := List.mem_map.1 hx
  exact (ZlS 3 y).2)
 rw [zl] at this
 unfold colM
 simp only [zf, zi] at this
 omega
theorem Zsh {ip : Zbw} : (prIP ip).length ≤ 82 := by
 have hl := ip.A.h
 unfold prIP
 split
 ·have := Zkl (xs := ip.A.l.take 4) (by rw [zm]; omega)
  omega
 ·split
  ·have := Zkl (xs := ip.A.l.drop 12) (by rw [zw]; omega)
   rw [zc]
   simp only [zf, zi]
   omega
  ·have hg := ZoL ip.A.l
   split
   ·have := ZmO (gs := grps ip.A.l) (by omega)
    omega
   ·have h1 := ZmO (gs := (grps ip.A.l).take (ZfP (grps ip.A.l)).1.toNat) (by rw [zm]; omega)
    have h2 := ZmO (gs := (grps ip.A.l).drop ((ZfP (grps ip.A.l)).1.toNat + (ZfP (grps ip.A.l)).2)) (by rw [zw]; omega)
    rw [zc, zc]
    simp only [zf, zi]
    omega
theorem Zpy {ip : Zbw} (hb : Byt ip.A.l) : Byt (prIP ip) := by
 have dot : ∀ {a : List Int}, Byt a → Byt (dotM a) := fun {a} hb => ZpP (Zjo (by decide)) (fun x hx => by
  obtain ⟨y, hy, rfl⟩ := List.mem_map.1 hx
  have := hb y hy
  exact ZlW (by omega))
 have col : ∀ {gs : List Nat}, (∀ g ∈ gs, g < 65536) → Byt (colM gs) := fun {gs} hg => ZpP (Zjo (by decide)) (fun x hx => by
  obtain ⟨y, hy, rfl⟩ := List.mem_map.1 hx
  intro c hc
  have := (Zwq (hg y hy)).1 c hc
  unfold Zhl hexV at this
  have := zd this
  split at this
  ·omega
  ·split at this
   ·omega
   ·split at this <;> omega)
 have hlt := ZtY hb
 unfold prIP
 split
 ·exact dot (fun x hx => hb x (List.mem_of_mem_take hx))
 ·split
  ·exact Byt.app (Zjo (by decide)) (dot (fun x hx => hb x (List.mem_of_mem_drop hx)))
  ·split
   ·exact col hlt
   ·exact Byt.app (Byt.app (col (fun g hg => hlt g (List.mem_of_mem_take hg))) (Zjo (by decide))) (col (fun g hg => hlt g (List.mem_of_mem_drop hg)))
theorem Zub (n : Nat) : (dec3 n).length ≤ 3 := by
 rw [ZhP]
 unfold ndig
 split
 ·omega
 ·split <;> omega
theorem Zwb {p : Zag} (hb : Byt p.IP.A.l) (h : vpM p = 0) : (netT p).length ≤ 86 ∧ Byt (netT p) := by
 have hl := Zsh (ip := p.IP)
 obtain ⟨h1, h2, h3, h4⟩ := Zom h
 have h5 := Zj2 p.IP
 have h6 := Zub p.Len.toNat
 unfold netT
 split
 ·exact ⟨by omega, Zpy hb⟩
 ·refine ⟨by rw [zc, zf]; omega, Byt.app (Zpy hb) ?_⟩
  intro x hx
  rcases List.mem_cons.1 hx with rfl | hx
  ·omega
  ·exact ZlW (by omega) x hx
theorem Ztk {r : ZaH} (h : Zfb r = true) : (Zgd r).length ≤ 11 ∧ Byt (Zgd r) := by
 have h := zd h
 obtain ⟨a1, -, a3⟩ := ZfW (v := r.Lo) (by omega) (by omega)
 obtain ⟨b1, -, b3⟩ := ZfW (v := r.Hi) (by omega) (by omega)
 unfold Zgd
 split
 ·refine ⟨by rw [zc, zf]; omega, Byt.app a3 ?_⟩
  intro x hx
  rcases List.mem_cons.1 hx with rfl | hx
  ·omega
  ·exact b3 x hx
 ·exact ⟨by omega, a3⟩
theorem Zw9 {l : List (List Int)} (h : ∀ x ∈ l, Byt x) : (l.map bstr).map strI = l := by
 rw [List.map_map]
 conv => rhs; rw [← List.map_id l]
 exact List.map_congr_left (fun x hx => Zim (h x hx))
theorem Zhk {l : List (List Int)} (hl : l.length ≤ 100) (h : ∀ x ∈ l, x.length ≤ 100) : (ZgG [44] l).length ≤ 10100 := by
 have := Zkd (sep := [44]) h
 simp only [zf, zi] at this
 have : l.length * 101 ≤ 100 * 101 := Nat.mul_le_mul_right _ hl
 omega
section
variable {W w : World} {Hs : List HP}
theorem ZlR {sl : Sl} {ts : List (List Int)} {sp : List ByteArray} (s : Ss W Hs w) (i : Nat) (e : nth Hs i = some (vec cS sl (ts.map bstr) sp)) (hl : ts.length ≤ 100) (ht : ∀ x ∈ ts, x.length ≤ 100 ∧ Byt x) :
  WP (Zax sl str0) w (fun y w' => y = bstr (ZgG [44] ts) ∧ Ss W Hs w') := by
 have hv := s.vec_len (i := i) e
 refine (Zq5 s i e ZcB (by omega) (by rw [zl]; exact hl) (fun x hx => ?_) (by decide +kernel)).mono ?_
 ·obtain ⟨y, hy, rfl⟩ := List.mem_map.1 hx
  rw [ZeA]
  exact (ht y hy).1
 ·rintro y w ⟨rfl, s⟩
  rw [Zw9 (fun x hx => (ht x hx).2), show strI str0 = [44] by decide +kernel]
  exact ⟨rfl, s⟩
theorem chkb {β : Type} {a b : List Int} {f : Unit → M β} {Q : β → World → Prop} (ha : a.length ≤ 1000000) (hb : b.length ≤ 1000000) (k : WP (f ()) w Q) : WP (chk ((((bstr a).size + (bstr b).size : Nat) : Int) ≤ 9223372036854775807) >>= f) w Q :=
 WP.chk (by rw [ZeA, ZeA]; omega) k
theorem Zxo : ZuJ = bstr (tx " port ") := by decide +kernel
theorem c_sp : ZfL = bstr [32] := by decide +kernel
theorem Zxu : str7 = bstr (tx "any") := by decide +kernel
theorem ZxS : Zs9 = bstr (tx "not ") := by decide +kernel
theorem Zxr : Zpe = bstr [45] := by decide +kernel
def ZnW (ts : List (List Int)) : List Int := if ts = [] then [] else tx " port " ++ ZgG [44] ts
theorem ZkG {sl : Sl} {ts : List (List Int)} {sp : List ByteArray} {J : List Int} (s : Ss W Hs w) (i : Nat) (e : nth Hs i = some (vec cS sl (ts.map bstr) sp)) (hl : ts.length ≤ 16) (ht : ∀ x ∈ ts, x.length ≤ 100 ∧ Byt x) (hJ : J.length ≤ 100000) :
  WP (Zaw.K1 sl (bstr J)) w (fun y w' => y = bstr (J ++ ZnW ts) ∧ Ss W Hs w') := by
 unfold Zaw.K1 ZnW
 have hv := (s.vec_len (i := i) e).1
 rw [zl] at hv
 refine WP.ite (fun h => ?_) (fun h => ret ⟨?_, s⟩)
 ·rw [if_neg (fun h' => by rw [h'] at hv; simp only [zi] at hv; omega)]
  refine WP.step (ZlR s i e (by omega) ht) ?_
  rintro _ w ⟨rfl, s⟩
  have hj := Zhk (l := ts) (by omega) (fun x hx => (ht x hx).1)
  rw [Zxo]
  refine chkb (by decide) (by omega) ?_
  rw [catb]
  refine chkb (by omega) (by rw [zc]; have : (tx " port ").length = 6 := rfl; omega) (ret ⟨?_, s⟩)
  rw [catb]
 ·rw [if_pos (List.length_eq_zero_iff.1 (by omega)), zJ]
theorem Zsb {a1 : Zar} {m : Zek} {nm : List Int} {s2 s18 : Sl} {ns ts : List (List Int)} {sp sp2 : List ByteArray} (s : Ss W Hs w) (hno : a1.Not = m.Not) (i : Nat) (e : nth Hs i = some (vec cS s2 (ns.map bstr) sp)) (j : Nat) (e2 : nth Hs j = some (vec cS s18 (ts.map bstr) sp2))
  (hn : ns.length ≤ 16) (hl : ts.length ≤ 16) (hns : ∀ x ∈ ns, x.length ≤ 100 ∧ Byt x) (ht : ∀ x ∈ ts, x.length ≤ 100 ∧ Byt x) (hnm : nm.length ≤ 10) :
  WP (Zaw.K3 (bstr nm) a1 s2 s18) w (fun y w' => y = bstr ([32] ++ nm ++ [32] ++ (if ns = [] then tx "any" else (if m.Not = true then tx "not " else []) ++ ZgG [44] ns) ++ ZnW ts) ∧ Ss W Hs w') := by
 unfold Zaw.K3
 have hv := (s.vec_len (i := i) e).1
 rw [zl] at hv
 rw [c_sp]
 refine chkb (by decide) (by omega) ?_
 rw [catb]
 refine chkb (by rw [zc]; simp only [zf, zi]; omega) (by decide) ?_
 rw [catb]
 have hh : ([32] ++ nm ++ [32]).length ≤ 12 := by simp only [zc, zf, zi]; omega
 have hj := Zhk (l := ns) (by omega) (fun x hx => (hns x hx).1)
 refine WP.ite (fun h => ?_) (fun h => ?_)
 ·rw [if_pos (List.length_eq_zero_iff.1 (by omega)), Zxu]
  refine chkb (by omega) (by decide) ?_
  rw [catb]
  exact ZkG s j e2 hl ht (by rw [zc]; have : (tx "any").length = 3 := rfl; omega)
 ·rw [if_neg (show ¬ ns = [] from fun h' => by rw [h'] at hv; simp only [zi] at hv; omega), hno]
  refine WP.ite (fun h2 => WP.step (ZlR s i e (by omega) hns) ?_) (fun h2 => WP.step (ZlR s i e (by omega) hns) ?_)
  ·rintro _ w ⟨rfl, s⟩
   have h4 : (tx "not ").length = 4 := rfl
   rw [if_pos h2, ZxS]
   refine chkb (by decide) (by omega) ?_
   rw [catb]
   refine chkb (by omega) (by rw [zc]; omega) ?_
   rw [catb]
   unfold Zaw.K2
   exact ZkG s j e2 hl ht (by simp only [zc, zf, zi] at hh ⊢; omega)
  ·rintro _ w ⟨rfl, s⟩
   rw [if_neg h2, zN]
   refine chkb (by omega) (by omega) ?_
   rw [catb]
   unfold Zaw.K2
   exact ZkG s j e2 hl ht (by rw [zc]; omega)
structure SdOk (m : Zek) : Prop where
 nets : ∀ p ∈ m.nets, Byt p.IP.A.l ∧ vpM p = 0
 ports : ∀ r ∈ m.ports, Zfb r = true
 n16 : m.nets.length ≤ 16
 p16 : m.ports.length ≤ 16
theorem SdOk.ns {m : Zek} (h : SdOk m) : ∀ x ∈ m.nets.map netT, x.length ≤ 100 ∧ Byt x := fun x hx => by
 obtain ⟨p, hp, rfl⟩ := List.mem_map.1 hx
 have := Zwb (h.nets p hp).1 (h.nets p hp).2
 exact ⟨by omega, this.2⟩
theorem SdOk.ps {m : Zek} (h : SdOk m) : ∀ x ∈ m.ports.map Zgd, x.length ≤ 100 ∧ Byt x := fun x hx => by
 obtain ⟨p, hp, rfl⟩ := List.mem_map.1 hx
 have := Ztk (h.ports p hp)
 exact ⟨by omega, this.2⟩
theorem Zsa {a1 : Zar} {m : Zek} {nm : List Int} {s2 : Sl} {sp : List ByteArray} (s : Ss W (vec cS s2 ((m.nets.map netT).map bstr) sp :: Hs) w) (r : RdSd Hs a1 m) (ok : SdOk m) (hnm : nm.length ≤ 10) (t : Nat) (et : nth Hs t = some TabN) :
  WP (Zaw.K4 (bstr nm) a1 s2) w (fun y w' => y = bstr ([32] ++ nm ++ [32] ++ (if m.nets.map netT = [] then tx "any" else (if m.Not = true then tx "not " else []) ++ ZgG [44] (m.nets.map netT)) ++ ZnW (m.ports.map Zgd)) ∧ Ss W Hs w') := by
 obtain ⟨hno, hb, ⟨i, A, e, ra⟩, ⟨j, B, e2, rb⟩⟩ := r
 have hp := (s.rd_len (i := j + 1) e2 rb).1
 have h16 := ok.p16
 unfold Zaw.K4
 refine WP.loopG (γ := Nat × List ByteArray) (fun g (p : Sl × Int) w => p.2 = (g.1 : Int) ∧ g.1 ≤ m.ports.length ∧ Ss W (vec cS p.1 (((m.ports.take g.1).map Zgd).map bstr) g.2 :: vec cS s2 ((m.nets.map netT).map bstr) sp :: Hs) w) (fun g _ => m.ports.length - g.1) (0, []) ⟨rfl, by simp, s.mk0 (A := vec cS Sl.nil [] []) Zcv⟩ ?_
 clear s
 rintro ⟨k, sp2⟩ ⟨sl, _⟩ w ⟨rfl, hk, s⟩
 simp only at hk s
 show WP (Zaw.L1 (bstr nm) a1 s2 sl (k : Int)) w _
 unfold Zaw.L1
 refine WP.ite (fun h => ?_) (fun h => ?_)
 ·have hk2 : k < m.ports.length := by omega
  have hx := za hk2
  have hok := ok.ports _ (zk hx)
  have htake : m.ports.take (k + 1) = m.ports.take k ++ [m.ports[k]] := by
   rw [zy, hx]
   rfl
  generalize m.ports[k] = x at hx hok htake
  have hr := zd hok
  have next : ∀ {w : World}, Ss W (vec cS sl (((m.ports.take k).map Zgd).map bstr) sp2 :: vec cS s2 ((m.nets.map netT).map bstr) sp :: Hs) w → ∀ (T : TypeId) (t : List Int), t = Zgd x → WP (slot T >>= fun b55 => appl cS 9 16 ByteArray.empty sl [bstr t] >>= fun r56 => pure (LS.next (r56, wrap .i64 ((k : Int) + 1)))) w (WP.Rd (fun s' w' => ∃ g' : Nat × List ByteArray, (s'.2 = (g'.1 : Int) ∧ g'.1 ≤ m.ports.length ∧ Ss W (vec cS s'.1 (((m.ports.take g'.1).map Zgd).map bstr) g'.2 :: vec cS s2 ((m.nets.map netT).map bstr) sp :: Hs) w') ∧ m.ports.length - g'.1 < m.ports.length - k) (fun y w' => y = bstr ([32] ++ nm ++ [32] ++ (if m.nets.map netT = [] then tx "any" else (if m.Not = true then tx "not " else []) ++ ZgG [44] (m.nets.map netT)) ++ ZnW (m.ports.map Zgd)) ∧ Ss W Hs w')) := by
   intro w s T t ht
   refine WP.slot' s (fun _ w s => ?_)
   refine WP.appl s 0 rfl (by simp only [zl, zm, zf, zi]; omega) (by decide) (fun sl' w sp' s => WP.next ⟨(k + 1, sp'), ⟨?_, by simp only; omega, ?_⟩, by simp only; omega⟩)
   ·rw [Zau (by omega) (by omega)]
    simp
   ·simp only
    rw [htake, zE, zE]
    subst ht
    exact s
  refine WP.rdx s (j + 2) e2 rb (by omega) (x := x) (by rw [zg]; exact hx) rfl (WP.slot' s (fun _ w s => ?_))
  refine WP.step (ZhV s (t + 2) et (v := x.Lo) (by omega) (by omega)) ?_
  rintro _ w ⟨rfl, s⟩
  have b1 := (ZfW (v := x.Lo) (by omega) (by omega)).1
  have b2 := (ZfW (v := x.Hi) (by omega) (by omega)).1
  refine WP.ite (fun h => ?_) (fun h => ?_)
  ·refine WP.step (ZhV s (t + 2) et (v := x.Hi) (by omega) (by omega)) ?_
   rintro _ w ⟨rfl, s⟩
   rw [Zxr]
   refine chkb (by decide) (by omega) ?_
   rw [catb]
   refine chkb (by omega) (by rw [zc]; simp only [zf, zi]; omega) ?_
   rw [catb]
   exact next s _ _ (by unfold Zgd; rw [if_pos h]; rfl)
  ·exact next s _ _ (by unfold Zgd; rw [if_neg h])
 ·have hk2 : k = m.ports.length := by omega
  subst hk2
  rw [zI] at s
  refine WP.step (Zsb s hno 1 rfl 0 rfl (by rw [zl]; exact ok.n16) (by rw [zl]; exact ok.p16) ok.ns ok.ps hnm) (fun y w h => WP.done ?_)
  exact ⟨h.1, h.2.drop.drop⟩
theorem Zre {a1 : Zar} {m : Zek} {nm : List Int} (s : Ss W Hs w) (r : RdSd Hs a1 m) (ok : SdOk m) (hnm : nm.length ≤ 10) (t : Nat) (et : nth Hs t = some TabN) :
  WP (Zaw (bstr nm) a1) w (fun y w' => y = bstr (Zpg nm m) ∧ Ss W Hs w') := by
 have r0 := r
 obtain ⟨hno, hb, ⟨i, A, e, ra⟩, ⟨j, B, e2, rb⟩⟩ := r
 have hn := (s.rd_len e ra).1
 have hp := (s.rd_len e2 rb).1
 have h16 := ok.n16
 have p16 := ok.p16
 unfold Zaw
 refine WP.slot' s (fun _ w s => ?_)
 rw [Zau (by omega) (by omega)]
 have hz : (m.nets = [] ∧ m.ports = []) ↔ ((a1.Nets.len : Int) + (a1.Ports.len : Int) = 0) := by
  rw [hn, hp, ← List.length_eq_zero_iff, ← List.length_eq_zero_iff]
  omega
 unfold Zpg
 refine WP.ite (fun h => ret ⟨by rw [if_pos (hz.2 h)]; rfl, s⟩) (fun h => ?_)
 rw [if_neg (fun h' => h (hz.1 h'))]
 refine WP.loopG (γ := Nat × List ByteArray) (fun g (p : Sl × Int) w => p.2 = (g.1 : Int) ∧ g.1 ≤ m.nets.length ∧ Ss W (vec cS p.1 (((m.nets.take g.1).map netT).map bstr) g.2 :: Hs) w) (fun g _ => m.nets.length - g.1) (0, []) ⟨rfl, by simp, s.mk0 (A := vec cS Sl.nil [] []) Zcv⟩ ?_
 clear s
 rintro ⟨k, sp⟩ ⟨sl, _⟩ w ⟨rfl, hk, s⟩
 simp only at hk s
 show WP (Zaw.L2 (bstr nm) a1 sl (k : Int)) w _
 unfold Zaw.L2
 refine WP.ite (fun h => ?_) (fun h => ?_)
 ·have hk2 : k < m.nets.length := by omega
  have hx := za hk2
  have hok := ok.nets _ (zk hx)
  have htake : m.nets.take (k + 1) = m.nets.take k ++ [m.nets[k]] := by
   rw [zy, hx]
   rfl
  generalize m.nets[k] = x at hx hok htake
  obtain ⟨hxb, hv⟩ := hok
  obtain ⟨v0, v1, v2, v3⟩ := Zom hv
  have hz := Zj2 x.IP
  refine WP.rdx s (i + 1) e ra (by omega) (x := x) (by rw [zg]; exact hx) rfl (WP.slot' s (fun _ w s => ?_))
  refine WP.step (ZnB s (t + 1) et x hxb) ?_
  rintro _ w ⟨rfl, s⟩
  have hpp : ppM x = (bstr (prIP x.IP ++ 47 :: dec3 x.Len.toNat), 0) := by unfold ppM; rw [if_pos hv]
  have hpi : piM x.IP = (bstr (prIP x.IP), 0) := by unfold piM; rw [if_pos (by omega)]
  rw [hpp]
  refine WP.step (R := fun y w' => y = decide (x.Len = 32 ∧ x.IP.V = 4) ∧ w = w') (WP.ite (fun h => ret ⟨?_, rfl⟩) (fun h => ret ⟨(zh (fun h' => h h'.1)).symm, rfl⟩)) ?_
  ·rw [zj, zq, ze]
   exact ⟨fun h' => ⟨h, h'⟩, fun h' => h'.2⟩
  rintro _ _ ⟨rfl, rfl⟩
  refine WP.step (R := fun y w' => y = decide ((x.Len = 32 ∧ x.IP.V = 4) ∨ x.Len = 128) ∧ w = w') (WP.ite (fun h => ret ⟨(zb (.inl (zd h))).symm, rfl⟩) (fun h => ret ⟨?_, rfl⟩)) ?_
  ·rw [zj, zq, ze]
   exact ⟨.inr, fun h' => h'.elim (fun h' => absurd (zb h') h) id⟩
  rintro _ _ ⟨rfl, rfl⟩
  refine WP.ite (fun h => WP.step (Zoi s (t + 1) et x.IP hxb) ?_) (fun h => ?_)
  ·rintro _ w ⟨rfl, s⟩
   rw [hpi]
   refine WP.slot' s (fun _ w s => ?_)
   refine WP.appl s 0 rfl (by simp only [zl, zm, zf, zi]; omega) (by decide) (fun sl' w sp' s => WP.next ⟨(k + 1, sp'), ⟨?_, by simp only; omega, ?_⟩, by simp only; omega⟩)
   ·rw [Zau (by omega) (by omega)]
    simp
   ·simp only
    rw [htake, zE, zE]
    have : netT x = prIP x.IP := by unfold netT; rw [if_pos (zd h)]
    simp only [List.map_cons, List.map_nil]
    rw [this]
    exact s
  ·refine WP.slot' s (fun _ w s => ?_)
   refine WP.appl s 0 rfl (by simp only [zl, zm, zf, zi]; omega) (by decide) (fun sl' w sp' s => WP.next ⟨(k + 1, sp'), ⟨?_, by simp only; omega, ?_⟩, by simp only; omega⟩)
   ·rw [Zau (by omega) (by omega)]
    simp
   ·simp only
    rw [htake, zE, zE]
    have : netT x = prIP x.IP ++ 47 :: dec3 x.Len.toNat := by unfold netT; rw [if_neg (fun h' => h (zb h'))]
    simp only [List.map_cons, List.map_nil]
    rw [this]
    exact s
 ·have hk2 : k = m.nets.length := by omega
  subst hk2
  rw [zI] at s
  refine WP.step (Zsa s r0 ok hnm t et) (fun y w h => WP.done ⟨?_, h.2⟩)
  rw [h.1]
  unfold ZnW
  simp only [List.map_eq_nil_iff]
end
theorem Zp9 {m : Zek} {kind proto : Int} (hb : Byts m.nets) (h : ZdX m kind proto = 0) : SdOk m := by
 unfold ZdX at h
 split at h
 ·cases h
 ·rename_i h1
  split at h
  ·cases h
  ·rename_i h2
   split at h
   ·cases h
   ·rename_i h3
    split at h
    ·cases h
    ·rename_i h4
     refine ⟨fun p hp => ⟨hb p hp, ?_⟩, Decidable.not_not.1 h4, by omega, by omega⟩
     exact (zd (Decidable.not_not.1 h2 p hp)).1
theorem ZvM {m : ZaR} (h : ckM m = 0) : Znx m = true ∧ ZmQ m = false ∧ ZdX m.From m.Kind m.Proto = 0 ∧ ZdX m.To m.Kind m.Proto = 0 := by
 unfold ckM at h
 split at h
 ·cases h
 ·rename_i h1
  split at h
  ·cases h
  ·rename_i h2
   split at h
   ·rename_i h3
    exact absurd h h3
   ·rename_i h3
    refine ⟨?_, ?_, Decidable.not_not.1 h3, h⟩
    ·cases hf : Znx m with
     | true => rfl
     | false => exact absurd hf h1
    ·cases hf : ZmQ m with
     | false => rfl
     | true => exact absurd hf h2
structure Zo2 (m : ZaR) : Prop where
 act : 1 ≤ m.Act ∧ m.Act ≤ 3
 cls : 0 ≤ m.Class ∧ m.Class ≤ 7
 kind : 0 ≤ m.Kind ∧ m.Kind ≤ 3
 proto : 0 ≤ m.Proto ∧ m.Proto ≤ 255
 in_ : 0 ≤ m.In ∧ m.In ≤ 8
 vid : 0 ≤ m.Vid ∧ m.Vid ≤ 4094
 set_ : 0 ≤ m.Set ∧ m.Set ≤ 255
 clr : 0 ≤ m.Clear ∧ m.Clear ≤ 255
 typ : 0 ≤ m.Type_ ∧ m.Type_ ≤ 256
 apart : Zji m.Set m.Clear = false
theorem Zvi {m : ZaR} (h : Znx m = true) : Zo2 m := by
 unfold Znx at h
 simp only [Bool.and_eq_true, inR, ze] at h
 obtain ⟨⟨⟨⟨⟨⟨⟨⟨⟨h1, h2⟩, h3⟩, h4⟩, h5⟩, h6⟩, h7⟩, h8⟩, h9⟩, h10⟩ := h
 refine ⟨h1, h2, h3, h4, h5, h6, h7, h8, h9, ?_⟩
 cases hs : Zji m.Set m.Clear with
 | false => rfl
 | true => rw [hs] at h10; cases h10
theorem Zpf {m : Zek} {nm : List Int} (ok : SdOk m) (hnm : nm.length ≤ 10) : (Zpg nm m).length ≤ 30000 := by
 unfold Zpg
 have h1 := Zhk (l := m.nets.map netT) (by rw [zl]; have := ok.n16; omega) (fun x hx => (ok.ns x hx).1)
 have h2 := Zhk (l := m.ports.map Zgd) (by rw [zl]; have := ok.p16; omega) (fun x hx => (ok.ps x hx).1)
 have a1 : (tx "any").length = 3 := rfl
 have a2 : (tx "not ").length = 4 := rfl
 have a3 : (tx " port ").length = 6 := rfl
 split
 ·simp
 ·simp only [zc, zf, zi]
  have b1 : (if m.nets = [] then tx "any" else (if m.Not = true then tx "not " else []) ++ ZgG [44] (m.nets.map netT)).length ≤ 11000 := by
   split
   ·omega
   ·rw [zc]
    split
    ·omega
    ·simp only [zi]
     omega
  have b2 : (if m.ports = [] then [] else tx " port " ++ ZgG [44] (m.ports.map Zgd)).length ≤ 11000 := by
   split
   ·simp
   ·rw [zc]
    omega
  omega
def ZqV (m : ZaR) (k : Nat) : List (List Int) := (if hasB m.Set k = true then [ZhO.getD k []] else []) ++ (if hasB m.Clear k = true then [33 :: ZhO.getD k []] else [])
def Zhn (m : ZaR) (k : Nat) : List (List Int) := (List.range k).flatMap (ZqV m)
theorem ZjK (m : ZaR) (k : Nat) : Zhn m (k + 1) = Zhn m k ++ ZqV m k := by
 unfold Zhn
 rw [List.range_succ, zv]
 simp
theorem ZrF (m : ZaR) : Zhn m 8 = Zjn m := rfl
theorem ZrG : ∀ k : _root_.Fin 8, (ZhO.getD k.val []).length = 3 ∧ (ZhO.getD k.val []).all (fun x => decide (97 ≤ x ∧ x ≤ 122)) = true := by decide +kernel
theorem Zvg {m : ZaR} {k : Nat} (hk : k < 8) : (ZqV m k).length ≤ 2 ∧ ∀ x ∈ ZqV m k, x.length ≤ 100 ∧ Byt x := by
 obtain ⟨h1, h2⟩ := ZrG ⟨k, hk⟩
 simp only at h1 h2
 have hb : Byt (ZhO.getD k []) := fun x hx => by
  have := zd (List.all_eq_true.1 h2 x hx)
  omega
 have hb2 : Byt (33 :: ZhO.getD k []) := fun x hx => by
  rcases List.mem_cons.1 hx with rfl | hx
  ·omega
  ·exact hb x hx
 unfold ZqV
 refine ⟨?_, fun x hx => ?_⟩
 ·rw [zc]
  split <;> split <;> simp
 ·rcases List.mem_append.1 hx with hx | hx
  ·split at hx
   ·rw [List.mem_singleton.1 hx]
    exact ⟨by omega, hb⟩
   ·cases hx
  ·split at hx
   ·rw [List.mem_singleton.1 hx]
    exact ⟨by rw [zf]; omega, hb2⟩
   ·cases hx
theorem ZmG {m : ZaR} : ∀ k, k ≤ 8 → (Zhn m k).length ≤ 2 * k ∧ ∀ x ∈ Zhn m k, x.length ≤ 100 ∧ Byt x
 | 0, _ => ⟨by simp [Zhn], fun x hx => by simp [Zhn] at hx⟩
 | k + 1, h => by
  obtain ⟨a1, a2⟩ := ZmG (m := m) k (by omega)
  obtain ⟨b1, b2⟩ := Zvg (m := m) (k := k) (by omega)
  rw [ZjK]
  refine ⟨by rw [zc]; omega, fun x hx => ?_⟩
  rcases List.mem_append.1 hx with hx | hx
  ·exact a2 x hx
  ·exact b2 x hx
theorem Zwz : ZuL = bstr (tx " proto ") := by decide +kernel
theorem Zxt : ZwX = bstr (tx " any") := by decide +kernel
theorem ZxR : str1 = bstr (tx "tcp") := by decide +kernel
theorem ZxQ : str2 = bstr (tx "udp") := by decide +kernel
theorem Zxp : str3 = bstr (tx "icmp") := by decide +kernel
theorem ZwA : str4 = bstr (tx "icmp6") := by decide +kernel
theorem ZwC : Zs8 = bstr (tx " class ") := by decide +kernel
theorem c_on : Zs7 = bstr (tx " on p") := by decide +kernel
theorem ZxP : Zs6 = bstr (tx " vid ") := by decide +kernel
theorem Zxq : Zqs = bstr (tx "from") := by decide +kernel
theorem c_to : Zta = bstr (tx "to") := by decide +kernel
theorem ZwB : Zs5 = bstr (tx " flags ") := by decide +kernel
theorem Zxn : Zr6 = bstr (tx " type ") := by decide +kernel
theorem ZrP : Zs4 = bstr (tx " pieces") := by decide +kernel
theorem Zxs : Zr7 = bstr [33] := by decide +kernel
theorem Zuf : ByteArray.empty = bstr [] := by decide +kernel
theorem ZtN {i : Nat} (h : i < 3) : ZjJ[i]? = some (bstr (ZlB.getD i [])) := by
 unfold ZjJ
 rw [zD]
 match i, h with
 | 0, _ => rfl
 | 1, _ => rfl
 | 2, _ => rfl
theorem Zvu {i : Nat} (h : i < 3) : actB[i]? = some (bstr (actN.getD i [])) := by
 unfold actB
 rw [zD]
 match i, h with
 | 0, _ => rfl
 | 1, _ => rfl
 | 2, _ => rfl
theorem Zt1 {i : Nat} (h : i < 8) : Zho[i]? = some (bstr (ZhO.getD i [])) := by
 unfold Zho
 rw [zD]
 match i, h with
 | 0, _ => rfl
 | 1, _ => rfl
 | 2, _ => rfl
 | 3, _ => rfl
 | 4, _ => rfl
 | 5, _ => rfl
 | 6, _ => rfl
 | 7, _ => rfl
section
variable {W w : World} {Hs : List HP}
theorem ZvF {β : Type} {g : Nat} {l : List ByteArray} {k : Int} {x : ByteArray} {F : ByteArray → M β} {Q : β → World → Prop} (s : Ss W Hs w) (i : Nat) (e : nth Hs i = some (NmP g l)) (h0 : 0 ≤ k) (hx : l[k.toNat]? = some x) (K : WP (F x) w Q) :
  WP (ld cL ⟨g, 0, none⟩ >>= fun y => idx y.a y.len k 1 >>= fun p => ld cS p >>= F) w Q := by
 obtain ⟨sl, -, s1⟩ := (s.dup e Ro.nmP).openx 0 rfl
 have s1 : Ss W (pts false ⟨g, 0, none⟩ (cL.enc sl) :: rdS cS false sl l :: Hs) w := Ss.split (l := [_, _]) s1
 exact WP.ld (x := sl) s1 0 rfl (o := 0) (by simp [Addr.add]) (At.whole _) (WP.rdx s1 1 rfl ZbM h0 hx rfl K)
theorem Zpw (n : Int) : WP (ZdG n) w (fun y w' => y = bstr (Zgt n) ∧ w = w') := by
 unfold ZdG Zgt
 refine WP.ite (fun h => ret ⟨by rw [if_pos h]; exact ZxR, rfl⟩) (fun h => ?_)
 rw [if_neg h]
 refine WP.ite (fun h => ret ⟨by rw [if_pos h]; exact ZxQ, rfl⟩) (fun h => ?_)
 rw [if_neg h]
 refine WP.ite (fun h => ret ⟨by rw [if_pos h]; exact Zxp, rfl⟩) (fun h => ?_)
 rw [if_neg h]
 refine WP.ite (fun h => ret ⟨by rw [if_pos h]; exact ZwA, rfl⟩) (fun h => ?_)
 rw [if_neg h]
 exact ret ⟨Zuf, rfl⟩
theorem Zpv (n : Int) : (Zgt n).length ≤ 5 ∧ Byt (Zgt n) := by
 unfold Zgt
 split
 ·exact ⟨by decide, Zjo (by decide)⟩
 ·split
  ·exact ⟨by decide, Zjo (by decide)⟩
  ·split
   ·exact ⟨by decide, Zjo (by decide)⟩
   ·split
    ·exact ⟨by decide, Zjo (by decide)⟩
    ·exact ⟨by decide, fun x hx => by cases hx⟩
theorem Zpc {r : Zaf} {m : ZaR} {J : List Int} (s : Ss W Hs w) (sc : RSc r m) (hp : 0 ≤ m.Proto ∧ m.Proto ≤ 255) (hJ : J.length ≤ 100) (hk : m.Kind = 0 → J = []) (t : Nat) (et : nth Hs t = some TabN) :
  WP (Zb2.K1 r (bstr J)) w (fun y w' => y = bstr (J ++ (if Zgt m.Proto ≠ [] then [32] ++ Zgt m.Proto else if m.Proto > 0 then tx " proto " ++ decM m.Proto else if m.Kind = 0 then tx " any" else [])) ∧ Ss W Hs w') := by
 obtain ⟨-, -, h3, h4, -⟩ := sc
 unfold Zb2.K1
 rw [h3, h4]
 refine WP.step (Zpw m.Proto) ?_
 rintro _ _ ⟨rfl, rfl⟩
 obtain ⟨pl, pb⟩ := Zpv m.Proto
 have he : (bstr (Zgt m.Proto)).toList = ByteArray.empty.toList ↔ Zgt m.Proto = [] := by
  rw [Zch, Zim pb]
  exact Iff.rfl
 refine WP.ite (fun h => ?_) (fun h => ?_)
 ·have h' : Zgt m.Proto ≠ [] := fun h' => h (he.2 h')
  rw [if_pos h', c_sp]
  refine chkb (by decide) (by omega) ?_
  rw [catb]
  refine chkb (by omega) (by rw [zc]; simp only [zf, zi]; omega) (ret ⟨?_, s⟩)
  rw [catb]
 ·have h' : ¬ Zgt m.Proto ≠ [] := fun h' => h (fun h2 => h' (he.1 h2))
  rw [if_neg h']
  refine WP.ite (fun h2 => WP.step (ZhV s t et (v := m.Proto) (by omega) (by omega)) ?_) (fun h2 => ?_)
  ·rintro _ w ⟨rfl, s⟩
   have hd := (ZfW (v := m.Proto) (by omega) (by omega)).1
   have hc : (tx " proto ").length = 7 := rfl
   rw [if_pos h2, Zwz]
   refine chkb (by decide) (by omega) ?_
   rw [catb]
   refine chkb (by omega) (by rw [zc]; omega) (ret ⟨?_, s⟩)
   rw [catb]
  ·rw [if_neg h2]
   refine WP.ite (fun h3 => ret ⟨?_, s⟩) (fun h3 => ret ⟨?_, s⟩)
   ·rw [if_pos h3, hk h3, zN]
    exact Zxt
   ·rw [if_neg h3, zJ]
theorem ZvS {r : Zaf} {m : ZaR} (s : Ss W Hs w) (sc : RSc r m) (hp : 0 ≤ m.Proto ∧ m.Proto ≤ 255) (hk : 0 ≤ m.Kind ∧ m.Kind ≤ 3) (t : Nat) (et : nth Hs t = some TabN) (ik : Nat) (ek : nth Hs ik = some (NmP 1 ZjJ)) :
  WP (Zb2 r) w (fun y w' => y = bstr (Zqm m) ∧ Ss W Hs w') := by
 unfold Zb2 Zqm
 have sc0 := sc
 obtain ⟨-, -, h3, h4, -⟩ := sc
 rw [h3]
 refine WP.slot' s (fun _ w s => WP.ite (fun h => ?_) (fun h => ?_))
 ·rw [if_pos h, Zau (by omega) (by omega)]
  refine ZvF s ik ek (by omega) (ZtN (by omega)) ?_
  have hl : (ZlB.getD (m.Kind - 1).toNat []).length ≤ 3 := by
   have : ∀ k : _root_.Fin 3, (ZlB.getD k.val []).length ≤ 3 := by decide +kernel
   exact this ⟨(m.Kind - 1).toNat, by omega⟩
  rw [c_sp]
  refine chkb (by decide) (by omega) ?_
  rw [catb]
  exact Zpc s sc0 hp (by rw [zc]; simp only [zf, zi]; omega) (fun h' => absurd h' (by omega)) t et
 ·rw [if_neg h, Zuf]
  exact Zpc s sc0 hp (by simp) (fun _ => rfl) t et
theorem ZsN {m : ZaR} (hp : 0 ≤ m.Proto ∧ m.Proto ≤ 255) (hk : 0 ≤ m.Kind ∧ m.Kind ≤ 3) : (Zqm m).length ≤ 100 := by
 unfold Zqm
 have h1 := (Zpv m.Proto).1
 have hd := (ZfW (v := m.Proto) (by omega) (by omega)).1
 have hc : (tx " proto ").length = 7 := rfl
 have hc2 : (tx " any").length = 4 := rfl
 rw [zc]
 have b1 : (if m.Kind > 0 then [32] ++ ZlB.getD (m.Kind - 1).toNat [] else []).length ≤ 4 := by
  split
  ·have : ∀ k : _root_.Fin 3, (ZlB.getD k.val []).length ≤ 3 := by decide +kernel
   have := this ⟨(m.Kind - 1).toNat, by omega⟩
   simp only at this
   rw [zc]
   simp only [zf, zi]
   omega
  ·simp
 have b2 : (if Zgt m.Proto ≠ [] then [32] ++ Zgt m.Proto else if m.Proto > 0 then tx " proto " ++ decM m.Proto else if m.Kind = 0 then tx " any" else []).length ≤ 12 := by
  split
  ·rw [zc]
   simp only [zf, zi]
   omega
  ·split
   ·rw [zc]
    omega
   ·split
    ·omega
    ·simp
 omega
def pT (m : ZaR) : List Int := (if m.Type_ > 0 then tx " type " ++ decM (m.Type_ - 1) else []) ++ (if m.Pieces = true then tx " pieces" else [])
theorem ZnO {r : Zaf} {m : ZaR} {J : List Int} (s : Ss W Hs w) (sc : RSc r m) (f : Zo2 m) (hJ : J.length ≤ 200000) (t : Nat) (et : nth Hs t = some TabN) :
  WP (Zae.K1 r (bstr J)) w (fun y w' => y = bstr (J ++ pT m) ∧ Ss W Hs w') := by
 obtain ⟨-, -, -, -, -, -, -, -, h9, h10⟩ := sc
 unfold Zae.K1 pT
 rw [h9, h10]
 have ht := f.typ
 have hc : (tx " type ").length = 6 := rfl
 have hc2 : (tx " pieces").length = 7 := rfl
 refine WP.ite (fun h => ?_) (fun h => ?_)
 ·rw [Zau (by omega) (by omega)]
  have hd := (ZfW (v := m.Type_ - 1) (by omega) (by omega)).1
  refine WP.step (ZhV s t et (v := m.Type_ - 1) (by omega) (by omega)) ?_
  rintro _ w ⟨rfl, s⟩
  rw [if_pos h, Zxn]
  refine chkb (by decide) (by omega) ?_
  rw [catb]
  refine chkb (by omega) (by rw [zc]; omega) ?_
  rw [catb]
  refine WP.ite (fun h2 => ?_) (fun h2 => ret ⟨?_, s⟩)
  ·rw [if_pos h2, ZrP]
   refine chkb (by rw [zc, zc]; omega) (by decide) (ret ⟨?_, s⟩)
   rw [catb, zu]
  ·rw [if_neg h2, zJ]
 ·rw [if_neg h]
  refine WP.ite (fun h2 => ?_) (fun h2 => ret ⟨?_, s⟩)
  ·rw [if_pos h2, ZrP]
   refine chkb (by omega) (by decide) (ret ⟨?_, s⟩)
   rw [catb]
   rfl
  ·rw [if_neg h2]
   simp
def pF (m : ZaR) : List Int := if Zjn m = [] then [] else tx " flags " ++ ZgG [44] (Zjn m)
theorem Zr0 {r : Zaf} {m : ZaR} {J A B : List Int} {sl : Sl} {sp : List ByteArray} (s : Ss W (vec cS sl ((Zjn m).map bstr) sp :: Hs) w) (sc : RSc r m) (f : Zo2 m) (hJ : J.length ≤ 10000) (hA : A.length ≤ 30000) (hB : B.length ≤ 30000) (t : Nat) (et : nth Hs t = some TabN) :
  WP (Zae.K2 r (bstr J) (bstr A) (bstr B) sl) w (fun y w' => y = bstr (J ++ (A ++ B) ++ pF m ++ pT m) ∧ Ss W Hs w') := by
 unfold Zae.K2 pF
 have hv := (s.vec_len (i := 0) rfl).1
 rw [zl] at hv
 obtain ⟨g1, g2⟩ := ZmG (m := m) 8 (zB _)
 rw [ZrF] at g1 g2
 have hc : (tx " flags ").length = 7 := rfl
 refine WP.ite (fun h => WP.step (ZlR s 0 rfl (by omega) g2) ?_) (fun h => ?_)
 ·rintro _ w ⟨rfl, s⟩
  have hj := Zhk (l := Zjn m) (by omega) (fun x hx => (g2 x hx).1)
  rw [if_neg (show ¬ Zjn m = [] from fun h' => by rw [h'] at hv; simp only [zi] at hv; omega), ZwB]
  refine chkb (by decide) (by omega) ?_
  rw [catb, catb, catb]
  refine chkb (by rw [zc, zc]; omega) (by rw [zc]; omega) ?_
  rw [catb]
  exact ZnO s.drop sc f (by simp only [zc]; omega) t et
 ·rw [if_pos (List.length_eq_zero_iff.1 (by omega)), zJ, catb, catb]
  exact ZnO s.drop sc f (by simp only [zc]; omega) t et
theorem ZrZ {r : Zaf} {m : ZaR} {J A B : List Int} {g : Nat} (s : Ss W Hs w) (sc : RSc r m) (f : Zo2 m) (hJ : J.length ≤ 10000) (hA : A.length ≤ 30000) (hB : B.length ≤ 30000) (t : Nat) (et : nth Hs t = some TabN) {x14 : Sl} (i : Nat) {C : HP} (e : nth Hs i = some C) (rd : Rdb C cS x14 Zho) :
  WP (Zcn (fun s_ : (Sl × Int) => Zae.L1 r (bstr J) (bstr A) (bstr B) x14 s_.1 s_.2) (Sl.nil, 0)) w (fun y w' => y = bstr (J ++ (A ++ B) ++ pF m ++ pT m) ∧ Ss W Hs w') := by
 have hl := (s.rd_len e rd).1
 have h8 : Zho.length = 8 := rfl
 refine WP.loopG (γ := Nat × List ByteArray) (fun g (p : Sl × Int) w => p.2 = (g.1 : Int) ∧ g.1 ≤ 8 ∧ Ss W (vec cS p.1 ((Zhn m g.1).map bstr) g.2 :: Hs) w) (fun g _ => 8 - g.1) (0, []) ⟨rfl, by simp, s.mk0 (A := vec cS Sl.nil [] []) Zcv⟩ ?_
 clear s
 rintro ⟨k, sp⟩ ⟨sl, _⟩ w ⟨rfl, hk, s⟩
 simp only at hk s
 show WP (Zae.L1 r (bstr J) (bstr A) (bstr B) x14 sl (k : Int)) w _
 unfold Zae.L1
 have sc0 := sc
 obtain ⟨-, -, -, -, -, -, h7, h8', -, -⟩ := sc
 rw [h7]
 refine WP.ite (fun h => ?_) (fun h => ?_)
 ·have hk8 : k < 8 := by omega
  obtain ⟨u1, u2⟩ := ZmG (m := m) k hk
  have hu : (0 : Int) ≤ wrap .u64 (k : Int) := by rw [ZgH (by omega) (by omega)]; omega
  have hfl : (ZhO.getD k []).length = 3 := (ZrG ⟨k, hk8⟩).1
  refine WP.rdx s (i + 1) e rd (by omega) (by rw [zg]; exact Zt1 hk8) rfl (WP.chk hu ?_)
  have k3 : ∀ {w : World} {sl : Sl} {sp : List ByteArray} {l : List (List Int)}, l.length ≤ 20 → Zhn m (k + 1) = l ++ (if hasB m.Clear k = true then [33 :: ZhO.getD k []] else []) → Ss W (vec cS sl (l.map bstr) sp :: Hs) w →
    WP (Zae.K3 r (k : Int) (bstr (ZhO.getD k [])) sl) w (WP.Rd (fun s' w' => ∃ g' : Nat × List ByteArray, (s'.2 = (g'.1 : Int) ∧ g'.1 ≤ 8 ∧ Ss W (vec cS s'.1 ((Zhn m g'.1).map bstr) g'.2 :: Hs) w') ∧ 8 - g'.1 < 8 - k) (fun y w' => y = bstr (J ++ (A ++ B) ++ pF m ++ pT m) ∧ Ss W Hs w')) := by
   intro w sl sp l hll hl s
   unfold Zae.K3
   rw [h8']
   refine WP.chk hu (WP.ite (fun h => ?_) (fun h => WP.next ⟨(k + 1, sp), ⟨?_, hk8, ?_⟩, by simp only; omega⟩))
   ·rw [Zxs]
    refine chkb (by decide) (by omega) (WP.slot' s (fun _ w s => ?_))
    rw [catb]
    refine WP.appl s 0 rfl (by simp only [zl, zf, zi]; omega) (by decide) (fun sl' w sp' s => WP.next ⟨(k + 1, sp'), ⟨?_, hk8, ?_⟩, by simp only; omega⟩)
    ·rw [Zau (by omega) (by omega)]
     simp
    ·simp only
     rw [hl, if_pos ((ZoV f.clr hk8).1 h), zE]
     exact s
   ·rw [Zau (by omega) (by omega)]
    simp
   ·simp only
    rw [hl, if_neg (fun h' => h ((ZoV f.clr hk8).2 h')), zJ]
    exact s
  refine WP.ite (fun h => WP.slot' s (fun _ w s => ?_)) (fun h => ?_)
  ·refine WP.appl s 0 rfl (by simp only [zl, zf, zi]; omega) (by decide) (fun sl' w sp' s => ?_)
   refine k3 (sp := sp') (l := Zhn m k ++ [ZhO.getD k []]) (by rw [zc]; simp only [zf, zi]; omega) ?_ ?_
   ·rw [ZjK, zu]
    unfold ZqV
    rw [if_pos ((ZoV f.set_ hk8).1 h)]
   ·rw [zE]
    exact s
  ·refine k3 (l := Zhn m k) (by omega) ?_ s
   rw [ZjK]
   unfold ZqV
   rw [if_neg (fun h' => h ((ZoV f.set_ hk8).2 h')), zN]
 ·have hk2 : k = 8 := by omega
  subst hk2
  rw [ZrF] at s
  exact WP.step (Zr0 s sc0 f hJ hA hB t et) (fun y w h => WP.done h)
def pSd (m : ZaR) : List Int := Zpg (tx "from") m.From ++ Zpg (tx "to") m.To
theorem ZnN {r : Zaf} {m : ZaR} {J : List Int} (s : Ss W Hs w) (rr : RdR Hs r m) (f : Zo2 m) (ok1 : SdOk m.From) (ok2 : SdOk m.To) (hJ : J.length ≤ 1000) (t : Nat) (et : nth Hs t = some TabN) (fi : Nat) (ef : nth Hs fi = some (NmP 2 Zho)) :
  WP (Zae.K4 r (bstr J)) w (fun y w' => y = bstr (J ++ pSd m ++ pF m ++ pT m) ∧ Ss W Hs w') := by
 unfold Zae.K4 pSd
 have h1 := Zpf (nm := tx "from") ok1 (by decide)
 have h2 := Zpf (nm := tx "to") ok2 (by decide)
 rw [Zxq, c_to]
 refine WP.draw' s (fun w s => WP.step (Zre s rr.from_ ok1 (by decide) t et) ?_)
 rintro _ w ⟨rfl, s⟩
 refine WP.step (Zre s rr.to_ ok2 (by decide) t et) ?_
 rintro _ w ⟨rfl, s⟩
 refine chkb (by omega) (by omega) ?_
 rw [catb]
 refine chkb (by omega) (by rw [zc]; omega) ?_
 obtain ⟨sl, -, s1⟩ := (s.dup ef Ro.nmP).openx 0 rfl
 have s1 : Ss W (pts false ⟨2, 0, none⟩ (cL.enc sl) :: rdS cS false sl Zho :: Hs) w := Ss.split (l := [_, _]) s1
 refine WP.ld (x := sl) s1 0 rfl (o := 0) (by simp [Addr.add]) (At.whole _) ((ZrZ (g := 0) s1 rr.sc f (by omega) h1 h2 (t + 2) et 1 rfl ZbM).mono ?_)
 rintro y w ⟨rfl, s⟩
 exact ⟨rfl, s.drop.drop⟩
def pV (m : ZaR) : List Int := if m.Vid > 0 then tx " vid " ++ decM m.Vid else []
theorem ZnM {r : Zaf} {m : ZaR} {J : List Int} (s : Ss W Hs w) (rr : RdR Hs r m) (f : Zo2 m) (ok1 : SdOk m.From) (ok2 : SdOk m.To) (hJ : J.length ≤ 500) (t : Nat) (et : nth Hs t = some TabN) (fi : Nat) (ef : nth Hs fi = some (NmP 2 Zho)) :
  WP (Zae.K5 r (bstr J)) w (fun y w' => y = bstr (J ++ pV m ++ pSd m ++ pF m ++ pT m) ∧ Ss W Hs w') := by
 unfold Zae.K5 pV
 have hv := f.vid
 have hc : (tx " vid ").length = 5 := rfl
 rw [rr.sc.2.2.2.2.2.1]
 refine WP.ite (fun h => WP.step (ZhV s t et (v := m.Vid) (by omega) (by omega)) ?_) (fun h => ?_)
 ·rintro _ w ⟨rfl, s⟩
  have hd := (ZfW (v := m.Vid) (by omega) (by omega)).1
  rw [if_pos h, ZxP]
  refine chkb (by decide) (by omega) ?_
  rw [catb]
  refine chkb (by omega) (by rw [zc]; omega) ?_
  rw [catb]
  exact ZnN s rr f ok1 ok2 (by simp only [zc]; omega) t et fi ef
 ·rw [if_neg h, zJ]
  exact ZnN s rr f ok1 ok2 (by omega) t et fi ef
def pO (m : ZaR) : List Int := if m.In > 0 then tx " on p" ++ decM (m.In - 1) else []
theorem ZnL {r : Zaf} {m : ZaR} {J : List Int} (s : Ss W Hs w) (rr : RdR Hs r m) (f : Zo2 m) (ok1 : SdOk m.From) (ok2 : SdOk m.To) (hJ : J.length ≤ 200) (t : Nat) (et : nth Hs t = some TabN) (fi : Nat) (ef : nth Hs fi = some (NmP 2 Zho)) (ik : Nat) (ek : nth Hs ik = some (NmP 1 ZjJ)) :
  WP (Zae.K6 r (bstr J)) w (fun y w' => y = bstr (J ++ Zqm m ++ pO m ++ pV m ++ pSd m ++ pF m ++ pT m) ∧ Ss W Hs w') := by
 unfold Zae.K6 pO
 have hv := f.in_
 have hc : (tx " on p").length = 5 := rfl
 have hw := ZsN f.proto f.kind
 rw [rr.sc.2.2.2.2.1]
 refine WP.step (ZvS s rr.sc f.proto f.kind t et ik ek) ?_
 rintro _ w ⟨rfl, s⟩
 refine chkb (by omega) (by omega) ?_
 rw [catb]
 refine WP.ite (fun h => ?_) (fun h => ?_)
 ·rw [Zau (by omega) (by omega)]
  refine WP.step (ZhV s t et (v := m.In - 1) (by omega) (by omega)) ?_
  rintro _ w ⟨rfl, s⟩
  have hd := (ZfW (v := m.In - 1) (by omega) (by omega)).1
  rw [if_pos h, c_on]
  refine chkb (by decide) (by omega) ?_
  rw [catb]
  refine chkb (by rw [zc]; omega) (by rw [zc]; omega) ?_
  rw [catb]
  exact ZnM s rr f ok1 ok2 (by simp only [zc]; omega) t et fi ef
 ·rw [if_neg h, zJ]
  exact ZnM s rr f ok1 ok2 (by simp only [zc]; omega) t et fi ef
theorem Zu1 (m : ZaR) : ZpN m = actN.getD (m.Act - 1).toNat [] ++ (if m.Class > 0 then tx " class " ++ decM m.Class else []) ++ Zqm m ++ pO m ++ pV m ++ pSd m ++ pF m ++ pT m := by
 unfold ZpN pT pF pSd pV pO
 simp only [zu]
theorem Zra {r : Zaf} {m : ZaR} (s : Ss W Hs w) (rr : RdR Hs r m) (ck : ckM m = 0) (t : Nat) (et : nth Hs t = some TabN) (ia : Nat) (ea : nth Hs ia = some (NmP 0 actB)) (ik : Nat) (ek : nth Hs ik = some (NmP 1 ZjJ)) (fi : Nat) (ef : nth Hs fi = some (NmP 2 Zho)) :
  WP (Zae r) w (fun y w' => y = bstr (ZpN m) ∧ Ss W Hs w') := by
 obtain ⟨hf, -, k1, k2⟩ := ZvM ck
 have f := Zvi hf
 have ok1 := Zp9 rr.from_.byts k1
 have ok2 := Zp9 rr.to_.byts k2
 rw [Zu1]
 unfold Zae
 have ha := f.act
 have hcl := f.cls
 have hc : (tx " class ").length = 7 := rfl
 have hl : (actN.getD (m.Act - 1).toNat []).length ≤ 6 := by
  have : ∀ k : _root_.Fin 3, (actN.getD k.val []).length ≤ 6 := by decide +kernel
  exact this ⟨(m.Act - 1).toNat, by omega⟩
 rw [rr.sc.1, rr.sc.2.1, Zau (by omega) (by omega)]
 refine WP.slot' s (fun _ w s => ZvF s ia ea (by omega) (Zvu (by omega)) (WP.ite (fun h => WP.step (ZhV s t et (v := m.Class) (by omega) (by omega)) ?_) (fun h => ?_)))
 ·rintro _ w ⟨rfl, s⟩
  have hd := (ZfW (v := m.Class) (by omega) (by omega)).1
  rw [if_pos h, ZwC]
  refine chkb (by decide) (by omega) ?_
  rw [catb]
  refine chkb (by omega) (by rw [zc]; omega) ?_
  rw [catb]
  exact ZnL s rr f ok1 ok2 (by simp only [zc]; omega) t et fi ef ik ek
 ·rw [if_neg h, zJ]
  exact ZnL s rr f ok1 ok2 (by omega) t et fi ef ik ek
theorem Zqg {r : Zaf} {m : ZaR} (s : Ss W Hs w) (rr : RdR Hs r m) (t : Nat) (et : nth Hs t = some TabN) (ia : Nat) (ea : nth Hs ia = some (NmP 0 actB)) (ik : Nat) (ek : nth Hs ik = some (NmP 1 ZjJ)) (fi : Nat) (ef : nth Hs fi = some (NmP 2 Zho)) :
  WP (Zdj r) w (fun y w' => y = (if ckM m ≠ 0 then (ByteArray.empty, ckM m) else (bstr (ZpN m), 0)) ∧ Ss W Hs w') := by
 unfold Zdj
 refine WP.slot' s (fun _ w s => WP.step (Zo3 s rr) ?_)
 rintro _ w ⟨rfl, s⟩
 refine WP.ite (fun h => ret ⟨by rw [if_pos h], s⟩) (fun h => WP.step (Zra s rr (Decidable.not_not.1 h) t et ia ea ik ek fi ef) ?_)
 rintro _ w ⟨rfl, s⟩
 exact ret ⟨by rw [if_neg h], s⟩
end
end
section
open Go Go.Proofs Go.RowKit
end
section
open Go Go.Proofs Go.RowKit
abbrev Tk (ws : List Wd) (ts : List (List Int)) : Prop := ws.map (·.1) = ts
theorem ZvY {ws : List Wd} {t : List Int} {ts : List (List Int)} (h : Tk ws (t :: ts)) : ∃ p r, ws = (t, p) :: r ∧ Tk r ts := by
 cases ws with
 | nil => cases h
 | cons w r =>
  obtain ⟨a, p⟩ := w
  have h : a :: r.map (·.1) = t :: ts := h
  cases h
  exact ⟨p, r, rfl, rfl⟩
def clN : List (List Int) := [tx "on", tx "vid", tx "from", tx "to", tx "flags", tx "type", tx "pieces"]
def Zh6 (b : List (List Int)) : Prop := ∀ t r, b = t :: r → t ∈ clN
theorem Zh6.nil : Zh6 [] := fun t r h => by cases h
section
variable {e : Int}
theorem ZpD {lo hi : Int} {x : Wd} {xs : List Wd} : numP e lo hi (x :: xs) = if x.1 = comma then .error (160, x.2) else match numR x.1 lo hi with
  | none => .error (162, x.2)
  | some n => .ok (n, xs) := rfl
def ZxM (s : Zek) : List (List Int) := (if s.nets = [] then [tx "any"] else (if s.Not = true then [tx "not"] else []) ++ Zu8 (s.nets.map netT)) ++ (if s.ports = [] then [] else tx "port" :: Zu8 (s.ports.map Zgd))
structure SdB (s : Zek) (kind proto : Int) : Prop where
 ok : SdOk s
 fits : ∀ p ∈ s.nets, Zg2 p kind = true
 no : s.nets = [] → s.Not = false
 ported : s.ports ≠ [] → Zfv proto = true
end
def addF (p : Int × Int) (f : Bool × Nat) : Int × Int := if f.1 = true then (p.1, p.2 + 2 ^ f.2) else (p.1 + 2 ^ f.2, p.2)
def OkF : List (Bool × Nat) → Int × Int → Prop
 | [], _ => True
 | f :: r, p => (f.2 < 8 ∧ hasB p.1 f.2 = false ∧ hasB p.2 f.2 = false) ∧ OkF r (addF p f)
theorem OkF.app : ∀ {a b : List (Bool × Nat)} {p : Int × Int}, OkF a p → OkF b (a.foldl addF p) → OkF (a ++ b) p
 | [], _, _, _, h => h
 | _ :: _, _, _, h1, h2 => ⟨h1.1, OkF.app h1.2 h2⟩
def st0 (m : ZaR) : ZaR := { zRl with Act := m.Act, Class := m.Class, Kind := m.Kind, Proto := m.Proto }
def cOn (m : ZaR) : List (List Int) := if m.In > 0 then [tx "on", 112 :: decM (m.In - 1)] else []
def cVid (m : ZaR) : List (List Int) := if m.Vid > 0 then [tx "vid", decM m.Vid] else []
def Zxv (name : List Int) (s : Zek) : List (List Int) := if s.nets = [] ∧ s.ports = [] then [] else name :: ZxM s
def Zxw (m : ZaR) : List (List Int) := if Zjn m = [] then [] else tx "flags" :: Zu8 (Zjn m)
def ZxU (m : ZaR) : List (List Int) := if m.Type_ > 0 then [tx "type", decM (m.Type_ - 1)] else []
def ZwD (m : ZaR) : List (List Int) := if m.Pieces = true then [tx "pieces"] else []
def HdIn (c : List (List Int)) : Prop := ∀ t r, c = t :: r → t ∈ clN
theorem HdIn.app {c b : List (List Int)} (h : HdIn c) (hb : Zh6 b) : Zh6 (c ++ b) := fun t r e => by
 cases c with
 | nil => exact hb t r e
 | cons u us =>
  have e : u :: (us ++ b) = t :: r := e
  cases e
  exact h _ _ rfl
theorem Zve {p : Prop} [Decidable p] {t : List Int} {l : List (List Int)} (h : t ∈ clN) : HdIn (if p then t :: l else []) := fun u r e => by
 split at e
 ·cases e
  exact h
 ·cases e
theorem ZtX {p : Prop} [Decidable p] {t : List Int} {l : List (List Int)} (h : t ∈ clN) : HdIn (if p then [] else t :: l) := fun u r e => by
 split at e
 ·cases e
 ·cases e
  exact h
def b7 (m : ZaR) : List (List Int) := ZwD m ++ []
def b6 (m : ZaR) : List (List Int) := ZxU m ++ b7 m
def b5 (m : ZaR) : List (List Int) := Zxw m ++ b6 m
def b4 (m : ZaR) : List (List Int) := Zxv (tx "to") m.To ++ b5 m
def b3 (m : ZaR) : List (List Int) := Zxv (tx "from") m.From ++ b4 m
def b2 (m : ZaR) : List (List Int) := cVid m ++ b3 m
def b1 (m : ZaR) : List (List Int) := cOn m ++ b2 m
theorem ZhK : tx "on" ∈ clN ∧ tx "vid" ∈ clN ∧ tx "from" ∈ clN ∧ tx "to" ∈ clN ∧ tx "flags" ∈ clN ∧ tx "type" ∈ clN ∧ tx "pieces" ∈ clN := by decide +kernel
theorem hb7 (m : ZaR) : Zh6 (b7 m) := (Zve ZhK.2.2.2.2.2.2).app Zh6.nil
theorem hb6 (m : ZaR) : Zh6 (b6 m) := (Zve ZhK.2.2.2.2.2.1).app (hb7 m)
theorem hb5 (m : ZaR) : Zh6 (b5 m) := (ZtX ZhK.2.2.2.2.1).app (hb6 m)
theorem hb4 (m : ZaR) : Zh6 (b4 m) := (ZtX ZhK.2.2.2.1).app (hb5 m)
theorem hb3 (m : ZaR) : Zh6 (b3 m) := (ZtX ZhK.2.2.1).app (hb4 m)
theorem hb2 (m : ZaR) : Zh6 (b2 m) := (Zve ZhK.2.1).app (hb3 m)
theorem hb1 (m : ZaR) : Zh6 (b1 m) := (Zve ZhK.1).app (hb2 m)
section
variable {e : Int}
def Lp (e : Int) (n : Nat) (k : ZaR) (toks : List (List Int)) (m : ZaR) : Prop := ∀ (fuel : Nat) (seen : List (List Int)) (ws : List Wd), (∀ t ∈ seen, t ∈ clN.take n) → Tk ws toks → ws.length < fuel → ZjH e fuel seen k ws = .ok m
theorem Lp.skip {n : Nat} {k m : ZaR} {toks : List (List Int)} (h : Lp e (n + 1) k toks m) : Lp e n k toks m := fun fuel seen ws hs ht hf =>
 h fuel seen ws (fun t hm => by
  have := hs t hm
  exact (List.take_sublist_take_left (l := clN) (Nat.le_succ n)).subset this) ht hf
theorem Lp.step {n : Nat} {k k' m : ZaR} {t : List Int} {args b : List (List Int)} (hn : t ∉ clN.take n) (hn2 : t ∈ clN.take (n + 1)) (h1 : t = tx "flags" → k.Proto = 6) (h2 : t = tx "type" → Zgp k.Proto = true)
  (hc : ∀ ws, Tk ws (args ++ b) → ∃ r, ZfQ e t k ws = some (.ok (k', r)) ∧ Tk r b) (h : Lp e (n + 1) k' b m) : Lp e n k (t :: args ++ b) m := fun fuel seen ws hs ht hf => by
 obtain ⟨p, r, rfl, hr⟩ := ZvY (show Tk ws (t :: (args ++ b)) from ht)
 obtain ⟨fu, rfl⟩ : ∃ j, fuel = j + 1 := ⟨fuel - 1, by omega⟩
 obtain ⟨r2, h3, h4⟩ := hc r hr
 have hm : mayM seen k t = true := zb ⟨fun hm => hn (hs t hm), h1, h2⟩
 rw [show ZjH e (fu + 1) seen k ((t, p) :: r) = if mayM seen k t = false then .error (165, p) else match ZfQ e t k r with
  | none => .error (160, p)
  | some (.error q) => .error q
  | some (.ok (m', r)) => ZjH e fu (t :: seen) m' r from rfl, hm, if_neg (by decide), h3]
 have hl := (ZmP h3).1
 simp only [zf] at hf
 exact h fu (t :: seen) r2 (fun u hu => by
  rcases List.mem_cons.1 hu with rfl | hu
  ·exact hn2
  ·exact (List.take_sublist_take_left (l := clN) (Nat.le_succ n)).subset (hs u hu)) h4 (by omega)
def st1 (m : ZaR) : ZaR := ⟨m.Act, m.Class, m.Kind, m.Proto, m.In, 0, zSd, zSd, 0, 0, 0, false⟩
def st2 (m : ZaR) : ZaR := ⟨m.Act, m.Class, m.Kind, m.Proto, m.In, m.Vid, zSd, zSd, 0, 0, 0, false⟩
end
section
variable {W w : World} {Hs : List HP}
theorem Zj0 {α : Type} {l : List α} {k : Nat} {x : α} (hx : l[k]? = some x) : l.take (k + 1) = l.take k ++ [x] := by
 rw [zy, hx]
 rfl
theorem Zv5 {a b : Zar} {ma mb : Zek} (s : Ss W Hs w) (i : Nat) {A B : HP} (e : nth Hs i = some A) (ra : Rdb A cRg a.Ports ma.ports) (j : Nat) (e2 : nth Hs j = some B) (rb : Rdb B cRg b.Ports mb.ports) (hl : ma.ports.length = mb.ports.length) (hm : ma.ports.length ≤ 9000000000000) :
  WP (Zak.K1 a b) w (fun y w' => y = decide (ma.ports = mb.ports) ∧ Ss W Hs w') := by
 unfold Zak.K1
 have h1 := (s.rd_len e ra).1
 refine WP.loopG (γ := Nat) (fun k (x : Int) w => x = (k : Int) ∧ k ≤ ma.ports.length ∧ ma.ports.take k = mb.ports.take k ∧ Ss W Hs w) (fun k _ => ma.ports.length - k) 0 ⟨rfl, zF _, rfl, s⟩ ?_
 clear s
 rintro k _ w ⟨rfl, hk, ha, s⟩
 show WP (Zak.L1 a b (k : Int)) w _
 unfold Zak.L1
 refine WP.ite (fun h => WP.draw' s (fun w s => ?_)) (fun h => ?_)
 ·have hk2 : k < ma.ports.length := by omega
  have hx := za hk2
  have hy := za (show k < mb.ports.length by omega)
  generalize ma.ports[k] = x at hx
  generalize mb.ports[k]'(show k < mb.ports.length by omega) = y at hy
  refine WP.rdx s i e ra (by omega) (x := x) (by rw [zg]; exact hx) rfl (WP.rdx s j e2 rb (by omega) (x := y) (by rw [zg]; exact hy) rfl (WP.ite (fun hn => WP.done ⟨?_, s⟩) (fun hn => ?_)))
  ·refine (zh (fun h' => hn ?_)).symm
   rw [h', hy] at hx
   exact (Option.some.inj hx).symm
  ·refine WP.next ⟨k + 1, ⟨?_, hk2, ?_, s⟩, by omega⟩
   ·rw [Zau (by omega) (by omega)]
    simp
   ·rw [Zj0 hx, Zj0 hy, ha, Decidable.not_not.1 hn]
 ·have hk2 : k = ma.ports.length := by omega
  refine WP.done ⟨(zb ?_).symm, s⟩
  rw [hk2, zI, hl, zI] at ha
  exact ha
theorem Znc {a b : Zar} {ma mb : Zek} (s : Ss W Hs w) (r1 : RdSd Hs a ma) (r2 : RdSd Hs b mb) (hn6 : ma.nets.length ≤ 9000000000000) (hp6 : ma.ports.length ≤ 9000000000000) : WP (Zak a b) w (fun y w' => y = decide (ma = mb) ∧ Ss W Hs w') := by
 obtain ⟨no1, -, ⟨i1, A1, e1, n1⟩, ⟨j1, B1, f1, p1⟩⟩ := r1
 obtain ⟨no2, -, ⟨i2, A2, e2, n2⟩, ⟨j2, B2, f2, p2⟩⟩ := r2
 unfold Zak
 have l1 := (s.rd_len e1 n1).1
 have l2 := (s.rd_len e2 n2).1
 have l3 := (s.rd_len f1 p1).1
 have l4 := (s.rd_len f2 p2).1
 have hm : ma = mb ↔ ma.Not = mb.Not ∧ ma.nets = mb.nets ∧ ma.ports = mb.ports := by
  cases ma
  cases mb
  simp
 rw [no1, no2]
 refine WP.slot' s (fun _ w s => WP.slot' s (fun _ w s => ?_))
 refine WP.step (R := fun y w' => y = !decide (ma.Not = mb.Not ∧ ma.nets.length = mb.nets.length) ∧ w = w') (WP.ite (fun h => ret ⟨?_, rfl⟩) (fun h => ret ⟨?_, rfl⟩)) ?_
 ·rw [zh (fun h' => h h'.1)]
  rfl
 ·have h := Decidable.not_not.1 h
  by_cases h2 : ma.nets.length = mb.nets.length
  ·rw [zb ⟨h, h2⟩, l1, l2, h2]
   simp
  ·rw [zh (fun h' => h2 h'.2), Bool.not_false, bne_iff_ne]
   omega
 rintro _ _ ⟨rfl, rfl⟩
 refine WP.step (R := fun y w' => y = !decide (ma.Not = mb.Not ∧ ma.nets.length = mb.nets.length ∧ ma.ports.length = mb.ports.length) ∧ w = w') (WP.ite (fun h => ret ⟨?_, rfl⟩) (fun h => ret ⟨?_, rfl⟩)) ?_
 ·have h : ¬ (ma.Not = mb.Not ∧ ma.nets.length = mb.nets.length) := fun h' => by
   rw [zb h'] at h
   cases h
  rw [zh (fun h' => h ⟨h'.1, h'.2.1⟩)]
  rfl
 ·have h : ma.Not = mb.Not ∧ ma.nets.length = mb.nets.length := zL fun h' => h (by rw [zh h']; rfl)
  by_cases h2 : ma.ports.length = mb.ports.length
  ·rw [zb ⟨h.1, h.2, h2⟩, l3, l4, h2]
   simp
  ·rw [zh (fun h' => h2 h'.2.2), Bool.not_false, bne_iff_ne]
   omega
 rintro _ _ ⟨rfl, rfl⟩
 refine WP.ite (fun h => ret ⟨?_, s⟩) (fun h => ?_)
 ·refine (zh (fun h' => ?_)).symm
  rw [h', zb ⟨rfl, rfl, rfl⟩] at h
  cases h
 have h : ma.Not = mb.Not ∧ ma.nets.length = mb.nets.length ∧ ma.ports.length = mb.ports.length := zL fun h' => h (by rw [zh h']; rfl)
 obtain ⟨hn, hl, hp⟩ := h
 refine WP.loopG (γ := Nat) (fun k (x : Int) w => x = (k : Int) ∧ k ≤ ma.nets.length ∧ ma.nets.take k = mb.nets.take k ∧ Ss W Hs w) (fun k _ => ma.nets.length - k) 0 ⟨rfl, zF _, rfl, s⟩ ?_
 clear s
 rintro k _ w ⟨rfl, hk, ha, s⟩
 show WP (Zak.L2 a b (k : Int)) w _
 unfold Zak.L2
 refine WP.ite (fun h => WP.draw' s (fun w s => ?_)) (fun h => ?_)
 ·have hk2 : k < ma.nets.length := by omega
  have hx := za hk2
  have hy := za (show k < mb.nets.length by omega)
  generalize ma.nets[k] = x at hx
  generalize mb.nets[k]'(show k < mb.nets.length by omega) = y at hy
  refine WP.rdx s i1 e1 n1 (by omega) (x := x) (by rw [zg]; exact hx) rfl (WP.rdx s i2 e2 n2 (by omega) (x := y) (by rw [zg]; exact hy) rfl (WP.ite (fun hn => WP.done ⟨?_, s⟩) (fun hn => ?_)))
  ·refine (zh (fun h' => hn ?_)).symm
   rw [h', hy] at hx
   exact (Option.some.inj hx).symm
  ·refine WP.next ⟨k + 1, ⟨?_, hk2, ?_, s⟩, by omega⟩
   ·rw [Zau (by omega) (by omega)]
    simp
   ·rw [Zj0 hx, Zj0 hy, ha, Decidable.not_not.1 hn]
 ·have hk2 : k = ma.nets.length := by omega
  rw [hk2, zI, hl, zI] at ha
  refine WP.step (Zv5 s j1 f1 p1 j2 f2 p2 hp hp6) ?_
  rintro _ w ⟨rfl, s⟩
  refine WP.done ⟨decide_eq_decide.2 ?_, s⟩
  rw [hm]
  exact ⟨fun h => ⟨hn, ha, h⟩, fun h => h.2.2⟩
theorem ror {β : Type} {p : Prop} [Decidable p] {x y : Int} {f : Bool → M β} {Q : β → World → Prop} {a : Bool} (ha : (a = true) ↔ p) (k : WP (f (decide (p ∨ x ≠ y))) w Q) : WP ((if a = true then pure true else pure (x != y)) >>= f) w Q := by
 have : ((if a = true then pure true else pure (x != y)) : M Bool) = pure (decide (p ∨ x ≠ y)) := by
  by_cases h : a = true
  ·rw [if_pos h, zb (.inl (ha.1 h))]
  ·rw [if_neg h]
   congr 1
   rw [zj, bne_iff_ne, ze]
   exact ⟨.inr, fun h' => h'.elim (fun h' => absurd (ha.2 h') h) id⟩
 rw [this]
 refine WP.step (R := fun y' w' => y' = decide (p ∨ x ≠ y) ∧ w = w') (ret ⟨rfl, rfl⟩) ?_
 rintro _ _ ⟨rfl, rfl⟩
 exact k
theorem ror0 {β : Type} {x y u v : Int} {f : Bool → M β} {Q : β → World → Prop} (k : WP (f (decide (u ≠ v ∨ x ≠ y))) w Q) : WP ((if u ≠ v then pure true else pure (x != y)) >>= f) w Q := by
 have : ((if u ≠ v then pure true else pure (x != y)) : M Bool) = pure (decide (u ≠ v ∨ x ≠ y)) := by
  by_cases h : u ≠ v
  ·rw [if_pos h, zb (.inl h)]
  ·rw [if_neg h]
   congr 1
   rw [zj, bne_iff_ne, ze]
   exact ⟨.inr, fun h' => h'.elim (fun h' => absurd h' h) id⟩
 rw [this]
 refine WP.step (R := fun y' w' => y' = decide (u ≠ v ∨ x ≠ y) ∧ w = w') (ret ⟨rfl, rfl⟩) ?_
 rintro _ _ ⟨rfl, rfl⟩
 exact k
theorem Zut {a b : Zaf} {ma mb : ZaR} (s : Ss W Hs w) (r1 : RdR Hs a ma) (r2 : RdR Hs b mb) (hl : (ma.From.nets.length ≤ 9000000000000 ∧ ma.From.ports.length ≤ 9000000000000) ∧ ma.To.nets.length ≤ 9000000000000 ∧ ma.To.ports.length ≤ 9000000000000) : WP (Zdw a b) w (fun y w' => y = decide (ma = mb) ∧ Ss W Hs w') := by
 obtain ⟨⟨c1, c2, c3, c4, c5, c6, c7, c8, c9, c10⟩, f1, t1⟩ := r1
 obtain ⟨⟨d1, d2, d3, d4, d5, d6, d7, d8, d9, d10⟩, f2, t2⟩ := r2
 have hm : ma = mb ↔ (ma.Act = mb.Act ∧ ma.Class = mb.Class ∧ ma.Kind = mb.Kind ∧ ma.Proto = mb.Proto ∧ ma.In = mb.In ∧ ma.Vid = mb.Vid) ∧ (ma.Set = mb.Set ∧ ma.Clear = mb.Clear ∧ ma.Type_ = mb.Type_ ∧ ma.Pieces = mb.Pieces) ∧ ma.From = mb.From ∧ ma.To = mb.To := by
  cases ma
  cases mb
  simp only [ZaR.mk.injEq]
  exact ⟨fun ⟨h1, h2, h3, h4, h5, h6, h7, h8, h9, h10, h11, h12⟩ => ⟨⟨h1, h2, h3, h4, h5, h6⟩, ⟨h9, h10, h11, h12⟩, h7, h8⟩, fun ⟨⟨h1, h2, h3, h4, h5, h6⟩, ⟨h9, h10, h11, h12⟩, h7, h8⟩ => ⟨h1, h2, h3, h4, h5, h6, h7, h8, h9, h10, h11, h12⟩⟩
 unfold Zdw
 rw [c1, c2, c3, c4, c5, c6, c7, c8, c9, c10, d1, d2, d3, d4, d5, d6, d7, d8, d9, d10]
 refine WP.slot' s (fun _ w s => WP.slot' s (fun _ w s => ror0 (ror ze (ror ze (ror ze (ror ze ?_))))))
 refine WP.ite (fun h => ret ⟨?_, s⟩) (fun h => ror0 (ror ze ?_))
 ·have h := zd h
  refine (zh (fun h' => ?_)).symm
  obtain ⟨⟨a1, a2, a3, a4, a5, a6⟩, -, -⟩ := hm.1 h'
  rcases h with ((((h | h) | h) | h) | h) | h
  ·exact h a1
  ·exact h a2
  ·exact h a3
  ·exact h a4
  ·exact h a5
  ·exact h a6
 have h1 : ma.Act = mb.Act ∧ ma.Class = mb.Class ∧ ma.Kind = mb.Kind ∧ ma.Proto = mb.Proto ∧ ma.In = mb.In ∧ ma.Vid = mb.Vid := by
  have h : ¬ (((((ma.Act ≠ mb.Act ∨ ma.Class ≠ mb.Class) ∨ ma.Kind ≠ mb.Kind) ∨ ma.Proto ≠ mb.Proto) ∨ ma.In ≠ mb.In) ∨ ma.Vid ≠ mb.Vid) := fun h' => h (zb h')
  omega
 refine WP.step (R := fun y w' => y = decide (((ma.Set ≠ mb.Set ∨ ma.Clear ≠ mb.Clear) ∨ ma.Type_ ≠ mb.Type_) ∨ ma.Pieces ≠ mb.Pieces) ∧ w = w') (WP.ite (fun h => ret ⟨(zb (.inl (zd h))).symm, rfl⟩) (fun h => ret ⟨?_, rfl⟩)) ?_
 ·have h : ¬ ((ma.Set ≠ mb.Set ∨ ma.Clear ≠ mb.Clear) ∨ ma.Type_ ≠ mb.Type_) := fun h' => h (zb h')
  by_cases hp : ma.Pieces = mb.Pieces
  ·rw [zh (fun h' => h'.elim h (fun h' => h' hp)), hp]
   simp
  ·rw [zb (.inr hp)]
   simp [hp]
 rintro _ _ ⟨rfl, rfl⟩
 refine WP.ite (fun h => ret ⟨?_, s⟩) (fun h => WP.step (Znc s f1 f2 hl.1.1 hl.1.2) ?_)
 ·have h := zd h
  refine (zh (fun h' => ?_)).symm
  obtain ⟨-, ⟨a1, a2, a3, a4⟩, -⟩ := hm.1 h'
  rcases h with ((h | h) | h) | h
  ·exact h a1
  ·exact h a2
  ·exact h a3
  ·exact h a4
 have h2 : ma.Set = mb.Set ∧ ma.Clear = mb.Clear ∧ ma.Type_ = mb.Type_ ∧ ma.Pieces = mb.Pieces := by
  have h : ¬ (((ma.Set ≠ mb.Set ∨ ma.Clear ≠ mb.Clear) ∨ ma.Type_ ≠ mb.Type_) ∨ ma.Pieces ≠ mb.Pieces) := fun h' => h (zb h')
  refine ⟨by omega, by omega, by omega, ?_⟩
  exact zL fun h' => h (.inr h')
 rintro _ w ⟨rfl, s⟩
 refine WP.step (R := fun y w' => y = decide (ma = mb) ∧ Ss W Hs w') (WP.ite (fun h => WP.step (Znc s t1 t2 hl.2.1 hl.2.2) ?_) (fun h => ret ⟨?_, s⟩)) (fun y w h => ret h)
 ·rintro _ w ⟨rfl, s⟩
  refine ret ⟨decide_eq_decide.2 ?_, s⟩
  rw [hm]
  exact ⟨fun h' => ⟨h1, h2, zd h, h'⟩, fun h' => h'.2.2.2⟩
 ·exact (zh (fun h' => h (zb (hm.1 h').2.2.1))).symm
end
structure RTab (L : List HP) : Prop where
 n : ∃ i, nth L i = some TabN
 a : ∃ i, nth L i = some (NmP 0 actB)
 k : ∃ i, nth L i = some (NmP 1 ZjJ)
 f : ∃ i, nth L i = some (NmP 2 Zho)
theorem RTab.push {L : List HP} {A : HP} (h : RTab L) : RTab (A :: L) := by
 obtain ⟨⟨a, ha⟩, ⟨b, hb⟩, ⟨c, hc⟩, ⟨d, hd⟩⟩ := h
 exact ⟨⟨a + 1, ha⟩, ⟨b + 1, hb⟩, ⟨c + 1, hc⟩, ⟨d + 1, hd⟩⟩
theorem Zvn {m : ZaR} (h : ckM m = 0) : (m.From.nets.length ≤ 9000000000000 ∧ m.From.ports.length ≤ 9000000000000) ∧ m.To.nets.length ≤ 9000000000000 ∧ m.To.ports.length ≤ 9000000000000 := by
 have key : ∀ {s : Zek} {kind proto : Int}, ZdX s kind proto = 0 → s.nets.length ≤ 9000000000000 ∧ s.ports.length ≤ 9000000000000 := by
  intro s kind proto h
  unfold ZdX at h
  split at h
  ·cases h
  ·rename_i h1
   split at h
   ·cases h
   ·split at h
    ·cases h
    ·rename_i h3
     exact ⟨by omega, by omega⟩
 obtain ⟨-, -, h1, h2⟩ := ZvM h
 exact ⟨key h1, key h2⟩
def BytR (m : ZaR) : Prop := Byts m.From.nets ∧ Byts m.To.nets
section
variable {W w : World} {Hs : List HP}
theorem Zmp (s : Ss W Hs w) (T : RTab Hs) (t : ByteArray) : WP (Zal t) w (fun r w' => ParR W Hs r w' (Ziv (strI t))) := by
 obtain ⟨⟨a, ha⟩, ⟨b, hb⟩, ⟨c, hc⟩, ⟨d, hd⟩⟩ := T
 exact Zqh s b hb c hc d hd t
theorem Zto {r : Zaf} {m : ZaR} (s : Ss W Hs w) (T : RTab Hs) (rr : RdR Hs r m) : WP (Zdj r) w (fun y w' => y = (if ckM m ≠ 0 then (ByteArray.empty, ckM m) else (bstr (ZpN m), 0)) ∧ Ss W Hs w') := by
 obtain ⟨⟨a, ha⟩, ⟨b, hb⟩, ⟨c, hc⟩, ⟨d, hd⟩⟩ := T
 exact Zqg s rr a ha b hb c hc d hd
theorem ZoF (n : Int) : WP (Zb3 n) w (fun y w' => y = n ∧ w = w') := ret ⟨rfl, rfl⟩
theorem ZuT {r : Zaf} {m : ZaR} (s : Ss W (ZwM r m :: Hs) w) (hb : BytR m) : ∃ A B C D : HP, Ss W (A :: B :: C :: D :: Hs) w ∧ RdR (A :: B :: C :: D :: Hs) r m := by
 obtain ⟨h, hh⟩ := s.has (i := 0) rfl
 have sc := hh.1
 have s := Ss.split (s.first (B := seps [ZjW r.From m.From, ZjW r.To m.To]) (fun h hh => hh.2))
 obtain ⟨q1, n1, s⟩ := s.openx 0 rfl
 have s := Ss.split (l := [vec cPfx r.From.Nets m.From.nets q1.1, vec cRg r.From.Ports m.From.ports q1.2]) s
 obtain ⟨q2, n2, s⟩ := s.openx 2 rfl
 have s := s.use [2] rfl
 have s := Ss.split (l := [vec cPfx r.To.Nets m.To.nets q2.1, vec cRg r.To.Ports m.To.ports q2.2]) s
 exact ⟨_, _, _, _, s, sc, ⟨n1, hb.1, ⟨2, _, rfl, ZcB⟩, ⟨3, _, rfl, ZcB⟩⟩, ⟨n2, hb.2, ⟨0, _, rfl, ZcB⟩, ⟨1, _, rfl, ZcB⟩⟩⟩
def netX : Zag := ⟨⟨4, ⟨[10, 0, 0, 0, 0, 0, 0, 0, 0, 0, 0, 0, 0, 0, 0, 0], rfl⟩⟩, 8⟩
theorem Zug : BytR Zsc := ⟨fun p hp => by
 rw [List.mem_singleton.1 hp]
 exact Zjo (by decide), fun p hp => by cases hp⟩
theorem arr1 {α : Type} {c : Cod α} {x : α} {b : Nat} (s : Ss W (pts true (pt b 0) ((c.arr 1).enc ⟨[x], rfl⟩) :: Hs) w) : Ss W (vec c ⟨some (pt b 0), 1, 1⟩ [x] [] :: Hs) w := by
 refine s.first (fun h hh => ?_)
 rw [Cod.arr_enc] at hh
 exact ZsT (l := [x]) (sp := []) hh
theorem Zwg (s : Ss W Hs w) : WP Zdd w (fun r w' => r.1 = bstr Zss ∧ ∃ A B C D : HP, Ss W (A :: B :: C :: D :: Hs) w' ∧ RdR (A :: B :: C :: D :: Hs) r.2 Zsc) := by
 unfold Zdd
 have e : Zv0 = bstr Zss := by decide +kernel
 rw [e]
 have s := s.mk0 (A := vec cPfx Sl.nil [] []) Zcv
 have s := s.mk0 (A := vec cRg Sl.nil [] []) Zcv
 have sc : ∀ {f t : Zar}, RSc (⟨1, ZaL.Class, ZaL.Kind, 6, ZaL.In, ZaL.Vid, f, t, ZaL.Set, ZaL.Clear, ZaL.Type_, ZaL.Pieces⟩ : Zaf) Zsc := ⟨rfl, rfl, rfl, rfl, rfl, rfl, rfl, rfl, rfl, rfl⟩
 refine WP.slot' s (fun _ w s => WP.slot' s (fun _ w s => WP.draws s (fun σ w s => WP.ite (fun _ => ?_) (fun _ => ?_))))
 ·refine WP.newv s (fun b1 w s => ?_)
  have s := arr1 (c := cPfx) (x := netX) s
  refine WP.newv s (fun b2 w s => ?_)
  have s := arr1 (c := cRg) (x := ⟨80, 80⟩) s
  exact ret ⟨rfl, _, _, _, _, s, sc, ⟨rfl, Zug.1, ⟨1, _, rfl, ZcB⟩, ⟨2, _, rfl, ZcB⟩⟩, ⟨rfl, Zug.2, ⟨3, _, rfl, ZcB⟩, ⟨0, _, rfl, ZcB⟩⟩⟩
 ·refine WP.newv s (fun b1 w s => ?_)
  have s := arr1 (c := cRg) (x := ⟨80, 80⟩) s
  refine WP.newv s (fun b2 w s => ?_)
  have s := arr1 (c := cPfx) (x := netX) s
  exact ret ⟨rfl, _, _, _, _, s, sc, ⟨rfl, Zug.1, ⟨0, _, rfl, ZcB⟩, ⟨2, _, rfl, ZcB⟩⟩, ⟨rfl, Zug.2, ⟨3, _, rfl, ZcB⟩, ⟨1, _, rfl, ZcB⟩⟩⟩
theorem Zuh : Byt Zss := Zjo (by decide +kernel)
theorem ZsP {β : Type} {p : Prop} [Decidable p] {f : Bool → M β} {Q : β → World → Prop} (hp : p) {X : M Bool} {R : World → Prop} (hX : WP X w (fun y w' => y = true ∧ R w')) (k : ∀ w', R w' → WP (f true) w' Q) : WP ((if p then X else pure false) >>= f) w Q := by
 refine WP.step (R := fun y w' => y = true ∧ R w') (WP.ite (fun _ => hX) (fun h => absurd hp h)) ?_
 rintro _ w ⟨rfl, r⟩
 exact k w r
theorem Zr9 (s : Ss W Hs w) (T : RTab Hs) : WP Zco w (fun y w' => y = true ∧ Ss W Hs w') := by
 unfold Zco
 refine WP.step (Zwg s) ?_
 rintro ⟨t, r⟩ w ⟨ht, A, B, C, D, s, rr⟩
 dsimp only at ht rr ⊢
 generalize hbs : bstr Zss = bs at ht
 subst ht
 have T4 := T.push (A := D) |>.push (A := C) |>.push (A := B) |>.push (A := A)
 refine WP.slot' s (fun _ w s => WP.step (Zmp s T4 t) ?_)
 rintro ⟨q1, q2⟩ w h
 rw [← hbs, Zim Zuh, Zw3] at h
 obtain ⟨h1, s1⟩ := h
 dsimp only at h1 s1 ⊢
 subst h1
 clear s
 obtain ⟨A', B', C', D', s, rq⟩ := ZuT s1 Zug
 clear s1
 have T8 := T4.push (A := D') |>.push (A := C') |>.push (A := B') |>.push (A := A')
 have rr8 := rr.push (A := D') |>.push (A := C') |>.push (A := B') |>.push (A := A')
 refine WP.slot' s (fun _ w s => WP.step (Zto s T8 rr8) ?_)
 rintro _ w ⟨rfl, s⟩
 rw [ck_x, if_neg (by decide), Zxc]
 rw [hbs]
 dsimp only
 refine WP.step (ZoF _) ?_
 rintro _ _ ⟨rfl, rfl⟩
 refine ZsP (R := fun w' => w = w') rfl (ret ⟨rfl, rfl⟩) ?_
 rintro _ rfl
 refine ZsP (R := fun w' => Ss W (A' :: B' :: C' :: D' :: A :: B :: C :: D :: Hs) w') rfl (WP.step (Zut s rq rr8 (Zvn ck_x)) (fun y w h => ret ⟨h.1.trans (zb rfl), h.2⟩)) ?_
 intro w s
 refine ZsP (R := fun w' => w = w') rfl (WP.step (ZoF _) ?_) ?_
 ·rintro _ _ ⟨rfl, rfl⟩
  exact ret ⟨rfl, rfl⟩
 rintro _ rfl
 refine ZsP (R := fun w' => w = w') rfl (ret ⟨beq_self_eq_true _, rfl⟩) ?_
 rintro _ rfl
 refine ZsP (R := fun w' => Ss W (A' :: B' :: C' :: D' :: A :: B :: C :: D :: Hs) w') rfl (WP.step (Zo3 s rr8) ?_) ?_
 ·rintro _ w ⟨rfl, s⟩
  rw [ck_x]
  refine WP.step (ZoF _) ?_
  rintro _ _ ⟨rfl, rfl⟩
  exact ret ⟨rfl, s⟩
 intro w s
 exact ret ⟨rfl, s.drop.drop.drop.drop.drop.drop.drop.drop⟩
end
theorem Zog {l : List Int} (h : ∀ x ∈ l, (Lit.int .u8 x).wf = true) : Byt l := fun x hx => by
 have := h x hx
 simp [Lit.wf, IntKind.min, IntKind.max, IntKind.bits, IntKind.signed] at this
 exact this
theorem Zwd {k : IntKind} {a b : List Int} (h : a.map (fun x => (DataW.lit (.int k x) : DataW Unit)) = b.map fun x => DataW.lit (.int k x)) : a = b := by
 refine (List.map_inj_right (f := fun x => (DataW.lit (.int k x) : DataW Unit)) ?_).1 h
 intro x y e
 cases e
 rfl
theorem Zuo {k : IntKind} {n : Nat} {a b : Vec Int n} (h : (DataW.agg (a.l.map (fun x => DataW.lit (.int k x))) : DataW Unit) = DataW.agg (b.l.map fun x => DataW.lit (.int k x))) : a = b := by
 obtain ⟨a, ha⟩ := a
 obtain ⟨b, hb⟩ := b
 have : a = b := Zwd (DataW.agg.inj h)
 subst this
 rfl
def strD (l : List ByteArray) : DataW Unit := .slice (l.map fun s => .lit (.string s.data.toList)) []
theorem Zu4 : (Rows.laid_weir_rules_acts : DataW Unit) = strD actB := by
 unfold Rows.laid_weir_rules_acts strD
 rw [show (actB.map fun s => (DataW.lit (.string s.data.toList) : DataW Unit)) = ([[112, 101, 114, 109, 105, 116], [100, 101, 110, 121], [114, 101, 106, 101, 99, 116]] : List (List UInt8)).map (fun l => .lit (.string l)) from by
  rw [show ([[112, 101, 114, 109, 105, 116], [100, 101, 110, 121], [114, 101, 106, 101, 99, 116]] : List (List UInt8)) = actB.map (fun s => s.data.toList) by decide +kernel, List.map_map]
  rfl]
 rfl
theorem ZtH : (Rows.laid_weir_rules_kinds : DataW Unit) = strD ZjJ := by
 unfold Rows.laid_weir_rules_kinds strD
 rw [show (ZjJ.map fun s => (DataW.lit (.string s.data.toList) : DataW Unit)) = ([[97, 114, 112], [105, 112, 52], [105, 112, 54]] : List (List UInt8)).map (fun l => .lit (.string l)) from by
  rw [show ([[97, 114, 112], [105, 112, 52], [105, 112, 54]] : List (List UInt8)) = ZjJ.map (fun s => s.data.toList) by decide +kernel, List.map_map]
  rfl]
 rfl
theorem ZtI : (Rows.laid_weir_rules_flags : DataW Unit) = strD Zho := by
 unfold Rows.laid_weir_rules_flags strD
 rw [show (Zho.map fun s => (DataW.lit (.string s.data.toList) : DataW Unit)) = ([[102, 105, 110], [115, 121, 110], [114, 115, 116], [112, 115, 104], [97, 99, 107], [117, 114, 103], [101, 99, 101], [99, 119, 114]] : List (List UInt8)).map (fun l => .lit (.string l)) from by
  rw [show ([[102, 105, 110], [115, 121, 110], [114, 115, 116], [112, 115, 104], [97, 99, 107], [117, 114, 103], [101, 99, 101], [99, 119, 114]] : List (List UInt8)) = Zho.map (fun s => s.data.toList) by decide +kernel, List.map_map]
  rfl]
 rfl
theorem Ss.nm {W : World} {Hs : List HP} {u : Sl} {g : Nat} {l : List ByteArray} (s : Ss W (pts false ⟨g, 0, none⟩ (cL.enc u) :: rdS cS false u l :: Hs) W) : Ss W (NmP g l :: Hs) W :=
 (Ss.group (l := [pts false ⟨g, 0, none⟩ (cL.enc u), rdS cS false u l]) s).first (fun h hh => ⟨u, trivial, hh⟩)
theorem ZxK {W : World} (h : Laid W) : ∃ Hs, Ss W Hs W ∧ RTab Hs := by
 obtain ⟨u0, u1, u2, ua, u3, u4, u5, ub, _, ⟨d1, c1⟩, ⟨d2, c2⟩, _, ⟨d3, c3⟩, ⟨d4, c4⟩, ⟨d5, c5⟩, _⟩ := Zwi h
 obtain rfl : u1 = dbV := Zuo (d1.symm.trans (by rfl))
 obtain rfl : u2 = Zgv := Zuo (d2.symm.trans (by rfl))
 have s0 : Ss W [] W := Ss.start W
 have s := (s0.tab (by decide) c1).tab (by decide) c2
 have s2 := Ss.group (l := [pts false ⟨6, 0, none⟩ (((cI .u64).arr 20).enc Zgv), pts false ⟨8, 0, none⟩ (((cI .u8).arr 64).enc dbV)]) s
 have s3 : Ss W (TabN :: _) W := s2.first (fun h hh => by
  obtain ⟨h1, h2, _, l1, l2, a, h3, h4, _, l3, _, b, _⟩ := hh
  exact ⟨⟨a.1, fun i x e => l1 _ _ _ (a.2 i x e)⟩, ⟨b.1, fun i x e => l2 _ _ _ (l3 _ _ _ (b.2 i x e))⟩⟩)
 have s4 := (s3.strs d3 ZtH c3).nm
 have s5 := (s4.strs d4 Zu4 c4).nm
 have s6 := (s5.strs d5 ZtI c5).nm
 exact ⟨_, s6, ⟨3, rfl⟩, ⟨1, rfl⟩, ⟨2, rfl⟩, ⟨0, rfl⟩⟩
inductive TM where
 | inn (n : Int)
 | vid (n : Int)
 | kind (n : Int)
 | proto (n : Int)
 | net (to no : Bool) (l : List Zag)
 | port (to : Bool) (l : List ZaH)
 | flag (s c : Int)
 | typ (n : Int)
 | piece
def Zf8 (m : ZaR) : List TM :=
 (if m.In ≠ 0 then [TM.inn m.In] else []) ++ (if m.Vid ≠ 0 then [TM.vid m.Vid] else []) ++ (if m.Kind ≠ 0 then [TM.kind m.Kind] else []) ++ (if m.Proto ≠ 0 then [TM.proto m.Proto] else [])
 ++ (if m.From.nets ≠ [] then [TM.net false m.From.Not m.From.nets] else []) ++ (if m.From.ports ≠ [] then [TM.port false m.From.ports] else [])
 ++ (if m.To.nets ≠ [] then [TM.net true m.To.Not m.To.nets] else []) ++ (if m.To.ports ≠ [] then [TM.port true m.To.ports] else [])
 ++ (if bor .i64 m.Set m.Clear ≠ 0 then [TM.flag m.Set m.Clear] else []) ++ (if m.Type_ ≠ 0 then [TM.typ m.Type_] else []) ++ (if m.Pieces = true then [TM.piece] else [])
def ZkW (p : Zat) (to : Bool) : Zbw × Bool :=
 if p.Kind = 1 then (if to = true then p.Arp.TIP else p.Arp.SIP, true)
 else if p.Kind = 2 then (if to = true then p.Ip4.Dst else p.Ip4.Src, true)
 else if p.Kind = 3 then (if to = true then p.Ip6.Dst else p.Ip6.Src, true)
 else (ZcF, false)
def Zmn (p : Zat) (to : Bool) : Int × Bool :=
 if p.L4 = 2 then (if to = true then p.Udp.Dport else p.Udp.Sport, true)
 else if p.L4 = 3 then (if to = true then p.Tcp.Dport else p.Tcp.Sport, true)
 else (0, false)
def TM.holds (port : Int) (p : Zat) (vid : Option Int) : TM → Bool
 | .inn n => wrap .i64 (n - 1) == port
 | .vid n => vid.any (fun x => x == n)
 | .kind n => p.Kind == n
 | .proto n => decide ((p.Kind = 2 ∧ p.Ip4.Proto = n) ∨ (p.Kind = 3 ∧ p.Ip6.Next = n))
 | .net to no l => (ZkW p to).2 && !(l.any (fun n => ctM n (ZkW p to).1) == no)
 | .port to l => (Zmn p to).2 && l.any (fun r => inR (Zmn p to).1 r.Lo r.Hi)
 | .flag s c => decide (p.L4 = 3 ∧ band .i64 p.Tcp.Flags s = s ∧ band .i64 p.Tcp.Flags c = 0)
 | .typ n => decide (p.L4 = 1 ∧ p.Icmp.Type_ = wrap .i64 (n - 1))
 | .piece => decide ((p.Kind = 2 ∧ (p.Ip4.MF = true ∨ p.Ip4.Off > 0)) ∨ (p.Kind = 3 ∧ p.Ip6.Frag.Has = true))
def Zmv (port : Int) (p : Zat) (vid : Option Int) (m : ZaR) : Bool := (Zf8 m).all (TM.holds port p vid)
def Zn6 (port : Int) (p : Zat) (vid : Option Int) (k : Nat) : List ZaR → Zbv
 | [] => ⟨2, 0, -1⟩
 | m :: ms => if Zmv port p vid m = true then ⟨m.Act, m.Class, (k : Int)⟩ else Zn6 port p vid (k + 1) ms
def ZvI (port : Int) (p : Zat) (vid : Option Int) (ms : List ZaR) : Zbv := Zn6 port p vid 0 ms
def newF (k : Nat) : List ZaR → Option (Int × Int)
 | [] => none
 | m :: ms => if ckM m ≠ 0 then some (ckM m, (k : Int)) else newF (k + 1) ms
def newM (ms : List ZaR) : Option (Int × Int) := if ms.length > 256 then some (167, 256) else newF 0 ms
structure Zna (m : ZaR) : Prop where
 fn : m.From.nets.length ≤ 16
 fp : m.From.ports.length ≤ 16
 tn : m.To.nets.length ≤ 16
 tp : m.To.ports.length ≤ 16
theorem Zlp {s : Zek} {k p : Int} (h : ZdX s k p = 0) : s.nets.length ≤ 16 ∧ s.ports.length ≤ 16 := by
 unfold ZdX at h
 split at h
 ·cases h
 ·rename_i h1
  split at h
  ·cases h
  ·split at h
   ·cases h
   ·rename_i h3
    exact ⟨Nat.le_of_not_lt fun h' => h1 (.inl h'), Nat.le_of_not_lt h3⟩
theorem ZoQ {m : ZaR} (h : ckM m = 0) : Zna m := by
 unfold ckM at h
 split at h
 ·cases h
 ·split at h
  ·cases h
  ·split at h
   ·rename_i h3
    exact absurd h h3
   ·rename_i h3
    have h1 := Zlp (Decidable.not_not.1 h3)
    have h2 := Zlp h
    exact ⟨h1.1, h1.2, h2.1, h2.2⟩
def frz (h : PH) : PH := fun b o => (h b o).map fun x => (false, x.2)
theorem Zee {h k : PH} (e : h.le k) : (frz h).le (frz k) := fun b o x hx => by
 obtain ⟨y, hy, rfl⟩ := Option.map_eq_some_iff.1 hx
 exact Option.map_eq_some_iff.2 ⟨y, e _ _ _ hy, rfl⟩
theorem Zf3 {q : Bool} {a : Addr} {L : List Value} {h : PH} (hp : pts q a L h) : pts false a L (frz h) :=
 ⟨hp.1, fun i x hx => Option.map_eq_some_iff.2 ⟨_, hp.2 i x hx, rfl⟩⟩
theorem Zg0 {α : Type} {c : Cod α} {q : Bool} {s : Sl} {xs : List α} {h : PH} (hp : rdS c q s xs h) : rdS c false s xs (frz h) :=
 ⟨hp.1, hp.2.1, hp.2.2.1, fun a ha hn => Zf3 (hp.2.2.2 a ha hn)⟩
theorem Zdl {α : Type} {c : Cod α} {s : Sl} {xs sp : List α} {h : PH} (hp : vec c s xs sp h) : rdS c false s xs (frz h) := ZvT hp
theorem ZuA {α : Type} {c : Cod α} {s : Sl} {xs sp : List α} {h : PH} (hp : vec c s xs sp h) : vec c ⟨s.a, xs.length, xs.length⟩ xs [] h := by
 obtain ⟨h1, h2, h3⟩ := hp
 refine ⟨rfl, by simp, ?_⟩
 dsimp only
 cases ha : s.a with
 | none =>
  rw [ha] at h3
  exact ⟨h3.1, rfl⟩
 | some a =>
  rw [ha] at h3
  refine ⟨h3.1, fun i x hx => h3.2 i x ?_⟩
  rw [zJ] at hx
  rw [zv, zH (List.getElem?_eq_some_iff.1 hx).1]
  exact hx
def Upw (A : HP) : Prop := ∀ h k : PH, h.le k → A h → A k
theorem Ro.and {A B : HP} (a : Ro A) (b : Ro B) : Ro (fun h => A h ∧ B h) := fun h hh => ⟨a h hh.1, b h hh.2⟩
theorem Ro.all {α : Type} {P : α → HP} (a : ∀ x, Ro (P x)) : Ro (fun h => ∀ x, P x h) := fun h hh x => a x h (hh x)
theorem Ro.exs {α : Type} {P : α → HP} (a : ∀ x, Ro (P x)) : Ro (fun h => ∃ x, P x h) := fun h ⟨x, hh⟩ => ⟨x, a x h hh⟩
theorem Ro.imp {p : Prop} {A : HP} (a : Ro A) : Ro (fun h => p → A h) := fun h hh hp => a h (hh hp)
theorem Ro.tt {p : Prop} : Ro (fun _ => p) := fun h hh => hh
theorem Upw.and {A B : HP} (a : Upw A) (b : Upw B) : Upw (fun h => A h ∧ B h) := fun h k e hh => ⟨a h k e hh.1, b h k e hh.2⟩
theorem Upw.all {α : Type} {P : α → HP} (a : ∀ x, Upw (P x)) : Upw (fun h => ∀ x, P x h) := fun h k e hh x => a x h k e (hh x)
theorem Upw.exs {α : Type} {P : α → HP} (a : ∀ x, Upw (P x)) : Upw (fun h => ∃ x, P x h) := fun h k e ⟨x, hh⟩ => ⟨x, a x h k e hh⟩
theorem Upw.imp {p : Prop} {A : HP} (a : Upw A) : Upw (fun h => p → A h) := fun h k e hh hp => a h k e (hh hp)
theorem Upw.tt {p : Prop} : Upw (fun _ => p) := fun h k e hh => hh
theorem Upw.pts {q : Bool} {a : Addr} {L : List Value} : Upw (pts q a L) := fun h k e hh => Zlb e hh
theorem Upw.rdS {α : Type} {c : Cod α} {q : Bool} {s : Sl} {xs : List α} : Upw (rdS c q s xs) := fun h k e hh => Zd8 e hh
theorem Zpm {A : HP} {h : PH} (hs : seps [A] h) : ∃ h1 : PH, h1.le h ∧ A h1 := by
 obtain ⟨h1, h2, -, l1, -, a, -⟩ := hs
 exact ⟨h1, l1, a⟩
theorem Zin {A : HP} {L : List HP} {h : PH} (hs : seps (A :: L) h) : ∃ h1 h2 : PH, h1.le h ∧ h2.le h ∧ A h1 ∧ seps L h2 := by
 obtain ⟨h1, h2, -, l1, l2, a, b⟩ := hs
 exact ⟨h1, h2, l1, l2, a, b⟩
section
variable {W w : World} {Hs : List HP}
theorem Ss.copy {A B : HP} (s : Ss W Hs w) (i : Nat) (e : nth Hs i = some A) (r : Ro A) (f : ∀ h, A h → B h) : Ss W (B :: Hs) w := (s.dup e r).first f
theorem Ss.frz2 {A B C : HP} (s : Ss W (A :: B :: Hs) w) (f : ∀ h1 h2 h : PH, h1.le h → h2.le h → A h1 → B h2 → C (frz h)) : Ss W (C :: Hs) w :=
 (s.merge (C := fun h => C (frz h)) f).freeze (fun h hh => hh)
theorem Ss.frz1 {A C : HP} (s : Ss W (A :: Hs) w) (f : ∀ h : PH, A h → C (frz h)) : Ss W (C :: Hs) w := s.freeze f
theorem Ss.exs {α : Type} {P : α → HP} {l : List HP} (s : Ss W ((fun h => ∃ x, P x h) :: l) w) : ∃ x, Ss W (P x :: l) w := Ss.ex s
theorem ZpT {α : Type} {c : Cod α} {A : HP} {n : Nat} {a0 : Sl} {a1 : α → M Bool} {l : List α} {g : List Bool} (s : Ss W Hs w) (i : Nat) (e : nth Hs i = some A) (r : Rdb A c a0 l) (hn : n = c.n) (hg : g.length = l.length) (hl : l.length ≤ 9000000000000000000)
  (h : ∀ (j : Nat) (x : α) (b : Bool), l[j]? = some x → g[j]? = some b → ∀ w, Ss W Hs w → WP (a1 x) w (fun y w' => y = b ∧ Ss W Hs w')) :
  WP (Zcn (fun s_ : Int => if s_ < (a0.len : Int) then idx a0.a a0.len s_ n >>= fun p => ld c p >>= fun x => a1 x >>= fun y => if y = true then pure (LS.done s_) else pure (LS.next (wrap .i64 (s_ + 1))) else pure (LS.done (-1))) 0) w (fun y w' => decide (y ≥ 0) = g.any id ∧ Ss W Hs w') := by
 have hlen := (s.rd_len e r).1
 refine WP.loopG (γ := Nat) (fun k (x : Int) w => x = (k : Int) ∧ k ≤ l.length ∧ (g.take k).any id = false ∧ Ss W Hs w) (fun k _ => l.length - k) 0 ⟨rfl, zF _, rfl, s⟩ ?_
 clear s
 rintro k _ w ⟨rfl, hk, ha, s⟩
 refine WP.ite (fun hc => ?_) (fun hc => ?_)
 ·have hk2 : k < l.length := by omega
  have hx := za hk2
  have hy := za (show k < g.length by omega)
  generalize l[k] = x at hx
  generalize g[k]'(show k < g.length by omega) = b at hy
  have ht : g.take (k + 1) = g.take k ++ [b] := by
   rw [zy, hy]
   rfl
  refine WP.rdx s i e r (by omega) (x := x) (by rw [zg]; exact hx) hn (WP.step (h k x b hx hy w s) ?_)
  rintro _ w ⟨rfl, s⟩
  rename_i y
  cases y with
  | true =>
   refine WP.ite (fun _ => WP.done ⟨?_, s⟩) (fun h' => absurd rfl h')
   rw [List.any_eq_true.2 ⟨true, zk hy, rfl⟩]
   exact zb (by omega)
  | false =>
   refine WP.ite (fun h' => by cases h') (fun _ => WP.next ⟨k + 1, ⟨?_, hk2, ?_, s⟩, by omega⟩)
   ·rw [Zau (by omega) (by omega)]
    simp
   ·rw [ht, List.any_append, ha]
    rfl
 ·have hk2 : k = g.length := by omega
  rw [hk2, zI] at ha
  exact WP.done ⟨by rw [ha]; rfl, s⟩
theorem ZpU {α : Type} {c : Cod α} {A : HP} {n : Nat} {a0 : Sl} {a1 : α → M Bool} {l : List α} {f : α → Bool} (s : Ss W Hs w) (i : Nat) (e : nth Hs i = some A) (r : Rdb A c a0 l) (hn : n = c.n) (hl : l.length ≤ 9000000000000000000)
  (h : ∀ x ∈ l, ∀ w, Ss W Hs w → WP (a1 x) w (fun y w' => y = f x ∧ Ss W Hs w')) :
  WP (Zcn (fun s_ : Int => if s_ < (a0.len : Int) then idx a0.a a0.len s_ n >>= fun p => ld c p >>= fun x => a1 x >>= fun y => if y = true then pure (LS.done s_) else pure (LS.next (wrap .i64 (s_ + 1))) else pure (LS.done (-1))) 0) w (fun y w' => decide (y ≥ 0) = l.any f ∧ Ss W Hs w') := by
 have q := ZpT (a1 := a1) (g := l.map f) s i e r hn (by rw [zl]) hl (fun j x b hx hb w s => by
  rw [zD, hx] at hb
  cases hb
  exact h x (zk hx) w s)
 rw [List.any_map] at q
 exact q
theorem orF {β : Type} {p : Prop} [Decidable p] {c : Bool} {f : Bool → M β} {Q : β → World → Prop} (hp : ¬ p) (hc : c = false) (k : WP (f false) w Q) : WP ((if p then pure true else pure c) >>= f) w Q := by
 refine WP.step (R := fun y w' => y = false ∧ w = w') (WP.ite (fun h => absurd h hp) (fun _ => ret ⟨hc, rfl⟩)) ?_
 rintro _ _ ⟨rfl, rfl⟩
 exact k
end
end
end Go.Proofs.YtfnokeoldcfcoaaGreatDoor.Lx
