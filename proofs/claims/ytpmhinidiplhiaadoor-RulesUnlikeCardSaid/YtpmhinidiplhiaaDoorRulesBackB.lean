
import Derived.Test.YtpmhinidiplhiaaDoorRulesBackA
set_option linter.unusedVariables false
set_option linter.unusedSimpArgs false
namespace Go.Proofs.YtpmhinidiplhiaaDoor.Lx
open Go Go.Proofs Go.RowKit
def tokF (f : Bool × Nat) : List Int := if f.1 = true then 33 :: Ze6.getD f.2 [] else Ze6.getD f.2 []
def addF (p : Int × Int) (f : Bool × Nat) : Int × Int := if f.1 = true then (p.1, p.2 + 2 ^ f.2) else (p.1 + 2 ^ f.2, p.2)
def OkF : List (Bool × Nat) → Int × Int → Prop
 | [], _ => True
 | f :: r, p => (f.2 < 8 ∧ hasB p.1 f.2 = false ∧ hasB p.2 f.2 = false) ∧ OkF r (addF p f)
theorem ZlB : ∀ k : _root_.Fin 8, ∀ b : Bool, ZfU (tokF (b, k.val)) = (b, some k.val) ∧ tokF (b, k.val) ≠ comma ∧ (tokF (b, k.val)).all Zez = true ∧ tokF (b, k.val) ≠ [] := by decide +kernel
theorem OkF.app : ∀ {a b : List (Bool × Nat)} {p : Int × Int}, OkF a p → OkF b (a.foldl addF p) → OkF (a ++ b) p
 | [], _, _, _, h => h
 | _ :: _, _, _, h1, h2 => ⟨h1.1, OkF.app h1.2 h2⟩
theorem Zks {e : Int} {p : Int × Int} {f : Bool × Nat} {ws : List Wd} {b : List (List Int)} (hf : f.2 < 8 ∧ hasB p.1 f.2 = false ∧ hasB p.2 f.2 = false) (ht : Tk ws (tokF f :: b)) : ∃ r, Zng e p.1 p.2 ws = .ok (addF p f, r) ∧ Tk r b := by
 obtain ⟨g, k⟩ := f
 obtain ⟨h1, h2, h3⟩ := hf
 obtain ⟨t1, t2, -, -⟩ := ZlB ⟨k, h1⟩ g
 simp only at t1 t2 h2 h3
 obtain ⟨q, r, rfl, hr⟩ := ZdK ht
 refine ⟨r, ?_, hr⟩
 rw [Zfm, if_neg t2]
 simp only
 rw [t1]
 simp only
 rw [h2, h3, if_neg (by decide)]
 rfl
theorem Zjt {e : Int} : ∀ {fs : List (Bool × Nat)} {p : Int × Int} {ws : List Wd} {b : List (List Int)}, fs ≠ [] → OkF fs p → (∀ t r, b = t :: r → t ≠ comma) → Tk ws (Ze3 (fs.map tokF) ++ b) → ∃ r, Zd4 e p.1 p.2 ws = .ok (fs.foldl addF p, r) ∧ Tk r b
 | [], _, _, _, h, _, _, _ => absurd rfl h
 | [f], p, ws, b, _, ho, hb, ht => by
  obtain ⟨r, h1, h2⟩ := Zks (e := e) ho.1 (show Tk ws (tokF f :: b) from ht)
  refine ⟨r, ?_, h2⟩
  rw [ZfG, h1]
  simp only
  rw [Zd7 h2 hb]
  rfl
 | f :: f2 :: rest, p, ws, b, _, ho, hb, ht => by
  obtain ⟨r, h1, h2⟩ := Zks (e := e) ho.1 (show Tk ws (tokF f :: (comma :: (Ze3 ((f2 :: rest).map tokF) ++ b))) from ht)
  obtain ⟨r2, h3, h4⟩ := ZhI h2
  obtain ⟨r3, h5, h6⟩ := Zjt (fs := f2 :: rest) (p := addF p f) (by simp) ho.2 hb h4
  refine ⟨r3, ?_, h6⟩
  rw [ZfG, h1]
  simp only
  rw [h3]
  simp only
  rw [h5]
  rfl
def flB (m : ZaO) (k : Nat) : List (Bool × Nat) := (if hasB m.Set k = true then [(false, k)] else []) ++ (if hasB m.Clear k = true then [(true, k)] else [])
def flU (m : ZaO) (k : Nat) : List (Bool × Nat) := (List.range k).flatMap (flB m)
theorem ZnV (m : ZaO) (k : Nat) : flU m (k + 1) = flU m k ++ flB m k := by
 unfold flU
 rw [List.range_succ, List.flatMap_append]
 simp
theorem Zsq (m : ZaO) (k : Nat) : (flB m k).map tokF = Zk9 m k := by
 unfold flB Zk9
 rw [List.map_append]
 congr 1
 ·split <;> rfl
 ·split <;> rfl
theorem Zla (m : ZaO) : ∀ k, (flU m k).map tokF = ZeV m k
 | 0 => rfl
 | k + 1 => by rw [ZnV, ZfF, List.map_append, Zla m k, Zsq]
theorem ZsE : ∀ a : _root_.Fin 256, ∀ k : _root_.Fin 8, hasB ((a.val : Int) % 2 ^ k.val) k.val = false ∧ (a.val : Int) % 2 ^ (k.val + 1) = (a.val : Int) % 2 ^ k.val + (if hasB (a.val : Int) k.val = true then 2 ^ k.val else 0) := by decide +kernel
theorem Zn7 {s : Int} (hs : 0 ≤ s ∧ s ≤ 255) {k : Nat} (hk : k < 8) : hasB (s % 2 ^ k) k = false ∧ s % 2 ^ (k + 1) = s % 2 ^ k + (if hasB s k = true then 2 ^ k else 0) := by
 obtain ⟨n, rfl⟩ : ∃ n : Nat, s = (n : Int) := ⟨s.toNat, by omega⟩
 exact ZsE ⟨n, by omega⟩ ⟨k, hk⟩
theorem ZrM {m : ZaO} (f : Zen m) : ∀ k, k ≤ 8 → OkF (flU m k) (0, 0) ∧ (flU m k).foldl addF (0, 0) = (m.Set % 2 ^ k, m.Clear % 2 ^ k)
 | 0, _ => ⟨trivial, by
  show ((0 : Int), (0 : Int)) = (m.Set % 2 ^ 0, m.Clear % 2 ^ 0)
  rw [Int.pow_zero, Int.emod_one, Int.emod_one]⟩
 | k + 1, h => by
  obtain ⟨h1, h2⟩ := ZrM f k (by omega)
  obtain ⟨a1, a2⟩ := Zn7 f.set_ (k := k) (by omega)
  obtain ⟨b1, b2⟩ := Zn7 f.clr (k := k) (by omega)
  have hx : ¬ (hasB m.Set k = true ∧ hasB m.Clear k = true) := by
   rintro ⟨x1, x2⟩
   have hs := f.apart
   unfold ZiX at hs
   rw [List.any_eq_false] at hs
   have := hs k (List.mem_range.2 (by omega))
   rw [x1, x2] at this
   exact this rfl
  rw [ZnV, List.foldl_append, h2, a2, b2]
  unfold flB
  cases hs : hasB m.Set k <;> cases hc : hasB m.Clear k
  ·refine ⟨OkF.app h1 trivial, ?_⟩
   simp
  ·refine ⟨OkF.app h1 ?_, ?_⟩
   ·rw [h2]
    exact ⟨⟨by omega, a1, b1⟩, trivial⟩
   ·simp [addF]
  ·refine ⟨OkF.app h1 ?_, ?_⟩
   ·rw [h2]
    exact ⟨⟨by omega, a1, b1⟩, trivial⟩
   ·simp [addF]
  ·exact absurd ⟨hs, hc⟩ hx
theorem Zp8 {m : ZaO} (f : Zen m) : OkF (flU m 8) (0, 0) ∧ (flU m 8).foldl addF (0, 0) = (m.Set, m.Clear) := by
 obtain ⟨h1, h2⟩ := ZrM f 8 (Nat.le_refl _)
 refine ⟨h1, ?_⟩
 rw [h2]
 have := f.set_
 have := f.clr
 congr 1
 ·omega
 ·omega
theorem Ztc {m : ZaO} (f : Zen m) (h : Zet m = []) : m.Set = 0 ∧ m.Clear = 0 := by
 obtain ⟨-, h2⟩ := Zp8 f
 have h3 := Zla m 8
 rw [Zhq, h] at h3
 rw [List.map_eq_nil_iff.1 h3] at h2
 have := Prod.mk.inj h2
 exact ⟨this.1.symm, this.2.symm⟩
theorem Ztb {m : ZaO} (f : Zen m) (h : Zet m ≠ []) : m.Set ≠ 0 ∨ m.Clear ≠ 0 := by
 refine Decidable.byContradiction fun hn => h ?_
 have h0 : m.Set = 0 ∧ m.Clear = 0 := by omega
 have hz : ∀ k : _root_.Fin 8, hasB 0 k.val = false := by decide +kernel
 unfold Zet
 rw [List.flatMap_eq_nil_iff]
 intro k hk
 have := hz ⟨k, List.mem_range.1 hk⟩
 simp only at this
 rw [h0.1, h0.2, this]
 rfl
def ZlC (m : ZaO) : List (List Int) := if m.Class > 0 then [tx "class", decM m.Class] else []
def ZfV (m : ZaO) : List (List Int) := (if m.Kind > 0 then [ZeH.getD (m.Kind - 1).toNat []] else []) ++ (if Zcu m.Proto ≠ [] then [Zcu m.Proto] else if m.Proto > 0 then [tx "proto", decM m.Proto] else if m.Kind = 0 then [tx "any"] else [])
def st0 (m : ZaO) : ZaO := { zRl with Act := m.Act, Class := m.Class, Kind := m.Kind, Proto := m.Proto }
theorem Zi6 {n : Int} (h : Zcu n ≠ []) : Zie (Zcu n) = some n ∧ Zcu n ≠ tx "any" ∧ Zcu n ≠ tx "class" ∧ idxT ZeH (Zcu n) = none ∧ Wrd (Zcu n) ∧ n ≠ 0 := by
 unfold Zcu at h ⊢
 split
 ·rename_i h1
  subst h1
  exact ⟨by decide +kernel, by decide +kernel, by decide +kernel, by decide +kernel, ⟨by decide +kernel, by decide +kernel⟩, by decide⟩
 ·rename_i h1
  rw [if_neg h1] at h
  split
  ·rename_i h1
   subst h1
   exact ⟨by decide +kernel, by decide +kernel, by decide +kernel, by decide +kernel, ⟨by decide +kernel, by decide +kernel⟩, by decide⟩
  ·rename_i h1
   rw [if_neg h1] at h
   split
   ·rename_i h1
    subst h1
    exact ⟨by decide +kernel, by decide +kernel, by decide +kernel, by decide +kernel, ⟨by decide +kernel, by decide +kernel⟩, by decide⟩
   ·rename_i h1
    rw [if_neg h1] at h
    split
    ·rename_i h1
     subst h1
     exact ⟨by decide +kernel, by decide +kernel, by decide +kernel, by decide +kernel, ⟨by decide +kernel, by decide +kernel⟩, by decide⟩
    ·rename_i h1
     rw [if_neg h1] at h
     exact absurd rfl h
theorem Zkd : Zie (tx "proto") = none ∧ tx "proto" ≠ tx "any" ∧ tx "proto" ≠ tx "class" ∧ idxT ZeH (tx "proto") = none ∧ Zdr (tx "proto") = true := by decide +kernel
theorem ZqZ : Zcu 0 = [] := by decide
def tokP (n : Int) : List (List Int) := if Zcu n ≠ [] then [Zcu n] else [tx "proto", decM n]
theorem ZlA {e kind n : Int} {ws : List Wd} {b : List (List Int)} (h : 0 < n ∧ n ≤ 255) (hk : kind ≠ 1) (ht : Tk ws (tokP n ++ b)) : ∃ w ws', ws = w :: ws' ∧ Zdr w.1 = true ∧ w.1 ≠ tx "any" ∧ w.1 ≠ tx "class" ∧ idxT ZeH w.1 = none ∧ ∃ r, ZeQ e kind w ws' = .ok (n, r) ∧ Tk r b := by
 unfold tokP at ht
 by_cases hp : Zcu n ≠ []
 ·rw [if_pos hp] at ht
  obtain ⟨q, r, rfl, hr⟩ := ZdK ht
  obtain ⟨h1, h2, h3, h4, -⟩ := Zi6 hp
  refine ⟨_, _, rfl, ?_, h2, h3, h4, r, ?_, hr⟩
  ·unfold Zdr
   rw [h1]
   rfl
  ·unfold ZeQ
   rw [if_neg hk]
   simp only
   rw [h1]
 ·rw [if_neg hp] at ht
  obtain ⟨q, r, rfl, hr⟩ := ZdK ht
  obtain ⟨h1, h2, h3, h4, h5⟩ := Zkd
  obtain ⟨r2, h6, h7⟩ := Zhj (e := e) (lo := 1) (hi := 255) (by omega) (by omega) (by omega) h.2 hr
  refine ⟨_, _, rfl, h5, h2, h3, h4, r2, ?_, h7⟩
  unfold ZeQ
  rw [if_neg hk]
  simp only
  rw [h1]
  exact h6
theorem Zk4 : ∀ k : _root_.Fin 3, idxT ZeH (ZeH.getD k.val []) = some k.val ∧ ZeH.getD k.val [] ≠ tx "any" ∧ ZeH.getD k.val [] ≠ tx "class" ∧ Wrd (ZeH.getD k.val []) := by
 unfold Wrd
 decide +kernel
theorem Zqw : ∀ k : _root_.Fin 3, idxT actN (actN.getD k.val []) = some k.val ∧ Wrd (actN.getD k.val []) := by
 unfold Wrd
 decide +kernel
theorem Zqq : ∀ t ∈ clN, Zdr t = false := by decide +kernel
theorem Zj4 {m : ZaO} (hk : 0 ≤ m.Kind) (hp : 0 ≤ m.Proto) : ZfV m = (if m.Kind > 0 then [ZeH.getD (m.Kind - 1).toNat []] else []) ++ (if m.Proto > 0 then tokP m.Proto else if m.Kind = 0 then [tx "any"] else []) := by
 unfold ZfV tokP
 congr 1
 by_cases h0 : m.Proto > 0
 ·rw [if_pos h0]
  by_cases h1 : Zcu m.Proto ≠ []
  ·rw [if_pos h1, if_pos h0]
  ·rw [if_neg h1, if_pos h0]
 ·have : m.Proto = 0 := by omega
  rw [this, ZqZ, if_neg (show ¬ (([] : List Int) ≠ []) by decide), if_neg (show ¬ ((0 : Int) > 0) by decide), if_neg (show ¬ ((0 : Int) > 0) by decide)]
theorem Zof {e : Int} {m : ZaO} {ws : List Wd} {b : List (List Int)} (f : Zen m) (hc : m.Proto ≠ 0 → m.Kind ≠ 1) (hb : Zd0 b) (ht : Tk ws (ZfV m ++ b)) : ∃ r, ZjK e ws = .ok ((m.Kind, m.Proto), r) ∧ Tk r b := by
 have hk := f.kind
 have hp := f.proto
 rw [Zj4 hk.1 hp.1] at ht
 by_cases k0 : m.Kind > 0
 ·rw [if_pos k0] at ht
  obtain ⟨q, r, rfl, hr⟩ := ZdK (show Tk ws (ZeH.getD (m.Kind - 1).toNat [] :: ((if m.Proto > 0 then tokP m.Proto else if m.Kind = 0 then [tx "any"] else []) ++ b)) from ht)
  obtain ⟨t1, t2, -⟩ := Zk4 ⟨(m.Kind - 1).toNat, by omega⟩
  simp only at t1 t2
  have hkk : (((m.Kind - 1).toNat : Nat) : Int) + 1 = m.Kind := by omega
  rw [Zfd, if_neg t2]
  simp only
  rw [t1]
  simp only
  by_cases p0 : m.Proto > 0
  ·rw [if_pos p0] at hr
   obtain ⟨w, ws', rfl, h1, -, -, -, r2, h3, h4⟩ := ZlA (e := e) (kind := m.Kind) ⟨p0, hp.2⟩ (hc (by omega)) hr
   refine ⟨r2, ?_, h4⟩
   unfold Zog
   simp only
   rw [if_pos h1, hkk, h3]
  ·have p00 : m.Proto = 0 := by omega
   rw [if_neg p0, if_neg (by omega), List.nil_append] at hr
   refine ⟨r, ?_, hr⟩
   unfold Zog
   cases r with
   | nil => simp only; rw [hkk, p00]
   | cons v r =>
    simp only
    rw [if_neg (by rw [Zqq v.1 (hb v.1 _ hr.symm)]; decide), hkk, p00]
 ·have k00 : m.Kind = 0 := by omega
  rw [if_neg k0, List.nil_append] at ht
  by_cases p0 : m.Proto > 0
  ·rw [if_pos p0] at ht
   obtain ⟨w, ws', rfl, h1, h2, -, h2', r2, h3, h4⟩ := ZlA (e := e) (kind := 0) ⟨p0, hp.2⟩ (by decide) ht
   refine ⟨r2, ?_, h4⟩
   rw [Zfd, if_neg h2, h2']
   simp only
   rw [if_pos h1, h3, k00]
  ·rw [if_neg p0, if_pos k00] at ht
   obtain ⟨q, r, rfl, hr⟩ := ZdK (show Tk ws (tx "any" :: b) from ht)
   refine ⟨r, ?_, hr⟩
   rw [Zfd, if_pos rfl, k00, show m.Proto = 0 by omega]
theorem ZoM : tx "any" ≠ tx "class" := by decide +kernel
theorem ZoJ {e : Int} {m : ZaO} {ws : List Wd} {b : List (List Int)} (f : Zen m) (hcl : Zfo m = false) (hb : Zd0 b) (ht : Tk ws (actN.getD (m.Act - 1).toNat [] :: (ZlC m ++ (ZfV m ++ b)))) : ∃ r, Zmh e ws = .ok (st0 m, r) ∧ Tk r b := by
 have ha := f.act
 have hl := f.cls
 have hcl := of_decide_eq_false hcl
 obtain ⟨q, r, rfl, hr⟩ := ZdK ht
 obtain ⟨t1, -⟩ := Zqw ⟨(m.Act - 1).toNat, by omega⟩
 simp only at t1
 have hcl1 : m.Class ≠ 0 → m.Act = 1 := fun h => Decidable.byContradiction fun h' => hcl (.inl ⟨h, h'⟩)
 have hcl2 : m.Proto ≠ 0 → m.Kind ≠ 1 := fun h h' => hcl (.inr (.inl ⟨h, h'⟩))
 have hcls : ∃ r2, ZfP e (m.Act - 1).toNat r = .ok (m.Class, r2) ∧ Tk r2 (ZfV m ++ b) := by
  unfold ZlC at hr
  unfold ZfP
  by_cases c0 : m.Class > 0
  ·rw [if_pos c0] at hr
   have := hcl1 (by omega)
   rw [if_pos (by omega)]
   obtain ⟨r2, h1, h2⟩ := ZhI hr
   rw [h1]
   exact Zhj (by omega) (by omega) (by omega) (by omega) h2
  ·have c00 : m.Class = 0 := by omega
   rw [if_neg c0, List.nil_append] at hr
   rw [c00]
   by_cases a0 : (m.Act - 1).toNat = 0
   ·rw [if_pos a0]
    have : Zdc (tx "class") r = none := by
     refine Zd7 hr (fun u us h => ?_)
     rw [Zj4 f.kind.1 f.proto.1] at h
     by_cases k0 : m.Kind > 0
     ·rw [if_pos k0] at h
      cases h
      have hk := f.kind
      exact (Zk4 ⟨(m.Kind - 1).toNat, by omega⟩).2.2.1
     ·rw [if_neg k0, List.nil_append] at h
      by_cases p0 : m.Proto > 0
      ·rw [if_pos p0] at h
       unfold tokP at h
       by_cases hp : Zcu m.Proto ≠ []
       ·rw [if_pos hp] at h
        cases h
        exact (Zi6 hp).2.2.1
       ·rw [if_neg hp] at h
        cases h
        exact Zkd.2.2.1
      ·have hk := f.kind
       rw [if_neg p0, if_pos (by omega)] at h
       cases h
       exact ZoM
    rw [this]
    exact ⟨r, rfl, hr⟩
   ·rw [if_neg a0]
    exact ⟨r, rfl, hr⟩
 obtain ⟨r2, h1, h2⟩ := hcls
 obtain ⟨r3, h3, h4⟩ := Zof (e := e) f hcl2 hb h2
 refine ⟨r3, ?_, h4⟩
 rw [show Zmh e ((actN.getD (m.Act - 1).toNat [], q) :: r) = match idxT actN (actN.getD (m.Act - 1).toNat []) with
  | none => .error (160, q)
  | some a => match ZfP e a r with
   | .error f => .error f
   | .ok (c, r) => match ZjK e r with
    | .error f => .error f
    | .ok (k, r) => .ok ({ zRl with Act := (a : Int) + 1, Class := c, Kind := k.1, Proto := k.2 }, r) from rfl, t1]
 simp only
 rw [h1]
 simp only
 rw [h3]
 simp only
 rw [show (((m.Act - 1).toNat : Nat) : Int) + 1 = m.Act by omega]
 rfl
end Go.Proofs.YtpmhinidiplhiaaDoor.Lx
