
import Derived.Test.YtpmhinidiplhiaaDoorRulesBackA
set_option linter.unusedVariables false
set_option linter.unusedSimpArgs false
namespace Go.Proofs.YtpmhinidiplhiaaDoor.Lx
open Go Go.Proofs Go.RowKit
def tokF (f : Bool × Nat) : List Int := if f.1 = true then 33 :: Zfg.getD f.2 [] else Zfg.getD f.2 []
def addF (p : Int × Int) (f : Bool × Nat) : Int × Int := if f.1 = true then (p.1, p.2 + 2 ^ f.2) else (p.1 + 2 ^ f.2, p.2)
def OkF : List (Bool × Nat) → Int × Int → Prop
 | [], _ => True
 | f :: r, p => (f.2 < 8 ∧ hasB p.1 f.2 = false ∧ hasB p.2 f.2 = false) ∧ OkF r (addF p f)
theorem ZlX : ∀ k : _root_.Fin 8, ∀ b : Bool, ZfS (tokF (b, k.val)) = (b, some k.val) ∧ tokF (b, k.val) ≠ comma ∧ (tokF (b, k.val)).all ZeC = true ∧ tokF (b, k.val) ≠ [] := by decide +kernel
theorem OkF.app : ∀ {a b : List (Bool × Nat)} {p : Int × Int}, OkF a p → OkF b (a.foldl addF p) → OkF (a ++ b) p
 | [], _, _, _, h => h
 | _ :: _, _, _, h1, h2 => ⟨h1.1, OkF.app h1.2 h2⟩
theorem ZkL {e : Int} {p : Int × Int} {f : Bool × Nat} {ws : List Wd} {b : List (List Int)} (hf : f.2 < 8 ∧ hasB p.1 f.2 = false ∧ hasB p.2 f.2 = false) (ht : Tk ws (tokF f :: b)) : ∃ r, Zlt e p.1 p.2 ws = .ok (addF p f, r) ∧ Tk r b := by
 obtain ⟨g, k⟩ := f
 obtain ⟨h1, h2, h3⟩ := hf
 obtain ⟨t1, t2, -, -⟩ := ZlX ⟨k, h1⟩ g
 simp only at t1 t2 h2 h3
 obtain ⟨q, r, rfl, hr⟩ := ZdQ ht
 refine ⟨r, ?_, hr⟩
 rw [ZeH, if_neg t2]
 simp only
 rw [t1]
 simp only
 rw [h2, h3, if_neg (by decide)]
 rfl
theorem ZjL {e : Int} : ∀ {fs : List (Bool × Nat)} {p : Int × Int} {ws : List Wd} {b : List (List Int)}, fs ≠ [] → OkF fs p → (∀ t r, b = t :: r → t ≠ comma) → Tk ws (Zfd (fs.map tokF) ++ b) → ∃ r, ZdK e p.1 p.2 ws = .ok (fs.foldl addF p, r) ∧ Tk r b
 | [], _, _, _, h, _, _, _ => absurd rfl h
 | [f], p, ws, b, _, ho, hb, ht => by
  obtain ⟨r, h1, h2⟩ := ZkL (e := e) ho.1 (show Tk ws (tokF f :: b) from ht)
  refine ⟨r, ?_, h2⟩
  rw [ZeS, h1]
  simp only
  rw [Zec h2 hb]
  rfl
 | f :: f2 :: rest, p, ws, b, _, ho, hb, ht => by
  obtain ⟨r, h1, h2⟩ := ZkL (e := e) ho.1 (show Tk ws (tokF f :: (comma :: (Zfd ((f2 :: rest).map tokF) ++ b))) from ht)
  obtain ⟨r2, h3, h4⟩ := ZhV h2
  obtain ⟨r3, h5, h6⟩ := ZjL (fs := f2 :: rest) (p := addF p f) (by simp) ho.2 hb h4
  refine ⟨r3, ?_, h6⟩
  rw [ZeS, h1]
  simp only
  rw [h3]
  simp only
  rw [h5]
  rfl
def flB (m : ZaO) (k : Nat) : List (Bool × Nat) := (if hasB m.Set k = true then [(false, k)] else []) ++ (if hasB m.Clear k = true then [(true, k)] else [])
def flU (m : ZaO) (k : Nat) : List (Bool × Nat) := (List.range k).flatMap (flB m)
theorem Zol (m : ZaO) (k : Nat) : flU m (k + 1) = flU m k ++ flB m k := by
 unfold flU
 rw [List.range_succ, List.flatMap_append]
 simp
theorem ZsO (m : ZaO) (k : Nat) : (flB m k).map tokF = Zls m k := by
 unfold flB Zls
 rw [List.map_append]
 congr 1
 ·split <;> rfl
 ·split <;> rfl
theorem Zlu (m : ZaO) : ∀ k, (flU m k).map tokF = Ze3 m k
 | 0 => rfl
 | k + 1 => by rw [Zol, ZfR, List.map_append, Zlu m k, ZsO]
theorem Zs2 : ∀ a : _root_.Fin 256, ∀ k : _root_.Fin 8, hasB ((a.val : Int) % 2 ^ k.val) k.val = false ∧ (a.val : Int) % 2 ^ (k.val + 1) = (a.val : Int) % 2 ^ k.val + (if hasB (a.val : Int) k.val = true then 2 ^ k.val else 0) := by decide +kernel
theorem Zoy {s : Int} (hs : 0 ≤ s ∧ s ≤ 255) {k : Nat} (hk : k < 8) : hasB (s % 2 ^ k) k = false ∧ s % 2 ^ (k + 1) = s % 2 ^ k + (if hasB s k = true then 2 ^ k else 0) := by
 obtain ⟨n, rfl⟩ : ∃ n : Nat, s = (n : Int) := ⟨s.toNat, by omega⟩
 exact Zs2 ⟨n, by omega⟩ ⟨k, hk⟩
theorem Zsb {m : ZaO} (f : Zeh m) : ∀ k, k ≤ 8 → OkF (flU m k) (0, 0) ∧ (flU m k).foldl addF (0, 0) = (m.Set % 2 ^ k, m.Clear % 2 ^ k)
 | 0, _ => ⟨trivial, by
  show ((0 : Int), (0 : Int)) = (m.Set % 2 ^ 0, m.Clear % 2 ^ 0)
  rw [Int.pow_zero, Int.emod_one, Int.emod_one]⟩
 | k + 1, h => by
  obtain ⟨h1, h2⟩ := Zsb f k (by omega)
  obtain ⟨a1, a2⟩ := Zoy f.set_ (k := k) (by omega)
  obtain ⟨b1, b2⟩ := Zoy f.clr (k := k) (by omega)
  have hx : ¬ (hasB m.Set k = true ∧ hasB m.Clear k = true) := by
   rintro ⟨x1, x2⟩
   have hs := f.apart
   unfold Zga at hs
   rw [List.any_eq_false] at hs
   have := hs k (List.mem_range.2 (by omega))
   rw [x1, x2] at this
   exact this rfl
  rw [Zol, List.foldl_append, h2, a2, b2]
  unfold flB
  cases hs : hasB m.Set k <;> cases hc : hasB m.Clear k
  ·refine ⟨OkF.app h1 trivial, ?_⟩
   simp
  ·refine ⟨OkF.app h1 ?_, ?_⟩
   ·rw [h2]
    exact ⟨⟨by omega, a1, b1⟩, trivial⟩
   ·simp [addF]
  ·refine ⟨OkF.app h1 ?_, ?_⟩
   ·rw [h2]
    exact ⟨⟨by omega, a1, b1⟩, trivial⟩
   ·simp [addF]
  ·exact absurd ⟨hs, hc⟩ hx
theorem ZqB {m : ZaO} (f : Zeh m) : OkF (flU m 8) (0, 0) ∧ (flU m 8).foldl addF (0, 0) = (m.Set, m.Clear) := by
 obtain ⟨h1, h2⟩ := Zsb f 8 (Nat.le_refl _)
 refine ⟨h1, ?_⟩
 rw [h2]
 have := f.set_
 have := f.clr
 congr 1
 ·omega
 ·omega
theorem Ztz {m : ZaO} (f : Zeh m) (h : ZeA m = []) : m.Set = 0 ∧ m.Clear = 0 := by
 obtain ⟨-, h2⟩ := ZqB f
 have h3 := Zlu m 8
 rw [ZhC, h] at h3
 rw [List.map_eq_nil_iff.1 h3] at h2
 have := Prod.mk.inj h2
 exact ⟨this.1.symm, this.2.symm⟩
theorem Zty {m : ZaO} (f : Zeh m) (h : ZeA m ≠ []) : m.Set ≠ 0 ∨ m.Clear ≠ 0 := by
 refine Decidable.byContradiction fun hn => h ?_
 have h0 : m.Set = 0 ∧ m.Clear = 0 := by omega
 have hz : ∀ k : _root_.Fin 8, hasB 0 k.val = false := by decide +kernel
 unfold ZeA
 rw [List.flatMap_eq_nil_iff]
 intro k hk
 have := hz ⟨k, List.mem_range.1 hk⟩
 simp only at this
 rw [h0.1, h0.2, this]
 rfl
def ZlY (m : ZaO) : List (List Int) := if m.Class > 0 then [tx "class", decM m.Class] else []
def Zf7 (m : ZaO) : List (List Int) := (if m.Kind > 0 then [ZeP.getD (m.Kind - 1).toNat []] else []) ++ (if Zcv m.Proto ≠ [] then [Zcv m.Proto] else if m.Proto > 0 then [tx "proto", decM m.Proto] else if m.Kind = 0 then [tx "any"] else [])
def st0 (m : ZaO) : ZaO := { zRl with Act := m.Act, Class := m.Class, Kind := m.Kind, Proto := m.Proto }
theorem Zjk {n : Int} (h : Zcv n ≠ []) : Zhq (Zcv n) = some n ∧ Zcv n ≠ tx "any" ∧ Zcv n ≠ tx "class" ∧ idxT ZeP (Zcv n) = none ∧ Wrd (Zcv n) ∧ n ≠ 0 := by
 unfold Zcv at h ⊢
 split
 ·rename_i h1
  subst h1
  exact ⟨by decide +kernel, by decide +kernel, by decide +kernel, by decide +kernel, ⟨by decide +kernel, by decide +kernel⟩, by decide⟩
 ·rename_i h1
  rw [if_neg h1] at h
  split
  ·rename_i h1
   subst h1
   exact ⟨by decide +kernel, by decide +kernel, by decide +kernel, by decide +kernel, ⟨by decide +kernel, by decide +kernel⟩, by decide⟩
  ·rename_i h1
   rw [if_neg h1] at h
   split
   ·rename_i h1
    subst h1
    exact ⟨by decide +kernel, by decide +kernel, by decide +kernel, by decide +kernel, ⟨by decide +kernel, by decide +kernel⟩, by decide⟩
   ·rename_i h1
    rw [if_neg h1] at h
    split
    ·rename_i h1
     subst h1
     exact ⟨by decide +kernel, by decide +kernel, by decide +kernel, by decide +kernel, ⟨by decide +kernel, by decide +kernel⟩, by decide⟩
    ·rename_i h1
     rw [if_neg h1] at h
     exact absurd rfl h
theorem Zku : Zhq (tx "proto") = none ∧ tx "proto" ≠ tx "any" ∧ tx "proto" ≠ tx "class" ∧ idxT ZeP (tx "proto") = none ∧ Zdw (tx "proto") = true := by decide +kernel
theorem Zro : Zcv 0 = [] := by decide
def tokP (n : Int) : List (List Int) := if Zcv n ≠ [] then [Zcv n] else [tx "proto", decM n]
theorem ZlW {e kind n : Int} {ws : List Wd} {b : List (List Int)} (h : 0 < n ∧ n ≤ 255) (hk : kind ≠ 1) (ht : Tk ws (tokP n ++ b)) : ∃ w ws', ws = w :: ws' ∧ Zdw w.1 = true ∧ w.1 ≠ tx "any" ∧ w.1 ≠ tx "class" ∧ idxT ZeP w.1 = none ∧ ∃ r, Zd8 e kind w ws' = .ok (n, r) ∧ Tk r b := by
 unfold tokP at ht
 by_cases hp : Zcv n ≠ []
 ·rw [if_pos hp] at ht
  obtain ⟨q, r, rfl, hr⟩ := ZdQ ht
  obtain ⟨h1, h2, h3, h4, -⟩ := Zjk hp
  refine ⟨_, _, rfl, ?_, h2, h3, h4, r, ?_, hr⟩
  ·unfold Zdw
   rw [h1]
   rfl
  ·unfold Zd8
   rw [if_neg hk]
   simp only
   rw [h1]
 ·rw [if_neg hp] at ht
  obtain ⟨q, r, rfl, hr⟩ := ZdQ ht
  obtain ⟨h1, h2, h3, h4, h5⟩ := Zku
  obtain ⟨r2, h6, h7⟩ := Zhw (e := e) (lo := 1) (hi := 255) (by omega) (by omega) (by omega) h.2 hr
  refine ⟨_, _, rfl, h5, h2, h3, h4, r2, ?_, h7⟩
  unfold Zd8
  rw [if_neg hk]
  simp only
  rw [h1]
  exact h6
theorem Zln : ∀ k : _root_.Fin 3, idxT ZeP (ZeP.getD k.val []) = some k.val ∧ ZeP.getD k.val [] ≠ tx "any" ∧ ZeP.getD k.val [] ≠ tx "class" ∧ Wrd (ZeP.getD k.val []) := by
 unfold Wrd
 decide +kernel
theorem ZqX : ∀ k : _root_.Fin 3, idxT actN (actN.getD k.val []) = some k.val ∧ Wrd (actN.getD k.val []) := by
 unfold Wrd
 decide +kernel
theorem ZqT : ∀ t ∈ clN, Zdw t = false := by decide +kernel
theorem Zkm {m : ZaO} (hk : 0 ≤ m.Kind) (hp : 0 ≤ m.Proto) : Zf7 m = (if m.Kind > 0 then [ZeP.getD (m.Kind - 1).toNat []] else []) ++ (if m.Proto > 0 then tokP m.Proto else if m.Kind = 0 then [tx "any"] else []) := by
 unfold Zf7 tokP
 congr 1
 by_cases h0 : m.Proto > 0
 ·rw [if_pos h0]
  by_cases h1 : Zcv m.Proto ≠ []
  ·rw [if_pos h1, if_pos h0]
  ·rw [if_neg h1, if_pos h0]
 ·have : m.Proto = 0 := by omega
  rw [this, Zro, if_neg (show ¬ (([] : List Int) ≠ []) by decide), if_neg (show ¬ ((0 : Int) > 0) by decide), if_neg (show ¬ ((0 : Int) > 0) by decide)]
theorem ZoG {e : Int} {m : ZaO} {ws : List Wd} {b : List (List Int)} (f : Zeh m) (hc : m.Proto ≠ 0 → m.Kind ≠ 1) (hb : Zd4 b) (ht : Tk ws (Zf7 m ++ b)) : ∃ r, ZhS e ws = .ok ((m.Kind, m.Proto), r) ∧ Tk r b := by
 have hk := f.kind
 have hp := f.proto
 rw [Zkm hk.1 hp.1] at ht
 by_cases k0 : m.Kind > 0
 ·rw [if_pos k0] at ht
  obtain ⟨q, r, rfl, hr⟩ := ZdQ (show Tk ws (ZeP.getD (m.Kind - 1).toNat [] :: ((if m.Proto > 0 then tokP m.Proto else if m.Kind = 0 then [tx "any"] else []) ++ b)) from ht)
  obtain ⟨t1, t2, -⟩ := Zln ⟨(m.Kind - 1).toNat, by omega⟩
  simp only at t1 t2
  have hkk : (((m.Kind - 1).toNat : Nat) : Int) + 1 = m.Kind := by omega
  rw [ZeF, if_neg t2]
  simp only
  rw [t1]
  simp only
  by_cases p0 : m.Proto > 0
  ·rw [if_pos p0] at hr
   obtain ⟨w, ws', rfl, h1, -, -, -, r2, h3, h4⟩ := ZlW (e := e) (kind := m.Kind) ⟨p0, hp.2⟩ (hc (by omega)) hr
   refine ⟨r2, ?_, h4⟩
   unfold Zm3
   simp only
   rw [if_pos h1, hkk, h3]
  ·have p00 : m.Proto = 0 := by omega
   rw [if_neg p0, if_neg (by omega), List.nil_append] at hr
   refine ⟨r, ?_, hr⟩
   unfold Zm3
   cases r with
   | nil => simp only; rw [hkk, p00]
   | cons v r =>
    simp only
    rw [if_neg (by rw [ZqT v.1 (hb v.1 _ hr.symm)]; decide), hkk, p00]
 ·have k00 : m.Kind = 0 := by omega
  rw [if_neg k0, List.nil_append] at ht
  by_cases p0 : m.Proto > 0
  ·rw [if_pos p0] at ht
   obtain ⟨w, ws', rfl, h1, h2, -, h2', r2, h3, h4⟩ := ZlW (e := e) (kind := 0) ⟨p0, hp.2⟩ (by decide) ht
   refine ⟨r2, ?_, h4⟩
   rw [ZeF, if_neg h2, h2']
   simp only
   rw [if_pos h1, h3, k00]
  ·rw [if_neg p0, if_pos k00] at ht
   obtain ⟨q, r, rfl, hr⟩ := ZdQ (show Tk ws (tx "any" :: b) from ht)
   refine ⟨r, ?_, hr⟩
   rw [ZeF, if_pos rfl, k00, show m.Proto = 0 by omega]
theorem Zpe : tx "any" ≠ tx "class" := by decide +kernel
theorem Zpa {e : Int} {m : ZaO} {ws : List Wd} {b : List (List Int)} (f : Zeh m) (hcl : Ze8 m = false) (hb : Zd4 b) (ht : Tk ws (actN.getD (m.Act - 1).toNat [] :: (ZlY m ++ (Zf7 m ++ b)))) : ∃ r, Zjw e ws = .ok (st0 m, r) ∧ Tk r b := by
 have ha := f.act
 have hl := f.cls
 have hcl := of_decide_eq_false hcl
 obtain ⟨q, r, rfl, hr⟩ := ZdQ ht
 obtain ⟨t1, -⟩ := ZqX ⟨(m.Act - 1).toNat, by omega⟩
 simp only at t1
 have hcl1 : m.Class ≠ 0 → m.Act = 1 := fun h => Decidable.byContradiction fun h' => hcl (.inl ⟨h, h'⟩)
 have hcl2 : m.Proto ≠ 0 → m.Kind ≠ 1 := fun h h' => hcl (.inr (.inl ⟨h, h'⟩))
 have hcls : ∃ r2, ZeB e (m.Act - 1).toNat r = .ok (m.Class, r2) ∧ Tk r2 (Zf7 m ++ b) := by
  unfold ZlY at hr
  unfold ZeB
  by_cases c0 : m.Class > 0
  ·rw [if_pos c0] at hr
   have := hcl1 (by omega)
   rw [if_pos (by omega)]
   obtain ⟨r2, h1, h2⟩ := ZhV hr
   rw [h1]
   exact Zhw (by omega) (by omega) (by omega) (by omega) h2
  ·have c00 : m.Class = 0 := by omega
   rw [if_neg c0, List.nil_append] at hr
   rw [c00]
   by_cases a0 : (m.Act - 1).toNat = 0
   ·rw [if_pos a0]
    have : Zcy (tx "class") r = none := by
     refine Zec hr (fun u us h => ?_)
     rw [Zkm f.kind.1 f.proto.1] at h
     by_cases k0 : m.Kind > 0
     ·rw [if_pos k0] at h
      cases h
      have hk := f.kind
      exact (Zln ⟨(m.Kind - 1).toNat, by omega⟩).2.2.1
     ·rw [if_neg k0, List.nil_append] at h
      by_cases p0 : m.Proto > 0
      ·rw [if_pos p0] at h
       unfold tokP at h
       by_cases hp : Zcv m.Proto ≠ []
       ·rw [if_pos hp] at h
        cases h
        exact (Zjk hp).2.2.1
       ·rw [if_neg hp] at h
        cases h
        exact Zku.2.2.1
      ·have hk := f.kind
       rw [if_neg p0, if_pos (by omega)] at h
       cases h
       exact Zpe
    rw [this]
    exact ⟨r, rfl, hr⟩
   ·rw [if_neg a0]
    exact ⟨r, rfl, hr⟩
 obtain ⟨r2, h1, h2⟩ := hcls
 obtain ⟨r3, h3, h4⟩ := ZoG (e := e) f hcl2 hb h2
 refine ⟨r3, ?_, h4⟩
 rw [show Zjw e ((actN.getD (m.Act - 1).toNat [], q) :: r) = match idxT actN (actN.getD (m.Act - 1).toNat []) with
  | none => .error (160, q)
  | some a => match ZeB e a r with
   | .error f => .error f
   | .ok (c, r) => match ZhS e r with
    | .error f => .error f
    | .ok (k, r) => .ok ({ zRl with Act := (a : Int) + 1, Class := c, Kind := k.1, Proto := k.2 }, r) from rfl, t1]
 simp only
 rw [h1]
 simp only
 rw [h3]
 simp only
 rw [show (((m.Act - 1).toNat : Nat) : Int) + 1 = m.Act by omega]
 rfl
end Go.Proofs.YtpmhinidiplhiaaDoor.Lx
