
import Derived.Test.YtfgcobigollfjaaDoorRouteTab
import Derived.Sort.Statements
set_option linter.unusedVariables false
set_option linter.unusedSimpArgs false
namespace Go.Proofs.YtfgcobigollfjaaDoor.Lx
open Go Go.Proofs Go.RowKit
def lexL : List Int → List Int → Int
 | [], [] => 0
 | [], _ :: _ => -1
 | _ :: _, [] => 1
 | x :: xs, y :: ys => if x < y then -1 else if x > y then 1 else lexL xs ys
theorem lexL_cons (x y : Int) (xs ys : List Int) : lexL (x :: xs) (y :: ys) = if x < y then -1 else if x > y then 1 else lexL xs ys := rfl
theorem lexL_neg : ∀ (x y : List Int), lexL y x = - lexL x y
 | [], [] => rfl
 | [], _ :: _ => rfl
 | _ :: _, [] => rfl
 | x :: xs, y :: ys => by
  unfold lexL
  by_cases h : x < y
  ·rw [if_neg (by omega), if_pos (by omega), if_pos h]
   rfl
  ·by_cases h2 : x > y
   ·rw [if_pos (by omega), if_neg h, if_pos h2]
   ·rw [if_neg (by omega), if_neg (by omega), if_neg h, if_neg h2]
    exact lexL_neg xs ys
theorem lexL_zero : ∀ {x y : List Int}, lexL x y = 0 → x = y
 | [], [], _ => rfl
 | [], _ :: _, h => by cases h
 | _ :: _, [], h => by cases h
 | x :: xs, y :: ys, h => by
  unfold lexL at h
  split at h
  ·cases h
  ·split at h
   ·cases h
   ·rw [lexL_zero h, show x = y by omega]
theorem lexL_self : ∀ (x : List Int), lexL x x = 0
 | [] => rfl
 | x :: xs => by
  unfold lexL
  rw [if_neg (by omega), if_neg (by omega)]
  exact lexL_self xs
theorem lexL_trans : ∀ {x y z : List Int}, lexL x y < 0 → lexL y z < 0 → lexL x z < 0
 | [], [], _, h, _ => by simp [lexL] at h
 | [], _ :: _, [], _, h => by simp [lexL] at h
 | [], _ :: _, _ :: _, _, _ => by simp [lexL]
 | _ :: _, [], _, h, _ => by simp [lexL] at h
 | _ :: _, _ :: _, [], _, h => by simp [lexL] at h
 | x :: xs, y :: ys, z :: zs, h, h' => by
  unfold lexL at h h' ⊢
  by_cases a : x < y
  ·by_cases b : y < z
   ·rw [if_pos (by omega)]; omega
   ·by_cases c : y > z
    ·rw [if_neg b, if_pos c] at h'; omega
    ·rw [if_pos (by omega)]; omega
  ·by_cases a2 : x > y
   ·rw [if_neg a, if_pos a2] at h; omega
   ·rw [if_neg a, if_neg a2] at h
    by_cases b : y < z
    ·rw [if_pos (by omega)]; omega
    ·by_cases c : y > z
     ·rw [if_neg b, if_pos c] at h'; omega
     ·rw [if_neg b, if_neg c] at h'
      rw [if_neg (by omega), if_neg (by omega)]
      exact lexL_trans h h'
theorem lexL_app : ∀ {x y a b : List Int}, x.length = y.length → lexL (x ++ a) (y ++ b) = if lexL x y ≠ 0 then lexL x y else lexL a b
 | [], [], a, b, _ => by simp [lexL]
 | [], _ :: _, _, _, h => by simp at h
 | _ :: _, [], _, _, h => by simp at h
 | x :: xs, y :: ys, a, b, h => by
  rw [List.cons_append, List.cons_append, lexL_cons, lexL_cons]
  by_cases h1 : x < y
  ·simp [h1]
  ·by_cases h2 : x > y
   ·simp [h1, h2]
   ·rw [if_neg h1, if_neg h2, if_neg h1, if_neg h2]
    exact lexL_app (by simpa using h)
def keyP (p : api_Prefix) : List Int := [p.IP.V] ++ (p.IP.A.l ++ [p.Len])
theorem keyP_inj {p q : api_Prefix} (h : keyP p = keyP q) : p = q := by
 unfold keyP at h
 obtain ⟨h1, h2⟩ := List.append_inj h rfl
 obtain ⟨h3, h4⟩ := List.append_inj h2 (by rw [p.IP.A.h, q.IP.A.h])
 obtain ⟨⟨v, a⟩, n⟩ := p
 obtain ⟨⟨v', a'⟩, n'⟩ := q
 simp only [List.cons.injEq, and_true] at h1 h3 h4
 subst h1
 subst h4
 rw [Vec.eq h3]
def olt (a b : api_Route) : Bool := decide (lexL (keyP a.Prefix) (keyP b.Prefix) < 0)
theorem olt_total {a b : api_Route} (h : olt a b = false) (h' : olt b a = false) : a.Prefix = b.Prefix := by
 unfold olt at h h'
 rw [decide_eq_false_iff_not] at h h'
 rw [lexL_neg] at h'
 exact keyP_inj (lexL_zero (by omega))
theorem olt_irrefl (a : api_Route) : olt a a = false := by
 unfold olt
 rw [lexL_self]
 rfl
theorem olt_trans {x y z : api_Route} (h : olt x y = true) (h' : olt y z = true) : olt x z = true := by
 unfold olt at *
 rw [decide_eq_true_iff] at *
 exact lexL_trans h h'
theorem swo_olt : Go.Sort.SWO olt where
 irrefl := olt_irrefl
 trans := fun x y z h h' => olt_trans h h'
 ntrans := fun x y z h h' => by
  cases h2 : olt x z with
  | false => rfl
  | true =>
   exfalso
   cases h3 : olt y x with
   | true =>
    have := olt_trans h3 h2
    rw [this] at h'
    cases h'
   | false =>
    have e := olt_total h h3
    unfold olt at h2 h'
    rw [e] at h2
    rw [h2] at h'
    cases h'
def cmpI (a b : Int) : Int := if a < b then -1 else if a > b then 1 else 0
theorem lexL_one (a b : Int) : lexL [a] [b] = cmpI a b := by
 unfold lexL cmpI
 rfl
def insR (r : api_Route) : List api_Route → List api_Route
 | [] => [r]
 | q :: l => if olt q r = true then q :: insR r l else r :: q :: l
def sortR : List api_Route → List api_Route
 | [] => []
 | r :: l => insR r (sortR l)
def Srtd (l : List api_Route) : Prop := l.Pairwise fun x y => olt y x = false
theorem insR_perm (r : api_Route) : ∀ l, (insR r l).Perm (r :: l)
 | [] => List.Perm.refl _
 | q :: l => by
  unfold insR
  split
  ·exact ((insR_perm r l).cons q).trans (List.Perm.swap _ _ _)
  ·exact List.Perm.refl _
theorem sortR_perm : ∀ l, (sortR l).Perm l
 | [] => List.Perm.refl _
 | r :: l => (insR_perm r _).trans ((sortR_perm l).cons r)
theorem olt_asymm {x y : api_Route} (h : olt x y = true) : olt y x = false := by
 cases h' : olt y x with
 | false => rfl
 | true =>
  have := olt_trans h h'
  rw [olt_irrefl] at this
  cases this
theorem insR_srtd {r : api_Route} : ∀ {l}, Srtd l → Srtd (insR r l)
 | [], _ => by simp [insR, Srtd]
 | q :: l, h => by
  obtain ⟨h1, h2⟩ := List.pairwise_cons.1 h
  unfold insR
  split
  ·rename_i hq
   refine List.pairwise_cons.2 ⟨fun x hx => ?_, insR_srtd h2⟩
   rcases List.mem_cons.1 ((insR_perm r l).mem_iff.1 hx) with rfl | hx
   ·exact olt_asymm hq
   ·exact h1 x hx
  ·rename_i hq
   have hq' : olt q r = false := by simpa using hq
   refine List.pairwise_cons.2 ⟨fun x hx => ?_, h⟩
   rcases List.mem_cons.1 hx with rfl | hx
   ·exact hq'
   ·exact swo_olt.ntrans x q r (h1 x hx) hq'
theorem sortR_srtd : ∀ l, Srtd (sortR l)
 | [] => List.Pairwise.nil
 | r :: l => insR_srtd (sortR_srtd l)
theorem nd_inj {l : List api_Route} (nd : (l.map (·.Prefix)).Nodup) {x y : api_Route} (hx : x ∈ l) (hy : y ∈ l) (e : x.Prefix = y.Prefix) : x = y := by
 obtain ⟨i, hi, rfl⟩ := List.getElem_of_mem hx
 obtain ⟨j, hj, rfl⟩ := List.getElem_of_mem hy
 have e2 : (l.map (·.Prefix))[i]'(by simpa using hi) = (l.map (·.Prefix))[j]'(by simpa using hj) := by
  simp only [List.getElem_map]
  exact e
 have := (List.getElem_inj nd).1 e2
 subst this
 rfl
theorem srtd_eq {l m : List api_Route} (nd : (l.map (·.Prefix)).Nodup) (hl : Srtd l) (hm : Srtd m) (p : l.Perm m) : l = m := by
 refine List.Perm.eq_of_pairwise (le := fun x y => olt y x = false) (fun x y hx hy hxy hyx => ?_) hl hm p
 have e := olt_total hyx hxy
 have hy' := p.mem_iff.2 hy
 exact nd_inj nd hx hy' e
theorem sortR_eq {l m : List api_Route} (nd : (l.map (·.Prefix)).Nodup) (p : l.Perm m) : sortR l = sortR m := by
 refine srtd_eq (((sortR_perm l).map _).nodup_iff.2 nd) (sortR_srtd l) (sortR_srtd m) ?_
 exact (sortR_perm l).trans (p.trans (sortR_perm m).symm)
end Go.Proofs.YtfgcobigollfjaaDoor.Lx
