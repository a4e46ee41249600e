
import Derived.Test.YtfgcobigollfjaaDoorRouteTab
import Derived.Sort.Statements
set_option linter.unusedVariables false
set_option linter.unusedSimpArgs false
namespace Go.Proofs.YtfgcobigollfjaaDoor.Lx
open Go Go.Proofs Go.RowKit
def lexL : List Int → List Int → Int
 | [], [] => 0
 | [], _ :: _ => -1
 | _ :: _, [] => 1
 | x :: xs, y :: ys => if x < y then -1 else if x > y then 1 else lexL xs ys
theorem ZgY (x y : Int) (xs ys : List Int) : lexL (x :: xs) (y :: ys) = if x < y then -1 else if x > y then 1 else lexL xs ys := rfl
theorem ZjJ : ∀ (x y : List Int), lexL y x = - lexL x y
 | [], [] => rfl
 | [], _ :: _ => rfl
 | _ :: _, [] => rfl
 | x :: xs, y :: ys => by
  unfold lexL
  by_cases h : x < y
  ·rw [if_neg (by omega), if_pos (by omega), if_pos h]
   rfl
  ·by_cases h2 : x > y
   ·rw [if_pos (by omega), if_neg h, if_pos h2]
   ·rw [if_neg (by omega), if_neg (by omega), if_neg h, if_neg h2]
    exact ZjJ xs ys
theorem ZgW : ∀ {x y : List Int}, lexL x y = 0 → x = y
 | [], [], _ => rfl
 | [], _ :: _, h => by cases h
 | _ :: _, [], h => by cases h
 | x :: xs, y :: ys, h => by
  unfold lexL at h
  split at h
  ·cases h
  ·split at h
   ·cases h
   ·rw [ZgW h, show x = y by omega]
theorem ZgX : ∀ (x : List Int), lexL x x = 0
 | [] => rfl
 | x :: xs => by
  unfold lexL
  rw [if_neg (by omega), if_neg (by omega)]
  exact ZgX xs
theorem Zhr : ∀ {x y z : List Int}, lexL x y < 0 → lexL y z < 0 → lexL x z < 0
 | [], [], _, h, _ => by simp [lexL] at h
 | [], _ :: _, [], _, h => by simp [lexL] at h
 | [], _ :: _, _ :: _, _, _ => by simp [lexL]
 | _ :: _, [], _, h, _ => by simp [lexL] at h
 | _ :: _, _ :: _, [], _, h => by simp [lexL] at h
 | x :: xs, y :: ys, z :: zs, h, h' => by
  unfold lexL at h h' ⊢
  by_cases a : x < y
  ·by_cases b : y < z
   ·rw [if_pos (by omega)]; omega
   ·by_cases c : y > z
    ·rw [if_neg b, if_pos c] at h'; omega
    ·rw [if_pos (by omega)]; omega
  ·by_cases a2 : x > y
   ·rw [if_neg a, if_pos a2] at h; omega
   ·rw [if_neg a, if_neg a2] at h
    by_cases b : y < z
    ·rw [if_pos (by omega)]; omega
    ·by_cases c : y > z
     ·rw [if_neg b, if_pos c] at h'; omega
     ·rw [if_neg b, if_neg c] at h'
      rw [if_neg (by omega), if_neg (by omega)]
      exact Zhr h h'
theorem Ze0 : ∀ {x y a b : List Int}, x.length = y.length → lexL (x ++ a) (y ++ b) = if lexL x y ≠ 0 then lexL x y else lexL a b
 | [], [], a, b, _ => by simp [lexL]
 | [], _ :: _, _, _, h => by simp at h
 | _ :: _, [], _, _, h => by simp at h
 | x :: xs, y :: ys, a, b, h => by
  rw [List.cons_append, List.cons_append, ZgY, ZgY]
  by_cases h1 : x < y
  ·simp [h1]
  ·by_cases h2 : x > y
   ·simp [h1, h2]
   ·rw [if_neg h1, if_neg h2, if_neg h1, if_neg h2]
    exact Ze0 (by simpa using h)
def keyP (p : Zar) : List Int := [p.IP.V] ++ (p.IP.A.l ++ [p.Len])
theorem Zl4 {p q : Zar} (h : keyP p = keyP q) : p = q := by
 unfold keyP at h
 obtain ⟨h1, h2⟩ := List.append_inj h rfl
 obtain ⟨h3, h4⟩ := List.append_inj h2 (by rw [p.IP.A.h, q.IP.A.h])
 obtain ⟨⟨v, a⟩, n⟩ := p
 obtain ⟨⟨v', a'⟩, n'⟩ := q
 simp only [List.cons.injEq, and_true] at h1 h3 h4
 subst h1
 subst h4
 rw [Vec.eq h3]
def olt (a b : Zab) : Bool := decide (lexL (keyP a.Prefix) (keyP b.Prefix) < 0)
theorem Zik {a b : Zab} (h : olt a b = false) (h' : olt b a = false) : a.Prefix = b.Prefix := by
 unfold olt at h h'
 rw [decide_eq_false_iff_not] at h h'
 rw [ZjJ] at h'
 exact Zl4 (ZgW (by omega))
theorem Zhl (a : Zab) : olt a a = false := by
 unfold olt
 rw [ZgX]
 rfl
theorem ZgP {x y z : Zab} (h : olt x y = true) (h' : olt y z = true) : olt x z = true := by
 unfold olt at *
 rw [decide_eq_true_iff] at *
 exact Zhr h h'
theorem ZkA : Go.Sort.SWO olt where
 irrefl := Zhl
 trans := fun x y z h h' => ZgP h h'
 ntrans := fun x y z h h' => by
  cases h2 : olt x z with
  | false => rfl
  | true =>
   exfalso
   cases h3 : olt y x with
   | true =>
    have := ZgP h3 h2
    rw [this] at h'
    cases h'
   | false =>
    have e := Zik h h3
    unfold olt at h2 h'
    rw [e] at h2
    rw [h2] at h'
    cases h'
def cmpI (a b : Int) : Int := if a < b then -1 else if a > b then 1 else 0
theorem ZfI (a b : Int) : lexL [a] [b] = cmpI a b := by
 unfold lexL cmpI
 rfl
def insR (r : Zab) : List Zab → List Zab
 | [] => [r]
 | q :: l => if olt q r = true then q :: insR r l else r :: q :: l
def Zbd : List Zab → List Zab
 | [] => []
 | r :: l => insR r (Zbd l)
def Srtd (l : List Zab) : Prop := l.Pairwise fun x y => olt y x = false
theorem ZgZ (r : Zab) : ∀ l, (insR r l).Perm (r :: l)
 | [] => List.Perm.refl _
 | q :: l => by
  unfold insR
  split
  ·exact ((ZgZ r l).cons q).trans (List.Perm.swap _ _ _)
  ·exact List.Perm.refl _
theorem ZbK : ∀ l, (Zbd l).Perm l
 | [] => List.Perm.refl _
 | r :: l => (ZgZ r _).trans ((ZbK l).cons r)
theorem ZkW {x y : Zab} (h : olt x y = true) : olt y x = false := by
 cases h' : olt y x with
 | false => rfl
 | true =>
  have := ZgP h h'
  rw [Zhl] at this
  cases this
theorem ZiB {r : Zab} : ∀ {l}, Srtd l → Srtd (insR r l)
 | [], _ => by simp [insR, Srtd]
 | q :: l, h => by
  obtain ⟨h1, h2⟩ := List.pairwise_cons.1 h
  unfold insR
  split
  ·rename_i hq
   refine List.pairwise_cons.2 ⟨fun x hx => ?_, ZiB h2⟩
   rcases List.mem_cons.1 ((ZgZ r l).mem_iff.1 hx) with rfl | hx
   ·exact ZkW hq
   ·exact h1 x hx
  ·rename_i hq
   have hq' : olt q r = false := by simpa using hq
   refine List.pairwise_cons.2 ⟨fun x hx => ?_, h⟩
   rcases List.mem_cons.1 hx with rfl | hx
   ·exact hq'
   ·exact ZkA.ntrans x q r (h1 x hx) hq'
theorem ZdI : ∀ l, Srtd (Zbd l)
 | [] => List.Pairwise.nil
 | r :: l => ZiB (ZdI l)
theorem Znw {l : List Zab} (nd : (l.map (·.Prefix)).Nodup) {x y : Zab} (hx : x ∈ l) (hy : y ∈ l) (e : x.Prefix = y.Prefix) : x = y := by
 obtain ⟨i, hi, rfl⟩ := List.getElem_of_mem hx
 obtain ⟨j, hj, rfl⟩ := List.getElem_of_mem hy
 have e2 : (l.map (·.Prefix))[i]'(by simpa using hi) = (l.map (·.Prefix))[j]'(by simpa using hj) := by
  simp only [List.getElem_map]
  exact e
 have := (List.getElem_inj nd).1 e2
 subst this
 rfl
theorem ZiY {l m : List Zab} (nd : (l.map (·.Prefix)).Nodup) (hl : Srtd l) (hm : Srtd m) (p : l.Perm m) : l = m := by
 refine List.Perm.eq_of_pairwise (le := fun x y => olt y x = false) (fun x y hx hy hxy hyx => ?_) hl hm p
 have e := Zik hyx hxy
 have hy' := p.mem_iff.2 hy
 exact Znw nd hx hy' e
theorem ZlP {l m : List Zab} (nd : (l.map (·.Prefix)).Nodup) (p : l.Perm m) : Zbd l = Zbd m := by
 refine ZiY (((ZbK l).map _).nodup_iff.2 nd) (ZdI l) (ZdI m) ?_
 exact (ZbK l).trans (p.trans (ZbK m).symm)
end Go.Proofs.YtfgcobigollfjaaDoor.Lx
