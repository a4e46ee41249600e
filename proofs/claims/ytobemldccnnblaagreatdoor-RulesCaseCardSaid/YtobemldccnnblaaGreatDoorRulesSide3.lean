/- Plain words, put together. -/
import Derived.Test.YtobemldccnnblaaGreatDoorLxMs
import Derived.Test.YtobemldccnnblaaGreatDoorLxSh
import Derived.Test.YtobemldccnnblaaGreatDoorLxP
set_option linter.unusedVariables false
set_option linter.unusedSimpArgs false
namespace Go.Proofs.YtobemldccnnblaaGreatDoor.Lx
open Go Go.Proofs Go.RowKit
def Byt (l : List Int) : Prop := ∀ x ∈ l, 0 ≤ x ∧ x ≤ 255
theorem Byt.strI (s : ByteArray) : Byt (strI s) := fun x hx => by
 obtain ⟨y, _, rfl⟩ := List.mem_map.1 hx
 have := y.toNat_lt
 constructor <;> omega
theorem Byt.app {a b : List Int} (ha : Byt a) (hb : Byt b) : Byt (a ++ b) := fun x hx => (List.mem_append.1 hx).elim (ha x) (hb x)
theorem Zmo {l : List Int} (h : Byt l) : strI (bstr l) = l := by
 unfold strI bstr
 rw [List.map_map]
 conv => rhs; rw [← List.map_id l]
 apply List.map_congr_left
 intro x hx
 have := h x hx
 show ((UInt8.ofNat x.toNat).toNat : Int) = x
 rw [UInt8.toNat_ofNat']
 omega
theorem Zm0 (s : ByteArray) : bstr (strI s) = s := by
 obtain ⟨⟨l⟩⟩ := s
 unfold strI bstr
 rw [List.map_map]
 have : ((fun n : Int => UInt8.ofNat n.toNat) ∘ fun x : UInt8 => (x.toNat : Int)) = id := by
  funext x
  show UInt8.ofNat ((x.toNat : Int).toNat) = x
  rw [Int.toNat_natCast, UInt8.ofNat_toNat]
 rw [this, List.map_id]
theorem ZlZ {n : Int} (h : 0 ≤ n) (h' : n ≤ 18446744073709551615) : IntKind.wrap .u64 n = n := by
 simp [IntKind.wrap, IntKind.bits, IntKind.signed]
 omega
def Zsv : Vec Int 20 := ⟨[1, 10, 100, 1000, 10000, 100000, 1000000, 10000000, 100000000, 1000000000, 10000000000, 100000000000, 1000000000000, 10000000000000, 100000000000000, 1000000000000000, 10000000000000000, 100000000000000000, 1000000000000000000, 10000000000000000000], rfl⟩
def dbV : Vec Int 64 := ⟨[0, 1, 56, 2, 57, 49, 28, 3, 61, 58, 42, 50, 38, 29, 17, 4, 62, 47, 59, 36, 45, 43, 51, 22, 53, 39, 33, 30, 24, 18, 12, 5, 63, 55, 48, 27, 60, 41, 37, 16, 46, 35, 44, 21, 52, 32, 23, 11, 54, 26, 40, 15, 34, 20, 31, 10, 25, 14, 19, 9, 13, 8, 7, 6], rfl⟩
def TabN : HP := fun h => pts false ⟨3, 0, none⟩ (((cI .u64).arr 20).enc Zsv) h ∧ pts false ⟨6, 0, none⟩ (((cI .u8).arr 64).enc dbV) h
def dec3 (n : Nat) : List Int := if n < 10 then [48 + (n : Int)] else if n < 100 then [48 + (n / 10 : Nat), 48 + (n % 10 : Nat)] else [48 + (n / 100 : Nat), 48 + (n / 10 % 10 : Nat), 48 + (n % 10 : Nat)]
def ndig (n : Nat) : Nat := if n < 10 then 1 else if n < 100 then 2 else 3
theorem Zov (n : Nat) : (dec3 n).length = ndig n := by
 unfold dec3 ndig
 split
 ·rfl
 ·split <;> rfl
theorem ZuE {n : Nat} (h : n < 1000) : Byt (dec3 n) := by
 unfold dec3
 intro x hx
 split at hx
 ·simp only [List.mem_cons, List.not_mem_nil, or_false] at hx
  omega
 ·split at hx <;> simp only [List.mem_cons, List.not_mem_nil, or_false] at hx <;> omega
theorem ZpP : (ZtS).size = 200 := by decide +kernel
theorem Ztj : (ZtT).size = 36 := by decide +kernel
section
variable {W w : World} {Hs : List HP}
theorem ZkT {n : Int} (h : 0 ≤ n) (h' : n ≤ 255) : IntKind.wrap .u8 n = n := by
 simp [IntKind.wrap, IntKind.bits, IntKind.signed]
 omega
theorem Zux (n k : Nat) : Int.fdiv (n : Int) (k : Int) = ((n / k : Nat) : Int) := by
 rw [Int.fdiv_eq_ediv_of_nonneg _ (by omega)]
 rfl
theorem ZtZ (s : ByteArray) (i : Int) : 0 ≤ sb s i ∧ sb s i ≤ 255 := by
 unfold sb
 have := (s.data.toList.getD i.toNat 0).toNat_lt
 constructor <;> omega
end
def ZfZ (c : Int) : Bool := decide (48 ≤ c ∧ c ≤ 57)
def hexV (c : Int) : Int := if 48 ≤ c ∧ c ≤ 57 then c - 48 else if 97 ≤ c ∧ c ≤ 102 then c - 87 else if 65 ≤ c ∧ c ≤ 70 then c - 55 else -1
def Zkt (c : Int) : Bool := decide (hexV c ≥ 0)
def runE (p : Int → Bool) (l : List Int) (i : Nat) : Nat := i + ((l.drop i).takeWhile p).length
abbrev Flt := Int × Nat
def Zp5 (l : List Int) (i : Nat) : Flt := if i = l.length then (42, i) else (41, i)
def valD (l : List Int) : Nat := l.foldl (fun n c => 10 * n + (c - 48).toNat) 0
def numM (l : List Int) (i : Nat) (most wrong : Int) : Except Flt (Nat × Nat) :=
 if runE ZfZ l i = i then .error (Zp5 l i)
 else if runE ZfZ l i - i > 3 ∨ (runE ZfZ l i - i > 1 ∧ l.getD i 0 = 48) then .error (wrong, i)
 else if (valD ((l.drop i).take (runE ZfZ l i - i)) : Int) > most then .error (wrong, i)
 else .ok (valD ((l.drop i).take (runE ZfZ l i - i)), runE ZfZ l i)
def sepM (l : List Int) (i : Nat) (first : Bool) : Except Flt Nat := if first = true then .ok i else if i = l.length ∨ l.getD i 0 ≠ 46 then .error (Zp5 l i) else .ok (i + 1)
def Zjt (l : List Int) : Nat → Nat → List Nat → Except Flt (List Nat × Nat)
 | 0, i, acc => .ok (acc, i)
 | k + 1, i, acc => match sepM l i acc.isEmpty with
  | .error f => .error f
  | .ok j => match numM l j 255 43 with
   | .error f => .error f
   | .ok (n, e) => Zjt l k e (acc ++ [n])
def Zix (l : List Int) (i : Nat) : Except Flt (List Nat) := match Zjt l 4 i [] with
 | .error f => .error f
 | .ok (a, e) => if e < l.length then .error (41, e) else .ok a
theorem ZfU {s : ByteArray} {i : Nat} : sb s (i : Int) = (strI s).getD i 0 := by
 unfold sb strI
 rw [Int.toNat_natCast, List.getD, List.getD, List.getElem?_map]
 cases s.data.toList[i]? <;> rfl
theorem Zmr {p : Int → Bool} {l : List Int} {i : Nat} (h : i ≤ l.length) : i ≤ runE p l i ∧ runE p l i ≤ l.length := by
 unfold runE
 have := (List.takeWhile_sublist p (l := l.drop i)).length_le
 rw [List.length_drop] at this
 omega
theorem Zof {p : Int → Bool} {l : List Int} {i k : Nat} (h1 : i ≤ k) (h2 : k ≤ runE p l i) : (k < l.length ∧ p (l.getD k 0) = true) ↔ k < runE p l i := by
 have hd : ∀ (l : List Int) (n : Nat), n ≤ (l.takeWhile p).length → ((n < l.length ∧ p (l.getD n 0) = true) ↔ n < (l.takeWhile p).length) := by
  intro l
  induction l with
  | nil => intro n hn; simp
  | cons x l ih =>
   intro n hn
   by_cases hx : p x = true
   ·simp only [List.takeWhile_cons, hx, if_true, List.length_cons] at hn ⊢
    cases n with
    | zero => simp [hx]
    | succ n =>
     have := ih n (by omega)
     simp only [List.getD_cons_succ]
     constructor
     ·rintro ⟨a, b⟩
      have := this.1 ⟨by omega, b⟩
      omega
     ·intro h
      have := this.2 (by omega)
      exact ⟨by omega, this.2⟩
   ·simp only [List.takeWhile_cons, hx, Bool.false_eq_true, if_false, List.length_nil] at hn ⊢
    have : n = 0 := by omega
    subst this
    simp [hx]
 unfold runE at h2 ⊢
 have := hd (l.drop i) (k - i) (by omega)
 have e : (l.drop i).getD (k - i) 0 = l.getD k 0 := by
  rw [List.getD, List.getD, List.getElem?_drop, show i + (k - i) = k by omega]
 rw [e, List.length_drop] at this
 constructor
 ·intro h
  have := this.1 ⟨by omega, h.2⟩
  omega
 ·intro h
  have := this.2 (by omega)
  exact ⟨by omega, this.2⟩
theorem Zl1 {p : Int → Bool} {l : List Int} {i k : Nat} (h1 : i ≤ k) (h2 : k < runE p l i) : p (l.getD k 0) = true := ((Zof h1 (by omega)).2 h2).2
section
variable {W w : World} {Hs : List HP}
abbrev flt (f : Flt) : List Value := ZbG.enc ⟨f.1, (f.2 : Int)⟩
theorem Zq1 (c : Int) : WP (ZfN c) w (fun r w' => r = ZfZ c ∧ w = w') := by
 unfold ZfN
 refine WP.step (R := fun r w' => r = ZfZ c ∧ w = w') (WP.ite (fun h => WP.ret ⟨?_, rfl⟩) (fun h => WP.ret ⟨?_, rfl⟩)) (fun r w h => WP.ret h)
 ·unfold ZfZ
  exact decide_eq_decide.2 ⟨fun h' => ⟨h, h'⟩, fun h' => h'.2⟩
 ·unfold ZfZ
  exact (decide_eq_false fun h' => h h'.1).symm
theorem Zs2 (c : Int) : WP (Zgu c) w (fun r w' => r = hexV c ∧ w = w') := by
 unfold Zgu
 refine WP.step (Zq1 c) ?_
 rintro _ _ ⟨rfl, rfl⟩
 unfold ZfZ hexV
 refine WP.ite (fun h => WP.ret ⟨?_, rfl⟩) (fun h => ?_)
 ·have h := of_decide_eq_true h
  rw [if_pos h, ZkT (by omega) (by omega), Zau (by omega) (by omega)]
 have h1 : ¬ (48 ≤ c ∧ c ≤ 57) := fun h' => h (decide_eq_true h')
 rw [if_neg h1]
 refine WP.step (R := fun y w' => y = decide (97 ≤ c ∧ c ≤ 102) ∧ w = w') (WP.ite (fun h => WP.ret ⟨decide_eq_decide.2 ⟨fun h' => ⟨h, h'⟩, fun h' => h'.2⟩, rfl⟩) (fun h => WP.ret ⟨(decide_eq_false fun h' => h h'.1).symm, rfl⟩)) ?_
 rintro _ _ ⟨rfl, rfl⟩
 refine WP.ite (fun h => WP.ret ⟨?_, rfl⟩) (fun h => ?_)
 ·have h := of_decide_eq_true h
  rw [if_pos h, ZkT (by omega) (by omega), Zau (n := c - 97) (by omega) (by omega), Zau (by omega) (by omega)]
  omega
 have h2 : ¬ (97 ≤ c ∧ c ≤ 102) := fun h' => h (decide_eq_true h')
 rw [if_neg h2]
 refine WP.step (R := fun y w' => y = decide (65 ≤ c ∧ c ≤ 70) ∧ w = w') (WP.ite (fun h => WP.ret ⟨decide_eq_decide.2 ⟨fun h' => ⟨h, h'⟩, fun h' => h'.2⟩, rfl⟩) (fun h => WP.ret ⟨(decide_eq_false fun h' => h h'.1).symm, rfl⟩)) ?_
 rintro _ _ ⟨rfl, rfl⟩
 refine WP.ite (fun h => WP.ret ⟨?_, rfl⟩) (fun h => WP.ret ⟨?_, rfl⟩)
 ·have h := of_decide_eq_true h
  rw [if_pos h, ZkT (by omega) (by omega), Zau (n := c - 65) (by omega) (by omega), Zau (by omega) (by omega)]
  omega
 ·rw [if_neg fun h' => h (decide_eq_true h')]
theorem Zk6 (s : Ss W Hs w) (t : ByteArray) (i : Nat) : WP (Zec t (i : Int)) w (fun r w' => ∃ b, r = some (pt b 0) ∧ Ss W (pts true (pt b 0) (flt (Zp5 (strI t) i)) :: Hs) w') := by
 unfold Zec Zp5
 rw [Zb4]
 refine WP.ite (fun h => WP.newv s (fun b w s => WP.ret ⟨b, rfl, ?_⟩)) (fun h => WP.newv s (fun b w s => WP.ret ⟨b, rfl, ?_⟩))
 ·rw [if_pos (by omega)]
  exact s
 ·rw [if_neg (by omega)]
  exact s
theorem Zmj (l : List Int) (c : Int) : valD (l ++ [c]) = 10 * valD l + (c - 48).toNat := by
 unfold valD
 rw [List.foldl_append]
 rfl
theorem Zr0 : ∀ (k : Nat) (l : List Int), l.length ≤ k → (∀ c ∈ l, ZfZ c = true) → valD l < 10 ^ k := by
 intro k
 induction k with
 | zero =>
  intro l hl _
  have : l = [] := List.eq_nil_of_length_eq_zero (by omega)
  subst this
  decide
 | succ k ih =>
  intro l hl hd
  rcases List.eq_nil_or_concat l with rfl | ⟨l', c, rfl⟩
  ·exact Nat.pow_pos (by omega)
  ·rw [List.concat_eq_append] at hl hd ⊢
   rw [Zmj, Nat.pow_succ]
   have h1 := ih l' (by simp at hl; omega) (fun c hc => hd c (by simp [hc]))
   have h2 := hd c (by simp)
   unfold ZfZ at h2
   have h2 := of_decide_eq_true h2
   omega
def NumA (W : World) (Hs : List HP) (x : Except Flt (Nat × Nat)) (r : Int × Int × Option Addr) (w : World) : Prop :=
 match x with
 | .ok (n, e) => r = ((n : Int), (e : Int), none) ∧ Ss W Hs w
 | .error f => ∃ b, r = (0, 0, some (pt b 0)) ∧ Ss W (pts true (pt b 0) (flt f) :: Hs) w
theorem Zo1 (s : Ss W Hs w) (t : ByteArray) (ht : t.size ≤ 1000) (i : Nat) (hi : i ≤ t.size) (most wrong : Int) : WP (ZaN t (i : Int) most wrong) w (NumA W Hs (numM (strI t) i most wrong)) := by
 unfold ZaN
 have hl := Zb4 t
 obtain ⟨r1, r2⟩ := Zmr (p := ZfZ) (l := strI t) (i := i) (by omega)
 refine WP.loopG (γ := Nat) (fun k (p : Int) w => p = (k : Int) ∧ i ≤ k ∧ k ≤ runE ZfZ (strI t) i ∧ Ss W Hs w) (fun k _ => t.size - k) i ⟨rfl, Nat.le_refl _, r1, s⟩ ?_
 clear s
 rintro k _ w ⟨rfl, k1, k2, s⟩
 show WP (ZaN.L2 t (i : Int) most wrong (k : Int)) w _
 unfold ZaN.L2
 have hgo := Zof k1 k2
 rw [hl] at hgo
 refine WP.step (R := fun y w' => y = decide (k < runE ZfZ (strI t) i) ∧ w = w') (WP.ite (fun h => WP.chk ⟨by omega, by omega⟩ (WP.step (Zq1 _) ?_)) (fun h => WP.ret ⟨?_, rfl⟩)) ?_
 ·rintro _ _ ⟨rfl, rfl⟩
  refine WP.ret ⟨?_, rfl⟩
  rw [ZfU, Bool.eq_iff_iff, decide_eq_true_iff, ← hgo]
  exact ⟨fun h' => ⟨by omega, h'⟩, fun h' => h'.2⟩
 ·refine (decide_eq_false fun h' => ?_).symm
  have := hgo.2 h'
  omega
 rintro _ _ ⟨rfl, rfl⟩
 refine WP.ite (fun h => WP.next ⟨k + 1, ⟨?_, by omega, by have := of_decide_eq_true h; omega, s⟩, by have := of_decide_eq_true h; omega⟩) (fun h => ?_)
 ·rw [Zau (by omega) (by omega)]
  simp
 have hk : k = runE ZfZ (strI t) i := by
  have : ¬ k < runE ZfZ (strI t) i := fun h' => h (decide_eq_true h')
  omega
 refine WP.step ?_ (fun r w h => WP.done h)
 unfold ZaN.K1 numM
 rw [← hk]
 refine WP.ite (fun h => ?_) (fun h => ?_)
 ·rw [if_pos (by omega)]
  refine WP.step (Zk6 s t i) ?_
  rintro _ w ⟨b, rfl, s⟩
  exact WP.ret ⟨b, rfl, s⟩
 have hne : ¬ k = i := by omega
 rw [if_neg hne]
 have ew : IntKind.wrap .i64 ((k : Int) - (i : Int)) = ((k - i : Nat) : Int) := by
  rw [Zau (by omega) (by omega)]
  omega
 rw [ew]
 refine WP.step (R := fun y w' => y = decide (k - i > 3 ∨ (k - i > 1 ∧ (strI t).getD i 0 = 48)) ∧ w = w') (WP.ite (fun h => WP.ret ⟨?_, rfl⟩) (fun h => ?_)) ?_
 ·exact (decide_eq_true (.inl (by omega))).symm
 ·refine WP.step (R := fun y w' => y = decide (k - i > 3 ∨ (k - i > 1 ∧ (strI t).getD i 0 = 48)) ∧ w = w') (WP.ite (fun h1 => WP.chk ⟨by omega, by omega⟩ (WP.ret ⟨?_, rfl⟩)) (fun h1 => WP.ret ⟨?_, rfl⟩)) (fun r w h => WP.ret h)
  ·rw [ZfU, Bool.eq_iff_iff, decide_eq_true_iff, beq_iff_eq]
   exact ⟨fun h' => .inr ⟨by omega, h'⟩, fun h' => h'.resolve_left (by omega) |>.2⟩
  ·exact (decide_eq_false fun h' => by omega).symm
 rintro _ _ ⟨rfl, rfl⟩
 refine WP.ite (fun h => ?_) (fun h => ?_)
 ·rw [if_pos (of_decide_eq_true h)]
  exact WP.newv s (fun b w s => WP.ret ⟨b, rfl, s⟩)
 have h3 : ¬ (k - i > 3 ∨ (k - i > 1 ∧ (strI t).getD i 0 = 48)) := fun h' => h (decide_eq_true h')
 rw [if_neg h3]
 have hdig : ∀ n, ∀ c ∈ ((strI t).drop i).take n, n ≤ k - i → ZfZ c = true := by
  intro n c hc hn
  obtain ⟨j, hj, rfl⟩ := List.mem_iff_getElem.1 hc
  rw [List.length_take, List.length_drop] at hj
  rw [List.getElem_take, List.getElem_drop]
  have := Zl1 (p := ZfZ) (l := strI t) (i := i) (k := i + j) (by omega) (by omega)
  rw [List.getD, List.getElem?_eq_getElem (by omega)] at this
  exact this
 refine WP.loopG (γ := Nat) (fun j (p : Int × Int) w => p = ((valD (((strI t).drop i).take (j - i)) : Int), (j : Int)) ∧ i ≤ j ∧ j ≤ k ∧ Ss W Hs w) (fun j _ => k - j) i ⟨by simp [valD], Nat.le_refl _, k1, s⟩ ?_
 clear s
 rintro j _ w ⟨rfl, j1, j2, s⟩
 show WP (ZaN.L1 t (i : Int) most wrong (k : Int) (valD (((strI t).drop i).take (j - i)) : Int) (j : Int)) w _
 unfold ZaN.L1
 have hlt := Zr0 3 (((strI t).drop i).take (j - i)) (by rw [List.length_take]; omega) (fun c hc => hdig (j - i) c hc (by omega))
 refine WP.ite (fun h => WP.chk ⟨by omega, by omega⟩ (WP.next ⟨j + 1, ⟨?_, by omega, by omega, s⟩, by omega⟩)) (fun h => ?_)
 ·have hd := Zl1 (p := ZfZ) (l := strI t) (i := i) (k := j) j1 (by omega)
  have htk : ((strI t).drop i).take (j + 1 - i) = ((strI t).drop i).take (j - i) ++ [(strI t).getD j 0] := by
   rw [show j + 1 - i = (j - i) + 1 by omega, List.take_add_one, List.getElem?_drop, show i + (j - i) = j by omega, List.getD, List.getElem?_eq_getElem (by omega)]
   rfl
  rw [ZfU, htk, Zmj]
  unfold ZfZ at hd
  have hd := of_decide_eq_true hd
  generalize (strI t).getD j 0 = c at hd
  rw [ZkT (by omega) (by omega), Zau (n := c - 48) (by omega) (by omega), Zau (n := 10 * _) (by omega) (by omega), Zau (n := 10 * _ + _) (by omega) (by omega), Zau (n := (j : Int) + 1) (by omega) (by omega)]
  refine Prod.ext ?_ ?_
  ·simp only
   omega
  ·simp
 ·have hj : j = k := by omega
  subst hj
  refine WP.ite (fun h => ?_) (fun h => ?_)
  ·rw [if_pos h]
   exact WP.newv s (fun b w s => WP.done ⟨b, rfl, s⟩)
  ·rw [if_neg h]
   exact WP.done ⟨rfl, s⟩
theorem Zoj {l : List Int} {i n e : Nat} {most wrong : Int} (h : numM l i most wrong = .ok (n, e)) (hi : i ≤ l.length) : (n : Int) ≤ most ∧ i < e ∧ e ≤ l.length := by
 obtain ⟨r1, r2⟩ := Zmr (p := ZfZ) hi
 unfold numM at h
 split at h
 ·cases h
 ·split at h
  ·cases h
  ·split at h
   ·cases h
   ·cases h
    exact ⟨by omega, by omega, r2⟩
def ZtC (W : World) (Hs : List HP) (x : Except Flt (List Nat)) (r : Vec Int 4 × Option Addr) (w : World) : Prop :=
 match x with
 | .ok a => r.1.l = a.map (fun n : Nat => (n : Int)) ∧ r.2 = none ∧ Ss W Hs w
 | .error f => ∃ b, r.2 = some (pt b 0) ∧ Ss W (pts true (pt b 0) (flt f) :: Hs) w
theorem Zs8 (s : Ss W Hs w) (t : ByteArray) (ht : t.size ≤ 1000) (i : Nat) (hi : i ≤ t.size) : WP (Za6 t (i : Int)) w (ZtC W Hs (Zix (strI t) i)) := by
 unfold Za6
 have hl := Zb4 t
 refine WP.slot' s (fun _ w s => WP.slot' s (fun _ w s => ?_))
 refine WP.loopG (γ := Nat × Nat × List Nat) (fun g (p : Int × Int × Vec Int 4 × Vec Int 4) w => p.1 = (g.2.1 : Int) ∧ p.2.1 = (g.2.2.length : Int) ∧ g.1 + g.2.2.length = 4 ∧ g.2.1 ≤ t.size ∧ p.2.2.1.l = g.2.2.map (fun n : Nat => (n : Int)) ++ List.replicate g.1 0 ∧ (∀ n ∈ g.2.2, n ≤ 255) ∧ Zjt (strI t) g.1 g.2.1 g.2.2 = Zjt (strI t) 4 i [] ∧ Ss W Hs w) (fun g _ => g.1) (4, i, []) ⟨rfl, rfl, rfl, hi, rfl, by simp, rfl, s⟩ ?_
 clear s
 rintro ⟨k, j, acc⟩ ⟨_, _, v, v2⟩ w ⟨rfl, rfl, hk, hj, hv, hn, hF, s⟩
 simp only at hk hj hv hn hF s
 show WP (Za6.L1 t (j : Int) (acc.length : Int) v v2) w _
 unfold Za6.L1
 cases k with
 | zero =>
  refine WP.ite (fun h => absurd h (by omega)) (fun _ => ?_)
  refine WP.step ?_ (fun r w h => WP.done h)
  unfold Za6.K1
  have e1 : Zix (strI t) i = if j < (strI t).length then .error (41, j) else .ok acc := by
   unfold Zix
   rw [← hF]
   rfl
  rw [e1, hl]
  refine WP.ite (fun h => ?_) (fun h => ?_)
  ·rw [if_pos (by omega)]
   exact WP.newv s (fun b w s => WP.ret ⟨b, rfl, s⟩)
  ·rw [if_neg (by omega)]
   exact WP.ret ⟨by simpa using hv, rfl, s⟩
 | succ k =>
  have hfin : ∀ {f : Flt} {b : Nat} {w : World} {v : Vec Int 4}, Zjt (strI t) (k + 1) j acc = .error f → Ss W (pts true (pt b 0) (flt f) :: Hs) w → ZtC W Hs (Zix (strI t) i) (v, some (pt b 0)) w := by
   intro f b w v hf s
   rw [hF] at hf
   unfold Zix ZtC
   rw [hf]
   exact ⟨b, rfl, s⟩
  have K2 : ∀ {w : World} (j' : Nat), j' ≤ t.size → sepM (strI t) j acc.isEmpty = .ok j' → Ss W Hs w → WP (Za6.K2 t (acc.length : Int) v v2 (j' : Int)) w (WP.Rd (fun p w => ∃ g : Nat × Nat × List Nat, (p.1 = (g.2.1 : Int) ∧ p.2.1 = (g.2.2.length : Int) ∧ g.1 + g.2.2.length = 4 ∧ g.2.1 ≤ t.size ∧ p.2.2.1.l = g.2.2.map (fun n : Nat => (n : Int)) ++ List.replicate g.1 0 ∧ (∀ n ∈ g.2.2, n ≤ 255) ∧ Zjt (strI t) g.1 g.2.1 g.2.2 = Zjt (strI t) 4 i [] ∧ Ss W Hs w) ∧ g.1 < k + 1) (ZtC W Hs (Zix (strI t) i))) := by
   intro w j' hj' hsep s
   unfold Za6.K2
   refine WP.step (Zo1 s t ht j' hj' 255 43) ?_
   intro r w hr
   cases hnum : numM (strI t) j' 255 43 with
   | error f =>
    rw [hnum] at hr
    obtain ⟨b, rfl, s⟩ := hr
    refine WP.ite (fun _ => WP.done ?_) (fun h => absurd (by simp) h)
    refine hfin ?_ s
    unfold Zjt
    rw [hsep]
    simp only [hnum]
   | ok x =>
    obtain ⟨n, e⟩ := x
    rw [hnum] at hr
    obtain ⟨rfl, s⟩ := hr
    obtain ⟨o1, o2, o3⟩ := Zoj hnum (by omega)
    refine WP.ite (fun h => absurd rfl h) (fun _ => WP.chk ⟨by omega, by omega⟩ (WP.next ⟨(k, e, acc ++ [n]), ⟨rfl, ?_, ?_, by simp only; omega, ?_, ?_, ?_, s⟩, by simp only; omega⟩))
    ·simp only
     rw [Zau (by omega) (by omega)]
     simp
    ·simp only [List.length_append, List.length_cons, List.length_nil]
     omega
    ·simp only
     rw [ZkT (by omega) (by omega)]
     show v.l.set (Int.toNat (acc.length : Int)) (n : Int) = _
     rw [Int.toNat_natCast, hv, List.set_append_right _ _ (by rw [List.length_map]; exact Nat.le_refl _), List.length_map, Nat.sub_self, List.replicate_succ, List.set_cons_zero]
     simp
    ·intro x hx
     rcases List.mem_append.1 hx with hx | hx
     ·exact hn x hx
     ·rw [List.mem_singleton] at hx
      omega
    ·simp only
     rw [← hF]
     conv => rhs; unfold Zjt
     rw [hsep]
     simp only [hnum]
  refine WP.ite (fun _ => ?_) (fun h => absurd (by omega) h)
  refine WP.ite (fun h0 => ?_) (fun h0 => ?_)
  ·have he : acc.isEmpty = false := by
    cases acc with
    | nil => simp at h0
    | cons x r => rfl
   refine WP.step (R := fun y w' => y = decide (j = (strI t).length ∨ (strI t).getD j 0 ≠ 46) ∧ w = w') (WP.ite (fun h => WP.ret ⟨(decide_eq_true (.inl (by omega))).symm, rfl⟩) (fun h => WP.chk ⟨by omega, by omega⟩ (WP.ret ⟨?_, rfl⟩))) ?_
   ·rw [ZfU, Bool.eq_iff_iff, decide_eq_true_iff, bne_iff_ne]
    exact ⟨fun h' => .inr h', fun h' => h'.resolve_left (by omega)⟩
   rintro _ _ ⟨rfl, rfl⟩
   refine WP.ite (fun h => WP.draw' s (fun w s => WP.step (Zk6 s t j) ?_)) (fun h => ?_)
   ·rintro _ w ⟨b, rfl, s⟩
    refine WP.done (hfin ?_ s)
    unfold Zjt sepM
    rw [he, if_neg (by simp), if_pos (of_decide_eq_true h)]
   ·have hc : ¬ (j = (strI t).length ∨ (strI t).getD j 0 ≠ 46) := fun h' => h (decide_eq_true h')
    have ew : IntKind.wrap .i64 ((j : Int) + 1) = ((j + 1 : Nat) : Int) := by
     rw [Zau (by omega) (by omega)]
     simp
    rw [ew]
    refine K2 (j + 1) (by omega) ?_ s
    unfold sepM
    rw [he, if_neg (by simp), if_neg hc]
  ·have he : acc.isEmpty = true := by
    cases acc with
    | nil => rfl
    | cons x r => simp at h0
   refine K2 j hj ?_ s
   unfold sepM
   rw [he, if_pos rfl]
end
abbrev cBd := Zcx
def ZoE (b : Nat) (p : Option Addr) (buf : Sl) (bs sp : List Int) : List HP :=
 [pts true (pt b 0) (cBd.enc ⟨p, buf⟩), shp b 190 2, vec (cI .u8) buf bs sp, shpO buf 5 (bs.length + sp.length)]
def BldP (b : Nat) (bs : List Int) : HP := fun h => ∃ p buf sp, (p = none ∨ p = some (pt b 0)) ∧ (buf.a = none ∨ buf.cap ≠ 0) ∧ seps (ZoE b p buf bs sp) h
section
variable {W w : World} {R Hs : List HP} {b : Nat} {p : Option Addr} {buf : Sl} {bs sp : List Int}
theorem Ss.openB (s : Ss W (BldP b bs :: R) w) : ∃ p buf sp, (p = none ∨ p = some (pt b 0)) ∧ (buf.a = none ∨ buf.cap ≠ 0) ∧ Ss W (ZoE b p buf bs sp ++ R) w := by
 obtain ⟨hb, k, ⟨h1, h2, e, l1, l2, ⟨p, buf, sp, a1, a2, a3⟩, b⟩, hw⟩ := s
 exact ⟨p, buf, sp, a1, a2, Ss.split ⟨hb, k, ⟨h1, h2, e, l1, l2, a3, b⟩, hw⟩⟩
theorem Ss.closeB (s : Ss W (ZoE b p buf bs sp ++ R) w) (h1 : p = none ∨ p = some (pt b 0)) (h2 : buf.a = none ∨ buf.cap ≠ 0) : Ss W (BldP b bs :: R) w := s.group.first (fun h hh => ⟨p, buf, sp, h1, h2, hh⟩)
theorem ZlD (s : Ss W (ZoE b p buf bs sp ++ R) w) (h1 : p = none ∨ p = some (pt b 0)) : WP (ZbP (some (pt b 0))) w (fun _ w' => Ss W (ZoE b (some (pt b 0)) buf bs sp ++ R) w') := by
 unfold ZbP
 refine WP.nilck (WP.ld s 0 rfl (o := 0) (by simp [Addr.add]) (Zf5 _) ?_)
 rcases h1 with rfl | rfl
 ·refine WP.ite (fun _ => ?_) (fun h => absurd rfl h)
  refine WP.upOf s 1 rfl (by decide) (WP.noesc (WP.ptOf s 1 rfl (by decide) (WP.nilck ?_)))
  exact WP.st s 0 rfl (o := 0) (by simp [Addr.add]) (Zh7 _ _) (fun w s => WP.ret s)
 ·refine WP.ite (fun h => by cases h) (fun _ => WP.nilck (WP.ld s 0 rfl (o := 0) (by simp [Addr.add]) (Zf5 _) ?_))
  refine WP.ptrEq1 ?_
  exact WP.ite (fun h => absurd rfl h) (fun _ => WP.ret s)
theorem ZvL {β : Type} {xs : List Int} {f : Unit → M β} {Q : β → World → Prop} (s : Ss W (ZoE b p buf bs sp ++ R) w) (h2 : buf.a = none ∨ buf.cap ≠ 0) (hl : bs.length + xs.length ≤ 140737488355328)
  (k : ∀ r sp' w', (r.a = none ∨ r.cap ≠ 0) → Ss W (ZoE b p r (bs ++ xs) sp' ++ R) w' → WP (f ()) w' Q) : WP (appl (cI .u8) 5 1 0 buf xs >>= fun r => nilck (some (pt b 0)) >>= fun q => st cL (Addr.add q 1) r >>= f) w Q := by
 refine WP.applB (Hs := pts true (pt b 0) (cBd.enc ⟨p, buf⟩) :: shp b 190 2 :: R) (s.use [2, 2] (r := _ :: _ :: R) rfl) hl h2 (fun r w sp' hz s => WP.nilck ?_)
 have s := s.use [2, 2, 0, 0] (r := R) rfl
 exact WP.st s 0 rfl (o := 1) rfl (Zgc _ _) (fun w s => k r sp' w hz s)
theorem Zhv (s : Ss W (BldP b bs :: R) w) (t : ByteArray) (hl : bs.length + t.size ≤ 1000000) : WP (Zbx (some (pt b 0)) t) w (fun _ w' => Ss W (BldP b (bs ++ strI t) :: R) w') := by
 obtain ⟨p, buf, sp, h1, h2, s⟩ := s.openB
 unfold Zbx
 refine WP.step (ZlD s h1) ?_
 rintro _ w s
 refine WP.nilck (WP.ld s 0 rfl (o := 1) rfl (ZbL _) ?_)
 exact ZvL s h2 (by rw [Zb4]; omega) (fun r sp' w hz s => WP.ret (s.closeB (.inr rfl) hz))
theorem Zty (s : Ss W (BldP b bs :: R) w) (hb : Byt bs) (hl : bs.length ≤ 1000000) : WP (Zch (some (pt b 0))) w (fun r w' => r = bstr bs ∧ Ss W R w') := by
 obtain ⟨p, buf, sp, h1, h2, s⟩ := s.openB
 unfold Zch
 refine WP.draw' s (fun w s => WP.nilck (WP.ld s 0 rfl (o := 1) rfl (ZbL _) (WP.nilck (WP.ld s 0 rfl (o := 1) rfl (ZbL _) ?_))))
 refine WP.sdata h2 (WP.same s 0 rfl (o := 1) rfl (ZbL _) ?_)
 exact WP.ustr (Hs := pts true (pt b 0) (cBd.enc ⟨p, buf⟩) :: shp b 190 2 :: R) (s.use [2, 2] (r := _ :: _ :: R) rfl) hb (by omega) (fun w s => WP.ret ⟨rfl, s.drop.drop⟩)
theorem Zv0 (s : Ss W (pts true (pt b 0) (cBd.enc Zfl) :: shp b 190 2 :: R) w) {n : Int} (h0 : 0 ≤ n) (hn : n ≤ 1000000) : WP (ZcD (some (pt b 0)) n) w (fun _ w' => Ss W (BldP b [] :: R) w') := by
 have s := ((s.mk0 (A := shpO Sl.nil 5 (([] : List Int).length + ([] : List Int).length)) ZtW).mk0 (A := vec (cI .u8) Sl.nil [] []) Zdc).use [2, 2, 0, 0] (r := R) rfl
 have s : Ss W (ZoE b none Sl.nil [] [] ++ R) w := s
 unfold ZcD
 refine WP.step (ZlD s (.inl rfl)) ?_
 rintro _ w s
 refine WP.ite (fun h => absurd h (by omega)) (fun _ => WP.draw' s (fun w s => ?_))
 refine WP.nilck (WP.ld s 0 rfl (o := 1) rfl (ZbL _) (WP.nilck (WP.ld s 0 rfl (o := 1) rfl (ZbL _) ?_)))
 refine WP.ite (fun h => ?_) (fun h => WP.ret (s.closeB (.inr rfl) (.inl rfl)))
 unfold Zc8
 refine WP.step (R := fun _ w' => Ss W (BldP b [] :: R) w') ?_ (fun _ w s => WP.ret s)
 refine WP.draw' s (fun w s => WP.nilck (WP.ld s 0 rfl (o := 1) rfl (ZbL _) (WP.nilck (WP.ld s 0 rfl (o := 1) rfl (ZbL _) ?_))))
 have e : IntKind.wrap .i64 (IntKind.wrap .i64 (2 * (Sl.nil.cap : Int)) + n) = n := by
  show IntKind.wrap .i64 (IntKind.wrap .i64 (2 * 0) + n) = n
  rw [Zau (n := 2 * 0) (by omega) (by omega), Zau (by omega) (by omega)]
  omega
 have e0 : IntKind.wrap .i64 ((Sl.nil.cap : Int) - (Sl.nil.len : Int)) = 0 := by
  show IntKind.wrap .i64 (0 - 0) = 0
  rw [Zau (by omega) (by omega)]
  omega
 simp only [e0] at h
 simp only [e]
 refine WP.mkNZ s h0 (by omega) (fun a cap xs w hcap hxl ha1 ha2 s => ?_)
 have s : Ss W (pts true a (xs.flatMap (cI .u8).enc) :: shp a.block 5 cap :: pts true (pt b 0) (cBd.enc ⟨some (pt b 0), Sl.nil⟩) :: shp b 190 2 :: vec (cI .u8) Sl.nil [] [] :: shpO Sl.nil 5 0 :: R) w := s
 refine WP.same s 2 rfl (o := 1) rfl (ZbL _) ?_
 refine WP.cutpre (by simp [Sl.nil]) (by simp only [Sl.nil]; omega) (WP.nilck (WP.ld s 2 rfl (o := 1) rfl (ZbL _) ?_))
 have s := s.first (B := vec (cI .u8) ⟨some a, 0, cap⟩ [] xs) (fun h hp => ⟨rfl, by simp [hxl], hp⟩)
 refine WP.cpy s 0 rfl 4 rfl Zc3 (by decide) (fun w s => WP.nilck ?_)
 have s : Ss W (vec (cI .u8) ⟨some a, 0, cap⟩ [] xs :: shp a.block 5 cap :: pts true (pt b 0) (cBd.enc ⟨some (pt b 0), Sl.nil⟩) :: shp b 190 2 :: vec (cI .u8) Sl.nil [] [] :: shpO Sl.nil 5 0 :: R) w := s
 refine WP.st s 2 rfl (o := 1) rfl (Zgc _ _) (fun w s => WP.ret ?_)
 have s : Ss W (vec (cI .u8) ⟨some a, 0, cap⟩ [] xs :: shp a.block 5 cap :: pts true (pt b 0) (cBd.enc ⟨some (pt b 0), ⟨some a, 0, cap⟩⟩) :: shp b 190 2 :: vec (cI .u8) Sl.nil [] [] :: shpO Sl.nil 5 0 :: R) w := s
 have s := (s.use [1] (s := [_]) (r := _ :: _ :: _ :: _ :: _ :: R) rfl).first (B := shpO ⟨some a, 0, cap⟩ 5 (([] : List Int).length + xs.length)) (fun h hp a' ha' => by
  cases ha'
  refine ⟨ha1, ha2, ?_⟩
  rw [hxl, List.length_nil, Nat.zero_add]
  exact hp)
 have s := s.use [2, 2, 1, 0] (r := _ :: _ :: R) rfl
 have s : Ss W (ZoE b (some (pt b 0)) ⟨some a, 0, cap⟩ [] xs ++ (vec (cI .u8) Sl.nil [] [] :: shpO Sl.nil 5 0 :: R)) w := s
 have s := s.closeB (.inr rfl) (.inr (by simp only; omega))
 exact (s.use [1, 1] (s := [_, _]) (r := _ :: R) rfl).drop.drop
end
def ZmI (sep : List Int) : List (List Int) → List Int
 | [] => []
 | x :: r => x ++ r.flatMap (fun y => sep ++ y)
section
variable {W w : World} {R Hs : List HP}
theorem ZmS {α : Type} {f : α → List Int} {l : List α} {k : Nat} (h : ∀ x ∈ l, (f x).length ≤ k) : (l.flatMap f).length ≤ l.length * k := by
 induction l with
 | nil => simp
 | cons x r ih =>
  have h1 := ih (fun y hy => h y (by simp [hy]))
  have h2 := h x (by simp)
  simp only [List.flatMap_cons, List.length_append, List.length_cons, Nat.succ_mul]
  omega
theorem ZtB {A : HP} {a0 : Sl} {strs : List ByteArray} {sep : ByteArray} (s : Ss W Hs w) (i : Nat) (e : nth Hs i = some A) (r : Rdb A cS a0 strs) (hcap : a0.len ≤ a0.cap) (h1 : strs.length ≤ 100) (h2 : ∀ x ∈ strs, x.size ≤ 100) (h3 : sep.size ≤ 100) :
  WP (Zas a0 sep) w (fun y w' => y = bstr (ZmI (strI sep) (strs.map strI)) ∧ Ss W Hs w') := by
 unfold Zas
 have hl := (s.rd_len e r).1
 rw [hl]
 match strs, h1, h2, r, hl with
 | [], h1, h2, r, hl => exact WP.ite (fun _ => WP.ret ⟨rfl, s⟩) (fun h => absurd rfl h)
 | [x], h1, h2, r, hl =>
  refine WP.ite (fun h => by simp at h) (fun _ => WP.ite (fun _ => ?_) (fun h => absurd rfl h))
  rw [← hl]
  refine WP.rdx s i e r (by omega) (x := x) rfl rfl (WP.ret ⟨?_, s⟩)
  show x = bstr (strI x ++ [])
  rw [List.append_nil, Zm0]
 | x :: y :: rest, h1, h2, r, hl =>
  have hn : (x :: y :: rest).length = rest.length + 2 := rfl
  rw [hn]
  rw [hn] at h1
  refine WP.ite (fun h => by omega) (fun _ => WP.ite (fun h => by omega) (fun _ => ?_))
  -- what is behind the reckoning of the room
  have K2 : ∀ (n : Int), 0 ≤ n → n ≤ 10000 → WP (Zas.K2 a0 sep n) w (fun y' w' => y' = bstr (ZmI (strI sep) ((x :: y :: rest).map strI)) ∧ Ss W Hs w') := by
   intro n n0 n1
   unfold Zas.K2
   refine WP.loop (fun (p : Int × Int) w' => 0 ≤ p.1 ∧ p.1 ≤ 10000 + 100 * p.2 ∧ 0 ≤ p.2 ∧ p.2 ≤ rest.length + 2 ∧ Ss W Hs w') (fun p _ => ((rest.length + 2 : Int) - p.2).toNat) ⟨n0, by simp only; omega, by simp, by simp only; omega, s⟩ ?_
   clear s
   rintro ⟨t, k⟩ w ⟨t0, t1, k0, k1, s⟩
   simp only at t0 t1 k0 k1
   show WP (Zas.L2 a0 sep t k) w _
   unfold Zas.L2
   rw [hl, hn]
   refine WP.ite (fun h => ?_) (fun h => ?_)
   ·have hx := List.getElem?_eq_getElem (show k.toNat < (x :: y :: rest).length by rw [hn]; omega)
    have hsz := h2 _ (List.mem_of_getElem? hx)
    generalize (x :: y :: rest)[k.toNat]'(by rw [hn]; omega) = z at hx hsz
    rw [← hn, ← hl]
    refine WP.rdx s i e r k0 hx rfl ?_
    rw [Zau (n := 9223372036854775807 - t) (by omega) (by omega)]
    refine WP.ite (fun h => absurd h (by omega)) (fun _ => WP.next ⟨?_, ?_⟩)
    ·rw [Zau (n := t + _) (by omega) (by omega), Zau (n := k + 1) (by omega) (by omega)]
     exact ⟨by simp only; omega, by simp only; omega, by simp only; omega, by simp only; omega, s⟩
    ·rw [Zau (n := k + 1) (by omega) (by omega)]
     simp only
     omega
   ·refine WP.step ?_ (fun r w h => WP.done h)
    unfold Zas.K1
    refine WP.newvS s (fun b w s => ?_)
    refine WP.step (Zv0 s t0 (by omega)) ?_
    rintro _ w s
    refine WP.rdx s (i + 1) e r (by omega) (x := x) rfl rfl ?_
    have hx := h2 x (by simp)
    refine WP.step (Zhv s x (by simp only [List.length_nil]; omega)) ?_
    rintro _ w s
    refine WP.cutsuf (by omega) (by rw [hl, hn]; omega) hcap ?_
    have rd := r.drop (k := 1) (by simp) hcap
    generalize hq : (⟨if a0.cap = (1 : Int).toNat then a0.a else a0.a.map (·.add ((1 : Int).toNat * 1)), a0.len - (1 : Int).toNat, a0.cap - (1 : Int).toNat⟩ : Sl) = q
    have rd : Rdb A cS q (y :: rest) := hq ▸ rd
    have ql := (s.rd_len (i := i + 1) e rd).1
    have ql : q.len = rest.length + 1 := ql
    refine WP.loopG (γ := Nat) (fun j (p : Int) w' => p = (j : Int) ∧ j ≤ rest.length + 1 ∧ Ss W (BldP b (strI x ++ ((y :: rest).take j).flatMap (fun z => strI sep ++ strI z)) :: Hs) w') (fun j _ => rest.length + 1 - j) 0 ⟨rfl, by omega, by simpa using s⟩ ?_
    clear s
    rintro j _ w ⟨rfl, hj, s⟩
    show WP (Zas.L1 sep b q (j : Int)) w _
    unfold Zas.L1
    have hpre : (strI x ++ ((y :: rest).take j).flatMap (fun z => strI sep ++ strI z)).length ≤ 100 + 100 * 200 := by
     have := ZmS (f := fun z : ByteArray => strI sep ++ strI z) (l := (y :: rest).take j) (k := 200) (fun z hz => by
      have := h2 z (List.mem_cons_of_mem _ (List.mem_of_mem_take hz))
      rw [List.length_append, Zb4, Zb4]
      omega)
     have h4 : ((y :: rest).take j).length ≤ 100 := by
      rw [List.length_take]
      omega
     have h5 := Nat.mul_le_mul_right 200 h4
     rw [List.length_append, Zb4]
     omega
    refine WP.ite (fun h => ?_) (fun h => ?_)
    ·have hj2 : j < (y :: rest).length := by
      show j < rest.length + 1
      omega
     have hz := List.getElem?_eq_getElem hj2
     have hsz := h2 _ (List.mem_cons_of_mem _ (List.mem_of_getElem? hz))
     have htake : (y :: rest).take (j + 1) = (y :: rest).take j ++ [(y :: rest)[j]] := by
      rw [List.take_add_one, hz]
      rfl
     generalize (y :: rest)[j] = z at hz hsz htake
     refine WP.rdx s (i + 1) e rd (by omega) (x := z) (by rw [Int.toNat_natCast]; exact hz) rfl ?_
     refine WP.step (Zhv s sep (by omega)) ?_
     rintro _ w s
     refine WP.step (Zhv s z (by rw [List.length_append, Zb4]; omega)) ?_
     rintro _ w s
     refine WP.next ⟨j + 1, ⟨?_, by omega, ?_⟩, by omega⟩
     ·rw [Zau (by omega) (by omega)]
      simp
     ·rw [htake, List.flatMap_append]
      simpa [List.append_assoc] using s
    ·have hj2 : j = rest.length + 1 := by omega
     subst hj2
     have ht : (y :: rest).take (rest.length + 1) = y :: rest := by
      apply List.take_of_length_le
      simp
     rw [ht] at s hpre
     refine WP.step (Zty s ((Byt.strI x).app fun v hv => ?_) (by omega)) ?_
     ·obtain ⟨z, _, hv⟩ := List.mem_flatMap.1 hv
      exact ((Byt.strI sep).app (Byt.strI z)) v hv
     ·rintro _ w ⟨rfl, s⟩
      refine WP.done ⟨?_, s⟩
      simp only [List.map_cons, ZmI, List.flatMap_cons, List.flatMap_map]
  have hw1 : IntKind.wrap .i64 (((rest.length + 2 : Nat) : Int) - 1) = (rest.length : Int) + 1 := by
   rw [Zau (by omega) (by omega)]
   omega
  refine WP.ite (fun h => ?_) (fun _ => K2 0 (by omega) (by omega))
  rw [hw1]
  refine WP.chk (by omega) ?_
  have hdiv : (92233720368547758 : Int) ≤ IntKind.wrap .i64 (Int.tdiv 9223372036854775807 ((rest.length : Int) + 1)) := by
   rw [Int.tdiv_eq_ediv_of_nonneg (by omega)]
   have h6 : (92233720368547758 : Int) ≤ 9223372036854775807 / ((rest.length : Int) + 1) := by
    rw [Int.le_ediv_iff_mul_le (by omega)]
    have : (rest.length : Int) + 1 ≤ 100 := by omega
    have := Int.mul_le_mul_of_nonneg_left this (show (0 : Int) ≤ 92233720368547758 by omega)
    omega
   have h7 : 9223372036854775807 / ((rest.length : Int) + 1) ≤ 9223372036854775807 := Int.ediv_le_self _ (by omega)
   rw [Zau (by omega) h7]
   exact h6
  refine WP.ite (fun h => absurd h (by omega)) (fun _ => ?_)
  have hm := ZsH (a := (sep.size : Int)) (b := (rest.length : Int) + 1) (A := 100) (B := 99) (by omega) (by omega) (by omega) (by omega)
  rw [Zau (n := (sep.size : Int) * ((rest.length : Int) + 1)) (by omega) (by omega), Zau (by omega) (by omega)]
  exact K2 _ (by omega) (by omega)
end
theorem Zsc : ∀ k : _root_.Fin 100, (if k.val < 10 then (ZtT).extract k.val (k.val + 1) else (ZtS).extract (k.val * 2) (k.val * 2 + 2)) = bstr (dec3 k.val) := by decide +kernel
section
variable {W w : World} {Hs : List HP}
theorem ZtU {n : Nat} (h : n < 100) : WP (ZeF (n : Int)) w (fun r w' => r = bstr (dec3 n) ∧ w = w') := by
 have ht := Zsc ⟨n, h⟩
 simp only at ht
 unfold ZeF
 refine WP.ite (fun h => ?_) (fun h => ?_)
 ·rw [Zau (by omega) (by omega), Ztj]
  refine WP.chk ⟨by omega, by omega, by omega⟩ (WP.ret ⟨?_, rfl⟩)
  rw [if_pos (by omega)] at ht
  rw [← ht]
  congr 1
 ·rw [Zau (n := (n : Int) * 2) (by omega) (by omega), Zau (by omega) (by omega), ZpP]
  refine WP.chk ⟨by omega, by omega, by omega⟩ (WP.ret ⟨?_, rfl⟩)
  rw [if_neg (by omega)] at ht
  rw [← ht]
  congr 1
theorem Zqr (s : Ss W Hs w) {n : Nat} (h : n < 100) : WP (ZdH (n : Int)) w (fun r w' => r = bstr (dec3 n) ∧ Ss W Hs w') := by
 unfold ZdH
 refine WP.step (R := fun r w' => r = bstr (dec3 n) ∧ Ss W Hs w') ?_ (fun r w h => WP.ret h)
 unfold ZfL
 refine WP.step (R := fun r w' => r = bstr (dec3 n) ∧ Ss W Hs w') ?_ (fun r w h => WP.ret h)
 unfold ZdO
 refine WP.ite (fun _ => ?_) (fun h => absurd rfl h)
 refine WP.step (R := fun y w' => y = true ∧ w = w') (WP.ite (fun _ => WP.ret ⟨decide_eq_true (by omega), rfl⟩) (fun h => absurd (by omega) h)) ?_
 rintro _ _ ⟨rfl, rfl⟩
 refine WP.ite (fun _ => WP.step (ZtU h) ?_) (fun h => absurd rfl h)
 rintro _ _ ⟨rfl, rfl⟩
 exact WP.ret ⟨rfl, s⟩
end
section
variable {W w : World} {Hs : List HP}
end
theorem Zg0 (l : List Int) : (bstr l).size = l.length := by
 show (bstr l).data.size = _
 simp [bstr]
def dotM (xs : List Int) : List Int := ZmI [46] (xs.map fun x => dec3 x.toNat)
section
variable {W w : World} {Hs : List HP}
theorem Zti (s : Ss W Hs w) {A : HP} {a0 : Sl} {xs : List Int} (i : Nat) (e : nth Hs i = some A) (r : Rdb A (cI .u8) a0 xs) (hb : ∀ x ∈ xs, 0 ≤ x ∧ x < 100) (hl : xs.length ≤ 16) : WP (ZbO a0) w (fun y w' => y = bstr (dotM xs) ∧ Ss W Hs w') := by
 unfold ZbO
 have hlen := (s.rd_len e r).1
 refine WP.loopG (γ := Nat × List ByteArray) (fun g (p : Sl × Int) w => p.2 = (g.1 : Int) ∧ g.1 ≤ xs.length ∧ Ss W (vec cS p.1 ((xs.take g.1).map fun x => bstr (dec3 x.toNat)) g.2 :: Hs) w) (fun g _ => xs.length - g.1) (0, []) ⟨rfl, by simp, s.mk0 (A := vec cS Sl.nil [] []) Zdc⟩ ?_
 clear s
 rintro ⟨k, sp⟩ ⟨sl, _⟩ w ⟨rfl, hk, s⟩
 simp only at hk s
 show WP (ZbO.L1 a0 sl (k : Int)) w _
 unfold ZbO.L1
 refine WP.ite (fun h => ?_) (fun h => ?_)
 ·have hk2 : k < xs.length := by omega
  have hx := List.getElem?_eq_getElem hk2
  have hxb := hb _ (List.mem_of_getElem? hx)
  have htake : xs.take (k + 1) = xs.take k ++ [xs[k]] := by
   rw [List.take_add_one, hx]
   rfl
  generalize xs[k] = x at hx hxb htake
  refine WP.rdx s (i + 1) e r (by omega) (x := x) (by rw [Int.toNat_natCast]; exact hx) rfl ?_
  rw [Zau (n := x) (by omega) (by omega), show x = ((x.toNat : Nat) : Int) by omega]
  refine WP.step (Zqr s (n := x.toNat) (by omega)) ?_
  rintro _ w ⟨rfl, s⟩
  refine WP.slot' s (fun _ w s => ?_)
  refine WP.appl s 0 rfl (by simp only [List.length_map, List.length_take, List.length_cons, List.length_nil]; omega) (by decide) (fun sl' w sp' s => WP.next ⟨(k + 1, sp'), ⟨?_, by simp only; omega, ?_⟩, by simp only; omega⟩)
  ·rw [Zau (by omega) (by omega)]
   simp
  ·simp only
   rw [htake, List.map_append]
   exact s
 ·have hk2 : k = xs.length := by omega
  subst hk2
  rw [List.take_length] at s
  have hv := s.vec_len (i := 0) rfl
  refine WP.step (ZtB s 0 rfl Zc3 (by omega) (by rw [List.length_map]; omega) (fun z hz => ?_) (by decide +kernel)) ?_
  ·obtain ⟨x, hx, rfl⟩ := List.mem_map.1 hz
   rw [Zg0, Zov]
   unfold ndig
   split
   ·omega
   ·split <;> omega
  rintro _ w ⟨rfl, s⟩
  refine WP.done ⟨?_, s.drop⟩
  have e1 : strI Zv7 = [46] := by decide +kernel
  rw [e1]
  unfold dotM
  rw [List.map_map]
  congr 2
  apply List.map_congr_left
  intro x hx
  have := hb x hx
  exact Zmo (ZuE (by omega))
end
def ZdA (ip : Zba) : Int := if ip.V = 6 then 128 else if ip.V = 4 ∧ ip.A.l.drop 4 = List.replicate 12 0 then 32 else 0
def ZgZ (k : Int) : Nat := (min 8 (max 0 k)).toNat
def Zo6 (c : Int) (k : Int) : Int := c / 2 ^ (8 - ZgZ k) * 2 ^ (8 - ZgZ k)
def Zpa (a : List Int) (n : Int) : List Int := (List.range 16).map fun i => Zo6 (a.getD i 0) (n - 8 * (i : Int))
def Zo9 (a : Vec Int 16) (n : Int) : Vec Int 16 := ⟨Zpa a.l n, by simp [Zpa]⟩
def vpM (p : Zad) : Int := if ZdA p.IP = 0 then 40 else if p.Len < 0 ∨ p.Len > ZdA p.IP then 45 else if Zo9 p.IP.A p.Len = p.IP.A then 0 else 46
def ctM (p : Zad) (ip : Zba) : Bool := decide (vpM p = 0 ∧ ZdA ip > 0 ∧ p.IP.V = ip.V ∧ Zo9 ip.A p.Len = p.IP.A)
theorem Zl0 (ip : Zba) : 0 ≤ ZdA ip ∧ ZdA ip ≤ 128 := by
 unfold ZdA
 split
 ·omega
 ·split <;> omega
theorem Zuh : ∀ (c : _root_.Fin 256) (k : _root_.Fin 9), band .u8 (c.val : Int) (IntKind.wrap .u8 (Int.fdiv 65280 (2 ^ k.val))) = (c.val : Int) / 2 ^ (8 - k.val) * 2 ^ (8 - k.val) := by decide +kernel
theorem Zp7 {c : Int} (k : Int) (h : 0 ≤ c ∧ c ≤ 255) : 0 ≤ Zo6 c k ∧ Zo6 c k ≤ 255 := by
 unfold Zo6
 have h1 : (0 : Int) < 2 ^ (8 - ZgZ k) := Int.pow_pos (by omega)
 constructor
 ·exact Int.mul_nonneg (Int.ediv_nonneg h.1 (by omega)) (by omega)
 ·have := Int.ediv_mul_le c (b := 2 ^ (8 - ZgZ k)) (by omega)
  omega
theorem ZmG {a : List Int} (n : Int) (h : Byt a) : Byt (Zpa a n) := fun x hx => by
 obtain ⟨i, _, rfl⟩ := List.mem_map.1 hx
 refine Zp7 _ ?_
 rw [List.getD]
 cases hi : a[i]? with
 | none => simp
 | some y => exact h y (List.mem_of_getElem? hi)
section
variable {W w : World} {Hs : List HP}
theorem ZpQ (s : Ss W Hs w) (ip : Zba) : WP (Zf0 ip) w (fun r w' => r = ZdA ip ∧ Ss W Hs w') := by
 unfold Zf0
 refine WP.newv s (fun b w s => WP.ld s 0 rfl (o := 0) (by simp [Addr.add]) (ZcP _) ?_)
 refine WP.ite (fun h => WP.ret ⟨by unfold ZdA; rw [if_pos h], s.drop⟩) (fun h6 => ?_)
 refine WP.ld s 0 rfl (o := 0) (by simp [Addr.add]) (ZcP _) ?_
 refine WP.step (R := fun y w' => y = decide (¬ (ip.V = 4 ∧ ip.A.l.drop 4 = List.replicate 12 0)) ∧ Ss W (pts true (pt b 0) (ZaG.enc ip) :: Hs) w') (WP.ite (fun h => WP.ret ⟨?_, s⟩) (fun h => ?_)) ?_
 ·simp [show ¬ ip.V = 4 from h]
 ·refine WP.cutsuf (by omega) (by simp) (by simp) ?_
  refine WP.bind (WP.chk (by simp) ?_)
  have hq : (if 16 = (4 : Int).toNat then some (Addr.add (pt b 0) 1) else (some (Addr.add (pt b 0) 1)).map (·.add ((4 : Int).toNat * 1))) = some ((pt b 0).add 5) := rfl
  simp only [hq]
  refine ⟨(pt b 0).add 5, w, rfl, ?_⟩
  have hl : (ip.A.l.drop 4).length = 12 := by rw [List.length_drop, ip.A.h]
  have hat : At (ZaG.enc ip) 5 (((cI .u8).arr 12).enc ⟨ip.A.l.drop 4, hl⟩) := by
   have h1 : At (((cI .u8).arr 16).enc ip.A) 4 (((cI .u8).arr 12).enc ⟨ip.A.l.drop 4, hl⟩) := by
    rw [Cod.arr_enc, Cod.arr_enc]
    refine ⟨(ip.A.l.take 4).flatMap (cI .u8).enc, [], ?_, ?_⟩
    ·rw [List.append_nil, ← List.flatMap_append, List.take_append_drop]
    ·rw [Zel, List.length_take, ip.A.h]
     rfl
   exact (ZdE ip).trans h1
  refine WP.ld s 0 rfl (o := 5) rfl hat (WP.ret ⟨?_, s⟩)
  have h4 : ip.V = 4 := by
   rcases Decidable.em (ip.V = 4) with h' | h'
   ·exact h'
   ·exact absurd h' h
  have e1 : eqv (⟨ip.A.l.drop 4, hl⟩ : Vec Int 12) (⟨[0, 0, 0, 0, 0, 0, 0, 0, 0, 0, 0, 0], rfl⟩ : Vec Int 12) = decide (ip.A.l.drop 4 = List.replicate 12 0) := by
   refine Zu1 ?_
   rw [decide_eq_true_iff]
   exact ⟨fun h => Vec.eq h, fun h => congrArg Vec.l h⟩
  rw [e1]
  simp [h4]
 rintro _ w ⟨rfl, s⟩
 refine WP.ite (fun h => WP.ret ⟨?_, s.drop⟩) (fun h => WP.ret ⟨?_, s.drop⟩)
 ·unfold ZdA
  rw [if_neg h6, if_neg (of_decide_eq_true h)]
 ·unfold ZdA
  rw [if_neg h6, if_pos (Decidable.not_not.1 fun h' => h (decide_eq_true h'))]
theorem Zrf (s : Ss W Hs w) (ip : Zba) : WP (ZfO ip) w (fun r w' => r = decide (ZdA ip > 0) ∧ Ss W Hs w') := by
 unfold ZfO
 refine WP.slot' s (fun _ w s => WP.step (ZpQ s ip) ?_)
 rintro _ w ⟨rfl, s⟩
 exact WP.ret ⟨rfl, s⟩
theorem Zo7 (s : Ss W Hs w) (a : Vec Int 16) (hb : Byt a.l) {n : Int} (n0 : 0 ≤ n) (n1 : n ≤ 128) : WP (ZbM a n) w (fun r w' => r = Zo9 a n ∧ Ss W Hs w') := by
 unfold ZbM
 refine WP.slot' s (fun _ w s => WP.slot' s (fun _ w s => WP.slot' s (fun _ w s => ?_)))
 refine WP.loopG (γ := Nat) (fun i (p : Int × Vec Int 16) w => p.1 = (i : Int) ∧ i ≤ 16 ∧ (∀ j, j < i → p.2.l[j]? = some (Zo6 (a.l.getD j 0) (n - 8 * (j : Int)))) ∧ Ss W Hs w) (fun i _ => 16 - i) 0 ⟨rfl, by omega, fun j h => absurd h (by omega), s⟩ ?_
 clear s
 rintro i ⟨_, v⟩ w ⟨rfl, hi, hv, s⟩
 simp only at hv
 show WP (ZbM.L1 a n (i : Int) v) w _
 unfold ZbM.L1
 refine WP.ite (fun h => ?_) (fun h => WP.done ⟨?_, s⟩)
 ·have e8 : IntKind.wrap .i64 (8 * (i : Int)) = 8 * (i : Int) := Zau (by omega) (by omega)
  have en : IntKind.wrap .i64 (n - 8 * (i : Int)) = n - 8 * (i : Int) := Zau (by omega) (by omega)
  have ek : (if (if 0 < n - 8 * (i : Int) then n - 8 * (i : Int) else 0) < 8 then (if 0 < n - 8 * (i : Int) then n - 8 * (i : Int) else 0) else 8) = ((ZgZ (n - 8 * (i : Int)) : Nat) : Int) := by
   unfold ZgZ
   split <;> split <;> omega
  have hk : ZgZ (n - 8 * (i : Int)) ≤ 8 := by
   unfold ZgZ
   omega
  rw [e8, en, ek, ZlZ (by omega) (by omega)]
  refine WP.chk ⟨by omega, by omega⟩ (WP.chk (by omega) (WP.chk ⟨by omega, by omega⟩ (WP.next ⟨i + 1, ⟨?_, by omega, ?_, s⟩, by omega⟩)))
  ·simp only
   rw [Zau (by omega) (by omega)]
   simp
  ·intro j hj
   have hc : 0 ≤ a.l.getD i 0 ∧ a.l.getD i 0 ≤ 255 := by
    rw [List.getD]
    cases hx : a.l[i]? with
    | none => simp
    | some y => exact hb y (List.mem_of_getElem? hx)
   have ht := Zuh ⟨(a.l.getD i 0).toNat, by omega⟩ ⟨ZgZ (n - 8 * (i : Int)), by omega⟩
   simp only at ht
   rw [show (((a.l.getD i 0).toNat : Nat) : Int) = a.l.getD i 0 by omega] at ht
   have hmin : min (Int.toNat ((ZgZ (n - 8 * (i : Int)) : Nat) : Int)) 64 = ZgZ (n - 8 * (i : Int)) := by omega
   show (v.l.set (Int.toNat (i : Int)) (band .u8 (a.l.getD (Int.toNat (i : Int)) 0) _))[j]? = _
   rw [hmin, Int.toNat_natCast, ht]
   by_cases ej : j = i
   ·subst ej
    rw [List.getElem?_set_self (by rw [v.h]; omega)]
    rfl
   ·rw [List.getElem?_set_ne (fun h => ej h.symm)]
    exact hv j (by omega)
 ·have hi : i = 16 := by omega
  subst hi
  refine Vec.eq ?_
  show v.l = Zpa a.l n
  apply List.ext_getElem?
  intro j
  unfold Zpa
  rw [List.getElem?_map]
  by_cases hj : j < 16
  ·rw [hv j hj, List.getElem?_range hj]
   rfl
  ·rw [List.getElem?_eq_none (by rw [v.h]; omega), List.getElem?_eq_none (by simp; omega)]
   rfl
theorem Zgm (s : Ss W Hs w) (p : Zad) (hb : Byt p.IP.A.l) : WP (Zcr p) w (fun r w' => r = vpM p ∧ Ss W Hs w') := by
 unfold Zcr
 have hz := Zl0 p.IP
 refine WP.slot' s (fun _ w s => WP.step (ZpQ s p.IP) ?_)
 rintro _ w ⟨rfl, s⟩
 refine WP.ite (fun h => WP.ret ⟨by unfold vpM; rw [if_pos h], s⟩) (fun h0 => ?_)
 refine WP.step (R := fun y w' => y = decide (p.Len < 0 ∨ p.Len > ZdA p.IP) ∧ Ss W Hs w') (WP.ite (fun h => WP.ret ⟨by simp [h], s⟩) (fun h => WP.ret ⟨by simp [h], s⟩)) ?_
 rintro _ w ⟨rfl, s⟩
 refine WP.ite (fun h => WP.ret ⟨by unfold vpM; rw [if_neg h0, if_pos (of_decide_eq_true h)], s⟩) (fun h => WP.draw' s (fun w s => ?_))
 have hn : ¬ (p.Len < 0 ∨ p.Len > ZdA p.IP) := fun h' => h (decide_eq_true h')
 refine WP.step (Zo7 s p.IP.A hb (by omega) (by omega)) ?_
 rintro _ w ⟨rfl, s⟩
 refine WP.ite (fun h => WP.ret ⟨by unfold vpM; rw [if_neg h0, if_neg hn, if_neg h], s⟩) (fun h => WP.ret ⟨by unfold vpM; rw [if_neg h0, if_neg hn, if_pos (Decidable.not_not.1 h)], s⟩)
theorem ZpJ {p : Zad} (h : vpM p = 0) : ZdA p.IP ≠ 0 ∧ 0 ≤ p.Len ∧ p.Len ≤ ZdA p.IP ∧ Zo9 p.IP.A p.Len = p.IP.A := by
 unfold vpM at h
 split at h
 ·cases h
 ·rename_i h0
  split at h
  ·cases h
  ·rename_i h1
   split at h
   ·rename_i h2
    exact ⟨h0, by omega, by omega, h2⟩
   ·cases h
end
theorem catb (a b : List Int) : bstr a ++ bstr b = bstr (a ++ b) := by
 unfold bstr
 apply ByteArray.ext
 simp
section
variable {W w : World} {Hs : List HP}
theorem Zpd {sep : List Int} {l : List (List Int)} {k : Nat} (h : ∀ x ∈ l, x.length ≤ k) : (ZmI sep l).length ≤ l.length * (sep.length + k) := by
 cases l with
 | nil => simp [ZmI]
 | cons x r =>
  have h1 := ZmS (f := fun y => sep ++ y) (l := r) (k := sep.length + k) (fun y hy => by
   have := h y (by simp [hy])
   rw [List.length_append]
   omega)
  have h2 := h x (by simp)
  simp only [ZmI, List.length_append, List.length_cons, Nat.succ_mul]
  omega
theorem ZuD {xs : List Int} (hl : xs.length ≤ 16) : (dotM xs).length ≤ 64 := by
 have := Zpd (sep := [46]) (l := xs.map fun x => dec3 x.toNat) (k := 3) (fun x hx => by
  obtain ⟨y, _, rfl⟩ := List.mem_map.1 hx
  rw [Zov]
  unfold ndig
  split
  ·omega
  ·split <;> omega)
 rw [List.length_map] at this
 unfold dotM
 simp only [List.length_cons, List.length_nil] at this
 omega
theorem Zq5 (x y : Nat) (hx : x < 256) (hy : y < 256) : bor .i64 (IntKind.wrap .i64 (IntKind.wrap .i64 (x : Int) * 2 ^ 8)) (IntKind.wrap .i64 (y : Int)) = ((256 * x + y : Nat) : Int) := by
 have e1 : IntKind.wrap .i64 (x : Int) = x := Zau (by omega) (by omega)
 have e2 : IntKind.wrap .i64 (y : Int) = y := Zau (by omega) (by omega)
 have e3 : IntKind.wrap .i64 ((x : Int) * 2 ^ 8) = ((256 * x : Nat) : Int) := by
  rw [Zau (by omega) (by omega)]
  omega
 rw [e1, e2, e3]
 have e : (BitVec.ofInt 64 ((256 * x : Nat) : Int) ||| BitVec.ofInt 64 (y : Int)).toNat = 256 * x + y := by
  rw [BitVec.toNat_or, BitVec.toNat_ofInt, BitVec.toNat_ofInt]
  have h1 : ((((256 * x : Nat) : Int) % ((2 ^ 64 : Nat) : Int)).toNat) = x <<< 8 := by
   rw [Nat.shiftLeft_eq]
   omega
  have h2 : (((y : Int) % ((2 ^ 64 : Nat) : Int)).toNat) = y := by omega
  rw [h1, h2, ← Nat.shiftLeft_add_eq_or_of_lt (by omega), Nat.shiftLeft_eq]
  omega
 show IntKind.wrap .i64 (((BitVec.ofInt 64 ((256 * x : Nat) : Int) ||| BitVec.ofInt 64 (y : Int)).toNat : Nat) : Int) = _
 rw [e]
 exact Zau (by omega) (by omega)
theorem ZrQ (s : Ss W Hs w) (ip : Zba) (h4 : ip.V = 4) (hv : ZdA ip > 0) (hb : ∀ x ∈ ip.A.l.take 4, 0 ≤ x ∧ x < 100) : WP (Zfg ip) w (fun r w' => r = (bstr (dotM (ip.A.l.take 4)), 0) ∧ Ss W Hs w') := by
 unfold Zfg
 refine WP.newv s (fun b w s => WP.ld s 0 rfl (o := 0) (by simp [Addr.add]) (At.whole _) (WP.step (Zrf s ip) ?_))
 rintro _ w ⟨rfl, s⟩
 refine WP.ite (fun h => absurd (decide_eq_true hv) h) (fun h => ?_)
 have rdA : Rdb (pts true (pt b 0) (ZaG.enc ip)) (cI .u8) ⟨some ((pt b 0).add 1), ip.A.l.length, 16⟩ ip.A.l := by
  refine Zfw.rdb ((Zfw.pts (q := true) (a := pt b 0)).at_ ?_)
  rw [← Cod.arr_enc]
  exact ZdE ip
 have hl16 := ip.A.h
 refine WP.ld s 0 rfl (o := 0) (by simp [Addr.add]) (ZcP _) ?_
 refine WP.ite (fun _ => ?_) (fun h => absurd h4 h)
 refine WP.cutpre (by omega) (by simp only; omega) (WP.step (Zti s 0 rfl (rdA.take (k := 4) (n := 16) (by omega)) hb (by rw [List.length_take]; omega)) ?_)
 rintro _ w ⟨rfl, s⟩
 exact WP.ret ⟨rfl, s.drop⟩
end
structure S6 where
 at_ : Nat
 gs : List Nat
 gap : Int
def S6.room (st : S6) : Int := if st.gap ≥ 0 then 7 - st.gs.length else 8 - st.gs.length
def hexN (l : List Int) : Nat := l.foldl (fun v c => v * 16 % 1048576 + (hexV c).toNat) 0
def ZsD : List Nat → List Nat
 | [a, b, c, d] => [256 * a + b, 256 * c + d]
 | _ => []
def ZiQ (l : List Int) (st : S6) : Except Flt (Bool × S6) :=
 if runE Zkt l st.at_ = st.at_ then .error (Zp5 l st.at_)
 else if runE Zkt l st.at_ < l.length ∧ l.getD (runE Zkt l st.at_) 0 = 46 ∧ (st.gs ≠ [] ∨ st.gap ≥ 0) then
  if st.room < 2 then .error (44, st.at_) else match Zix l st.at_ with
   | .error f => .error f
   | .ok a => .ok (true, ⟨st.at_, st.gs ++ ZsD a, st.gap⟩)
 else if st.room < 1 then .error (44, st.at_)
 else if runE Zkt l st.at_ - st.at_ > 4 then .error (43, st.at_)
 else .ok (false, ⟨runE Zkt l st.at_, st.gs ++ [hexN ((l.drop st.at_).take (runE Zkt l st.at_ - st.at_))], st.gap⟩)
def Zqj (l : List Int) (i : Nat) : Prop := (l.drop i).take 2 = [58, 58]
instance (l : List Int) (i : Nat) : Decidable (Zqj l i) := inferInstanceAs (Decidable (_ = _))
def ZfJ (l : List Int) (st : S6) : Except Flt (Bool × S6) :=
 if ¬ Zqj l st.at_ then .ok (false, st)
 else if st.gap ≥ 0 ∨ st.gs.length = 8 then .error (44, st.at_)
 else .ok (true, ⟨st.at_ + 2, st.gs, st.gs.length⟩)
theorem Zd4 (s : ByteArray) (a b : Nat) : strI (s.extract a b) = ((strI s).drop a).take (b - a) := by
 unfold strI
 rw [ByteArray.data_extract, Array.toList_extract, List.extract_eq_take_drop, List.map_take, List.map_drop]
theorem Zcw {a b : ByteArray} : a.toList = b.toList ↔ strI a = strI b := by
 rw [Zml, Zml]
 unfold strI
 constructor
 ·intro h
  rw [h]
 ·intro h
  have hi : Function.Injective (fun x : UInt8 => (x.toNat : Int)) := fun x y h => UInt8.toNat_inj.1 (by have h : (x.toNat : Int) = (y.toNat : Int) := h; omega)
  exact (List.map_inj_right (fun x y h => hi h)).1 h
section
variable {W w : World} {Hs : List HP}
theorem ZpG (a p : ByteArray) : WP (Zdg a p) w (fun r w' => r = decide ((strI a).take p.size = strI p) ∧ w = w') := by
 unfold Zdg Zca
 refine WP.step (R := fun r w' => r = decide ((strI a).take p.size = strI p) ∧ w = w') ?_ (fun r w h => WP.ret h)
 refine WP.step (R := fun r w' => r = decide ((strI a).take p.size = strI p) ∧ w = w') (WP.ite (fun h => WP.chk ⟨by omega, by omega, h⟩ (WP.ret ⟨?_, rfl⟩)) (fun h => WP.ret ⟨?_, rfl⟩)) (fun r w h => WP.ret h)
 ·rw [Bool.eq_iff_iff, beq_iff_eq, decide_eq_true_iff, Zcw, Zd4]
  simp
 ·refine (decide_eq_false fun h' => ?_).symm
  have := congrArg List.length h'
  rw [List.length_take, Zb4, Zb4] at this
  omega
abbrev cSix := Zdi
def Znx (b : Nat) (t : ByteArray) (g : Sl) (st : S6) (sp : List Int) : List HP := [pts true (pt b 0) (cSix.enc ⟨t, (st.at_ : Int), g, st.gap⟩), vec (cI .i64) g (st.gs.map fun n : Nat => (n : Int)) sp]
def SixP (b : Nat) (t : ByteArray) (st : S6) : HP := fun h => ∃ g sp, seps (Znx b t g st sp) h
theorem Ss.openX {b : Nat} {t : ByteArray} {st : S6} (s : Ss W (SixP b t st :: Hs) w) : ∃ g sp, Ss W (Znx b t g st sp ++ Hs) w := by
 obtain ⟨hb, k, ⟨h1, h2, e, l1, l2, ⟨g, sp, a3⟩, b⟩, hw⟩ := s
 exact ⟨g, sp, Ss.split ⟨hb, k, ⟨h1, h2, e, l1, l2, a3, b⟩, hw⟩⟩
theorem Ss.closeX {b : Nat} {t : ByteArray} {st : S6} {g : Sl} {sp : List Int} (s : Ss W (Znx b t g st sp ++ Hs) w) : Ss W (SixP b t st :: Hs) w := s.group.first (fun h hh => ⟨g, sp, hh⟩)
theorem Zsh {b : Nat} {t : ByteArray} {st : S6} (s : Ss W (SixP b t st :: Hs) w) (hg : st.gs.length ≤ 100) : WP (Zeb (some (pt b 0))) w (fun r w' => r = st.room ∧ Ss W (SixP b t st :: Hs) w') := by
 obtain ⟨g, sp, s⟩ := s.openX
 have hl := (s.vec_len (i := 1) rfl).1
 rw [List.length_map] at hl
 unfold Zeb S6.room
 refine WP.nilck (WP.ld s 0 rfl (o := 3) rfl (ZdZ _) ?_)
 refine WP.ite (fun h => WP.nilck (WP.ld s 0 rfl (o := 2) rfl (ZbK _) (WP.ret ⟨?_, s.closeX⟩))) (fun h => WP.nilck (WP.ld s 0 rfl (o := 2) rfl (ZbK _) (WP.ret ⟨?_, s.closeX⟩)))
 ·rw [if_pos h]
  simp only
  rw [Zau (by omega) (by omega)]
  omega
 ·rw [if_neg h]
  simp only
  rw [Zau (by omega) (by omega)]
  omega
def ZrO (W : World) (Hs : List HP) (b : Nat) (t : ByteArray) (x : Except Flt (Bool × S6)) (r : Bool × Option Addr) (w : World) : Prop :=
 match x with
 | .ok (y, st) => r = (y, none) ∧ Ss W (SixP b t st :: Hs) w
 | .error f => ∃ b', r.2 = some (pt b' 0) ∧ Ss W (pts true (pt b' 0) (flt f) :: Hs) w
theorem Zps {b : Nat} {t : ByteArray} {st : S6} (s : Ss W (SixP b t st :: Hs) w) (hg : st.gs.length ≤ 100) (ht : t.size ≤ 1000) (ha : st.at_ ≤ t.size) : WP (Zds (some (pt b 0))) w (ZrO W Hs b t (ZfJ (strI t) st)) := by
 obtain ⟨g, sp, s⟩ := s.openX
 have hl := (s.vec_len (i := 1) rfl).1
 rw [List.length_map] at hl
 unfold Zds ZfJ
 refine WP.draw' s (fun w s => WP.nilck (WP.ld s 0 rfl (o := 0) (by simp [Addr.add]) (ZcM _) (WP.nilck (WP.ld s 0 rfl (o := 1) rfl (Zc7 _) (WP.chk ⟨by simp only; omega, by simp only; omega, by omega⟩ (WP.step (ZpG _ _) ?_))))))
 rintro _ _ ⟨rfl, rfl⟩
 have hd : (strI (t.extract (Int.toNat (st.at_ : Int)) (Int.toNat (t.size : Int)))).take (Zsb).size = strI Zsb ↔ Zqj (strI t) st.at_ := by
  have e1 : (Zsb).size = 2 := by decide +kernel
  have e2 : strI Zsb = [58, 58] := by decide +kernel
  rw [e1, e2, Zd4, Int.toNat_natCast, Int.toNat_natCast]
  unfold Zqj
  rw [List.take_take]
  have e3 : ((strI t).drop st.at_).take (min 2 (t.size - st.at_)) = ((strI t).drop st.at_).take 2 := by
   by_cases h : 2 ≤ t.size - st.at_
   ·rw [Nat.min_eq_left h]
   ·rw [Nat.min_eq_right (by omega), List.take_of_length_le (by rw [List.length_drop, Zb4]; omega), List.take_of_length_le (by rw [List.length_drop, Zb4]; omega)]
  rw [e3]
 refine WP.ite (fun h => WP.ret ?_) (fun h => ?_)
 ·have : ¬ Zqj (strI t) st.at_ := fun h' => h (decide_eq_true (hd.2 h'))
  rw [if_pos this]
  exact ⟨rfl, s.closeX⟩
 have hdd : Zqj (strI t) st.at_ := hd.1 (of_decide_eq_true (Decidable.not_not.1 h))
 rw [if_neg (fun h' => h' hdd)]
 refine WP.nilck (WP.ld s 0 rfl (o := 3) rfl (ZdZ _) ?_)
 refine WP.step (R := fun y w' => y = decide (st.gap ≥ 0 ∨ st.gs.length = 8) ∧ w = w') (WP.ite (fun h => WP.ret ⟨(decide_eq_true (.inl h)).symm, rfl⟩) (fun h => WP.nilck (WP.ld s 0 rfl (o := 2) rfl (ZbK _) (WP.ret ⟨?_, rfl⟩)))) ?_
 ·rw [hl, Bool.eq_iff_iff, decide_eq_true_iff, beq_iff_eq]
  exact ⟨fun h' => .inr (by omega), fun h' => by have := h'.resolve_left h; omega⟩
 rintro _ _ ⟨rfl, rfl⟩
 refine WP.ite (fun h => WP.draw' s (fun w s => WP.nilck (WP.ld s 0 rfl (o := 1) rfl (Zc7 _) (WP.newv s (fun b' w s => WP.ret ?_))))) (fun h => ?_)
 ·rw [if_pos (of_decide_eq_true h)]
  exact ⟨b', rfl, (s.use [0] (s := [_]) (r := _ :: _ :: Hs) rfl).perm (List.Perm.refl _) |> fun s => ((s.use [1, 1] (s := [_, _]) (r := _ :: Hs) rfl).drop.drop)⟩
 ·have hn : ¬ (st.gap ≥ 0 ∨ st.gs.length = 8) := fun h' => h (decide_eq_true h')
  rw [if_neg hn]
  refine WP.nilck (WP.ld s 0 rfl (o := 2) rfl (ZbK _) (WP.nilck (WP.st s 0 rfl (o := 3) rfl (Zi3 _ _) (fun w s => WP.nilck (WP.ld s 0 rfl (o := 1) rfl (Zc7 _) (WP.nilck (WP.st s 0 rfl (o := 1) rfl (Zg2 _ _) (fun w s => WP.ret ?_))))))))
  refine ⟨rfl, Ss.closeX (g := g) (sp := sp) ?_⟩
  have e1 : IntKind.wrap .i64 ((st.at_ : Int) + 2) = ((st.at_ + 2 : Nat) : Int) := by
   rw [Zau (by omega) (by omega)]
   simp
  rw [e1, hl] at s
  exact s
end
theorem Zot {l : List Int} : ∀ (k i : Nat) (acc a : List Nat) (e : Nat), i ≤ l.length → (∀ n ∈ acc, n ≤ 255) → Zjt l k i acc = .ok (a, e) → a.length = acc.length + k ∧ (∀ n ∈ a, n ≤ 255) ∧ i ≤ e ∧ e ≤ l.length
 | 0, i, acc, a, e, hi, hacc, h => by
  cases h
  exact ⟨rfl, hacc, Nat.le_refl _, hi⟩
 | k + 1, i, acc, a, e, hi, hacc, h => by
  unfold Zjt at h
  cases hs : sepM l i acc.isEmpty with
  | error f => rw [hs] at h; cases h
  | ok j =>
   have hj : i ≤ j ∧ j ≤ l.length := by
    unfold sepM at hs
    split at hs
    ·cases hs; omega
    ·split at hs
     ·cases hs
     ·rename_i h2
      cases hs
      have : ¬ i = l.length := fun h' => h2 (.inl h')
      omega
   rw [hs] at h
   simp only at h
   cases hn : numM l j 255 43 with
   | error f => rw [hn] at h; cases h
   | ok x =>
    obtain ⟨n, e'⟩ := x
    rw [hn] at h
    simp only at h
    obtain ⟨o1, o2, o3⟩ := Zoj hn hj.2
    obtain ⟨p1, p2, p3, p4⟩ := Zot k e' (acc ++ [n]) a e o3 (fun m hm => by
     rcases List.mem_append.1 hm with hm | hm
     ·exact hacc m hm
     ·rw [List.mem_singleton] at hm
      omega) h
    refine ⟨?_, p2, by omega, p4⟩
    rw [p1, List.length_append]
    simp only [List.length_cons, List.length_nil]
    omega
theorem Zl6 {l : List Int} {i : Nat} {a : List Nat} (hi : i ≤ l.length) (h : Zix l i = .ok a) : a.length = 4 ∧ ∀ n ∈ a, n ≤ 255 := by
 unfold Zix at h
 cases hf : Zjt l 4 i [] with
 | error f => rw [hf] at h; cases h
 | ok x =>
  obtain ⟨b, e⟩ := x
  rw [hf] at h
  simp only at h
  split at h
  ·cases h
  ·cases h
   obtain ⟨p1, p2, _, _⟩ := Zot 4 i [] _ _ hi (fun n hn => by cases hn) hf
   exact ⟨p1, p2⟩
theorem ZmK (l : List Int) (c : Int) : hexN (l ++ [c]) = hexN l * 16 % 1048576 + (hexV c).toNat := by
 unfold hexN
 rw [List.foldl_append]
 rfl
theorem Zqe (c : Int) : -1 ≤ hexV c ∧ hexV c ≤ 15 := by
 unfold hexV
 split
 ·omega
 ·split
  ·omega
  ·split <;> omega
theorem ZvA (l : List Int) : hexN l < 1048576 := by
 rcases List.eq_nil_or_concat l with rfl | ⟨l', c, rfl⟩
 ·decide
 ·rw [List.concat_eq_append, ZmK]
  have := Zqe c
  omega
theorem ZwB (n : Nat) (h : n < 1000000000) : band .i64 (n : Int) 1048575 = ((n % 1048576 : Nat) : Int) := by
 have e : (BitVec.ofInt 64 (n : Int) &&& BitVec.ofInt 64 1048575).toNat = n % 1048576 := by
  rw [BitVec.toNat_and, BitVec.toNat_ofInt, BitVec.toNat_ofInt]
  have h1 : (((n : Int) % ((2 ^ 64 : Nat) : Int)).toNat) = n := by omega
  have h2 : (((1048575 : Int) % ((2 ^ 64 : Nat) : Int)).toNat) = 2 ^ 20 - 1 := by decide
  rw [h1, h2, Nat.and_two_pow_sub_one_eq_mod]
 show IntKind.wrap .i64 (((BitVec.ofInt 64 (n : Int) &&& BitVec.ofInt 64 1048575).toNat : Nat) : Int) = _
 rw [e]
 exact Zau (by omega) (by omega)
theorem ZwW (x y : Nat) (hx : x < 1000000000) (hy : y < 16) : bor .i64 ((16 * x : Nat) : Int) (y : Int) = ((16 * x + y : Nat) : Int) := by
 have e : (BitVec.ofInt 64 ((16 * x : Nat) : Int) ||| BitVec.ofInt 64 (y : Int)).toNat = 16 * x + y := by
  rw [BitVec.toNat_or, BitVec.toNat_ofInt, BitVec.toNat_ofInt]
  have h1 : ((((16 * x : Nat) : Int) % ((2 ^ 64 : Nat) : Int)).toNat) = x <<< 4 := by
   rw [Nat.shiftLeft_eq]
   omega
  have h2 : (((y : Int) % ((2 ^ 64 : Nat) : Int)).toNat) = y := by omega
  rw [h1, h2, ← Nat.shiftLeft_add_eq_or_of_lt (by omega), Nat.shiftLeft_eq]
  omega
 show IntKind.wrap .i64 (((BitVec.ofInt 64 ((16 * x : Nat) : Int) ||| BitVec.ofInt 64 (y : Int)).toNat : Nat) : Int) = _
 rw [e]
 exact Zau (by omega) (by omega)
section
variable {W w : World} {Hs : List HP}
theorem Zus {b : Nat} {t : ByteArray} {st : S6} (s : Ss W (SixP b t st :: Hs) w) (hg : st.gs.length ≤ 100) (ht : t.size ≤ 1000) (ha : st.at_ ≤ t.size) : WP (ZaR (some (pt b 0))) w (ZrO W Hs b t (ZiQ (strI t) st)) := by
 have hl := Zb4 t
 obtain ⟨r1, r2⟩ := Zmr (p := Zkt) (l := strI t) (i := st.at_) (by omega)
 obtain ⟨g, sp, s⟩ := s.openX
 unfold ZaR
 refine WP.nilck (WP.ld s 0 rfl (o := 1) rfl (Zc7 _) ?_)
 refine WP.loopG (γ := Nat) (fun k (p : Int × Int) w => p = ((hexN (((strI t).drop st.at_).take (k - st.at_)) : Int), (k : Int)) ∧ st.at_ ≤ k ∧ k ≤ runE Zkt (strI t) st.at_ ∧ Ss W (Znx b t g st sp ++ Hs) w) (fun k _ => t.size - k) st.at_ ⟨by simp [hexN], Nat.le_refl _, r1, s⟩ ?_
 clear s
 rintro k _ w ⟨rfl, k1, k2, s⟩
 show WP (ZaR.L1 (some (pt b 0)) (st.at_ : Int) (hexN (((strI t).drop st.at_).take (k - st.at_)) : Int) (k : Int)) w _
 unfold ZaR.L1
 have hgo := Zof k1 k2
 rw [hl] at hgo
 refine WP.nilck (WP.ld s 0 rfl (o := 0) (by simp [Addr.add]) (ZcM _) ?_)
 refine WP.step (R := fun y w' => y = decide (k < runE Zkt (strI t) st.at_) ∧ w = w') (WP.ite (fun h => WP.nilck (WP.ld s 0 rfl (o := 0) (by simp [Addr.add]) (ZcM _) (WP.chk ⟨by omega, h⟩ (WP.step (Zs2 _) ?_)))) (fun h => WP.ret ⟨?_, rfl⟩)) ?_
 ·rintro _ _ ⟨rfl, rfl⟩
  have h : (k : Int) < (t.size : Int) := h
  refine WP.ret ⟨?_, rfl⟩
  rw [ZfU, Bool.eq_iff_iff, decide_eq_true_iff, decide_eq_true_iff, ← hgo]
  exact ⟨fun h' => ⟨by omega, decide_eq_true h'⟩, fun h' => of_decide_eq_true h'.2⟩
 ·have h : ¬ (k : Int) < (t.size : Int) := h
  refine (decide_eq_false fun h' => ?_).symm
  have := hgo.2 h'
  omega
 rintro _ _ ⟨rfl, rfl⟩
 refine WP.ite (fun h => ?_) (fun h => ?_)
 ·have hk := of_decide_eq_true h
  have hh := hgo.2 hk
  refine WP.nilck (WP.ld s 0 rfl (o := 0) (by simp [Addr.add]) (ZcM _) (WP.chk ⟨by omega, by simp only; omega⟩ (WP.step (Zs2 _) ?_)))
  rintro _ _ ⟨rfl, rfl⟩
  have hv := of_decide_eq_true hh.2
  have htk : ((strI t).drop st.at_).take (k + 1 - st.at_) = ((strI t).drop st.at_).take (k - st.at_) ++ [(strI t).getD k 0] := by
   rw [show k + 1 - st.at_ = (k - st.at_) + 1 by omega, List.take_add_one, List.getElem?_drop, show st.at_ + (k - st.at_) = k by omega, List.getD, List.getElem?_eq_getElem (by omega)]
   rfl
  refine WP.next ⟨k + 1, ⟨?_, by omega, by omega, s⟩, by omega⟩
  rw [htk, ZmK, ZfU]
  have hN := ZvA (((strI t).drop st.at_).take (k - st.at_))
  have hx := Zqe ((strI t).getD k 0)
  generalize hexN (((strI t).drop st.at_).take (k - st.at_)) = N at hN
  generalize hexV ((strI t).getD k 0) = x at hv hx
  have e1 : IntKind.wrap .i64 ((N : Int) * 2 ^ 4) = ((N * 16 : Nat) : Int) := by
   rw [Zau (by omega) (by omega)]
   omega
  have e2 : N * 16 % 1048576 = 16 * (N % 65536) := by omega
  have e3 := ZwW (N % 65536) x.toNat (by omega) (by omega)
  rw [e1, ZwB _ (by omega), e2, show x = ((x.toNat : Nat) : Int) by omega, e3, Zau (by omega) (by omega)]
  refine Prod.ext ?_ ?_
  ·simp
  ·simp
 have hk : k = runE Zkt (strI t) st.at_ := by
  have : ¬ k < runE Zkt (strI t) st.at_ := fun h' => h (decide_eq_true h')
  omega
 refine WP.step ?_ (fun r w h => WP.done h)
 unfold ZaR.K1 ZiQ
 rw [← hk]
 have hgl := (s.vec_len (i := 1) rfl).1
 rw [List.length_map] at hgl
 refine WP.ite (fun h => ?_) (fun h => ?_)
 ·rw [if_pos (by omega)]
  refine WP.nilck (WP.ld s 0 rfl (o := 0) (by simp [Addr.add]) (ZcM _) (WP.step (Zk6 s t st.at_) ?_))
  rintro _ w ⟨b', rfl, s⟩
  exact WP.ret ⟨b', rfl, (s.use [1, 1] (s := [_, _]) (r := _ :: Hs) rfl).drop.drop⟩
 have hne : ¬ k = st.at_ := by omega
 rw [if_neg hne]
 refine WP.nilck (WP.ld s 0 rfl (o := 0) (by simp [Addr.add]) (ZcM _) ?_)
 refine WP.step (R := fun y w' => y = decide (k < (strI t).length ∧ (strI t).getD k 0 = 46) ∧ w = w') (WP.ite (fun h => WP.nilck (WP.ld s 0 rfl (o := 0) (by simp [Addr.add]) (ZcM _) (WP.chk ⟨by omega, h⟩ (WP.ret ⟨?_, rfl⟩)))) (fun h => WP.ret ⟨?_, rfl⟩)) ?_
 ·have h : (k : Int) < (t.size : Int) := h
  rw [ZfU, Bool.eq_iff_iff, decide_eq_true_iff, beq_iff_eq]
  exact ⟨fun h' => ⟨by omega, h'⟩, fun h' => h'.2⟩
 ·have h : ¬ (k : Int) < (t.size : Int) := h
  exact (decide_eq_false fun h' => by omega).symm
 rintro _ _ ⟨rfl, rfl⟩
 refine WP.step (R := fun y w' => y = decide (k < (strI t).length ∧ (strI t).getD k 0 = 46 ∧ (st.gs ≠ [] ∨ st.gap ≥ 0)) ∧ w = w') (WP.ite (fun h1 => WP.nilck (WP.ld s 0 rfl (o := 2) rfl (ZbK _) ?_)) (fun h1 => WP.ret ⟨?_, rfl⟩)) ?_
 ·have h1 := of_decide_eq_true h1
  refine WP.step (R := fun y w' => y = decide (k < (strI t).length ∧ (strI t).getD k 0 = 46 ∧ (st.gs ≠ [] ∨ st.gap ≥ 0)) ∧ w = w') (WP.ite (fun h2 => WP.ret ⟨?_, rfl⟩) (fun h2 => WP.nilck (WP.ld s 0 rfl (o := 3) rfl (ZdZ _) (WP.ret ⟨?_, rfl⟩)))) (fun r w h => WP.ret h)
  ·have h2 : (g.len : Int) > 0 := h2
   refine (decide_eq_true ⟨h1.1, h1.2, .inl fun e => ?_⟩).symm
   rw [e] at hgl
   simp at hgl
   omega
  ·have h2 : ¬ (g.len : Int) > 0 := h2
   have e : st.gs = [] := List.eq_nil_of_length_eq_zero (by omega)
   exact decide_eq_decide.2 ⟨fun h' => ⟨h1.1, h1.2, .inr h'⟩, fun h' => h'.2.2.resolve_left (fun h3 => h3 e)⟩
 ·exact (decide_eq_false fun h' => h1 (decide_eq_true ⟨h'.1, h'.2.1⟩)).symm
 rintro _ _ ⟨rfl, rfl⟩
 have newf : ∀ {w : World} (f : Flt) (y : Bool), Ss W (SixP b t st :: Hs) w → WP (newv 225 ZbG (⟨f.1, (f.2 : Int)⟩ : Zb5) >>= fun b' => pure (y, some (pt b' 0))) w (ZrO W Hs b t (.error f)) := fun f y s =>
  WP.newv s (fun b' w s => WP.ret ⟨b', rfl, (s.use [1] (s := [_]) (r := _ :: Hs) rfl).drop⟩)
 refine WP.ite (fun h => ?_) (fun h => ?_)
 ·rw [if_pos (of_decide_eq_true h)]
  refine WP.step (Zsh s.closeX hg) ?_
  rintro _ w ⟨rfl, s⟩
  refine WP.ite (fun h => ?_) (fun h => ?_)
  ·rw [if_pos h]
   exact newf (44, st.at_) false s
  rw [if_neg h]
  obtain ⟨g, sp, s⟩ := s.openX
  refine WP.nilck (WP.ld s 0 rfl (o := 0) (by simp [Addr.add]) (ZcM _) (WP.step (Zs8 s t ht st.at_ (by omega)) ?_))
  rintro ⟨v, p⟩ w hr
  unfold ZtC at hr
  cases hfm : Zix (strI t) st.at_ with
  | error f =>
   rw [hfm] at hr
   obtain ⟨b', rfl, s⟩ := hr
   have s : Ss W (pts true (pt b' 0) (flt f) :: (Znx b t g st sp ++ Hs)) w := s
   refine WP.slot' s (fun _ w s => WP.draw' s (fun w s => WP.nilck (WP.ld s 1 rfl (o := 2) rfl (ZbK _) (WP.slot' s (fun _ w s => WP.same s 1 rfl (o := 2) rfl (ZbK _) ?_)))))
   refine WP.appl s 2 rfl (by simp only [List.length_map, List.length_cons, List.length_nil]; omega) (by decide) (fun g' w sp' s => WP.nilck ?_)
   refine WP.st s 1 rfl (o := 2) rfl (Zf4 _ _) (fun w s => WP.ret ⟨b', rfl, ?_⟩)
   exact (s.use [1, 1] (s := [_, _]) (r := _ :: Hs) rfl).drop.drop
  | ok a =>
   rw [hfm] at hr
   obtain ⟨hv, rfl, s⟩ := hr
   obtain ⟨a4, a5⟩ := Zl6 (by omega) hfm
   obtain ⟨n1, n2, n3, n4, rfl⟩ : ∃ n1 n2 n3 n4, a = [n1, n2, n3, n4] := by
    match a, a4 with
    | [n1, n2, n3, n4], _ => exact ⟨n1, n2, n3, n4, rfl⟩
   have b1 := a5 n1 (by simp)
   have b2 := a5 n2 (by simp)
   have b3 := a5 n3 (by simp)
   have b4 := a5 n4 (by simp)
   have g0 : Vec.g v 0 0 = (n1 : Int) := by show v.l.getD 0 0 = _; rw [hv]; rfl
   have g1 : Vec.g v 1 0 = (n2 : Int) := by show v.l.getD 1 0 = _; rw [hv]; rfl
   have g2 : Vec.g v 2 0 = (n3 : Int) := by show v.l.getD 2 0 = _; rw [hv]; rfl
   have g3 : Vec.g v 3 0 = (n4 : Int) := by show v.l.getD 3 0 = _; rw [hv]; rfl
   simp only
   rw [g0, g1, g2, g3, Zq5 n1 n2 (by omega) (by omega), Zq5 n3 n4 (by omega) (by omega)]
   refine WP.slot' s (fun _ w s => WP.draw' s (fun w s => WP.nilck (WP.ld s 0 rfl (o := 2) rfl (ZbK _) (WP.slot' s (fun _ w s => WP.same s 0 rfl (o := 2) rfl (ZbK _) ?_)))))
   refine WP.appl s 1 rfl (by simp only [List.length_map, List.length_cons, List.length_nil]; omega) (by decide) (fun g' w sp' s => WP.nilck ?_)
   refine WP.st s 0 rfl (o := 2) rfl (Zf4 _ _) (fun w s => WP.ret ⟨rfl, ?_⟩)
   refine Ss.closeX (g := g') (sp := sp') ?_
   unfold Znx
   rw [List.map_append]
   exact s
 ·rw [if_neg (fun h' => h (decide_eq_true h'))]
  refine WP.step (Zsh s.closeX hg) ?_
  rintro _ w ⟨rfl, s⟩
  refine WP.ite (fun h => ?_) (fun h => ?_)
  ·rw [if_pos h]
   exact newf (44, st.at_) false s
  rw [if_neg h]
  have ew : IntKind.wrap .i64 ((k : Int) - (st.at_ : Int)) = ((k - st.at_ : Nat) : Int) := by
   rw [Zau (by omega) (by omega)]
   omega
  rw [ew]
  refine WP.ite (fun h => ?_) (fun h => ?_)
  ·rw [if_pos (by omega)]
   exact newf (43, st.at_) false s
  rw [if_neg (by omega)]
  obtain ⟨g, sp, s⟩ := s.openX
  refine WP.nilck (WP.ld s 0 rfl (o := 2) rfl (ZbK _) (WP.slot' s (fun _ w s => ?_)))
  refine WP.appl s 1 rfl (by simp only [List.length_map, List.length_cons, List.length_nil]; omega) (by decide) (fun g' w sp' s => WP.nilck ?_)
  refine WP.st s 0 rfl (o := 2) rfl (Zf4 _ _) (fun w s => WP.nilck ?_)
  refine WP.st s 0 rfl (o := 1) rfl (Zg2 _ _) (fun w s => WP.ret ⟨rfl, ?_⟩)
  refine Ss.closeX (g := g') (sp := sp') ?_
  unfold Znx
  rw [List.map_append]
  exact s
end
def Zha (l : List Int) : Nat → Bool → S6 → Except Flt S6
 | 0, _, _ => .error (0, 0)
 | f + 1, op, st => if st.at_ = l.length ∧ op = true then .ok st else match ZiQ l st with
  | .error e => .error e
  | .ok (done, st1) => if done = true ∨ st1.at_ = l.length then (if st1.gap < 0 ∧ st1.gs.length ≠ 8 then .error (42, l.length) else .ok st1) else match ZfJ l st1 with
   | .error e => .error e
   | .ok (y, st2) => if y = true then Zha l f true st2 else if l.getD st2.at_ 0 ≠ 58 then .error (41, st2.at_) else Zha l f false ⟨st2.at_ + 1, st2.gs, st2.gap⟩
def Znr (l : List Int) : Except Flt S6 := match ZfJ l ⟨0, [], -1⟩ with
 | .error e => .error e
 | .ok (_, st) => Zha l (l.length + 1) (decide (st.gap ≥ 0)) st
structure Ok6 (l : List Int) (st : S6) : Prop where
 a : st.at_ ≤ l.length
 g : st.gs.length ≤ 8
 p1 : -1 ≤ st.gap
 p2 : st.gap ≤ st.gs.length
 p3 : 0 ≤ st.gap → st.gs.length ≤ 7
 v : ∀ x ∈ st.gs, x < 65536
theorem Zup {l : List Int} (h : ∀ c ∈ l, Zkt c = true) (k : Nat) (hk : l.length ≤ k) (h5 : k ≤ 4) : hexN l < 16 ^ k := by
 induction k generalizing l with
 | zero =>
  have : l = [] := List.eq_nil_of_length_eq_zero (by omega)
  subst this
  decide
 | succ k ih =>
  rcases List.eq_nil_or_concat l with rfl | ⟨l', c, rfl⟩
  ·exact Nat.pow_pos (by omega)
  ·rw [List.concat_eq_append] at h hk ⊢
   rw [ZmK, Nat.pow_succ]
   have h1 := ih (l := l') (fun c hc => h c (by simp [hc])) (by simp at hk; omega) (by omega)
   have h2 := Zqe c
   have h3 : 16 ^ k ≤ 16 ^ 3 := Nat.pow_le_pow_right (by omega) (by omega)
   omega
theorem ZmN {l : List Int} {st st1 : S6} {y : Bool} (ok : Ok6 l st) (h : ZiQ l st = .ok (y, st1)) : Ok6 l st1 ∧ st1.gap = st.gap ∧ (y = false → st.at_ < st1.at_) := by
 obtain ⟨r1, r2⟩ := Zmr (p := Zkt) ok.a
 have hp := ok.p3
 unfold ZiQ at h
 split at h
 ·cases h
 ·rename_i hne
  split at h
  ·split at h
   ·cases h
   ·rename_i hroom
    have hlen : st.gs.length + 2 ≤ 8 ∧ (0 ≤ st.gap → st.gs.length + 2 ≤ 7) := by
     unfold S6.room at hroom
     split at hroom <;> omega
    cases hf : Zix l st.at_ with
    | error f => rw [hf] at h; cases h
    | ok a =>
     rw [hf] at h
     simp only [Except.ok.injEq, Prod.mk.injEq] at h
     obtain ⟨rfl, rfl⟩ := h
     obtain ⟨a4, a5⟩ := Zl6 ok.a hf
     obtain ⟨n1, n2, n3, n4, rfl⟩ : ∃ n1 n2 n3 n4, a = [n1, n2, n3, n4] := by
      match a, a4 with
      | [n1, n2, n3, n4], _ => exact ⟨n1, n2, n3, n4, rfl⟩
     have b1 := a5 n1 (by simp)
     have b2 := a5 n2 (by simp)
     have b3 := a5 n3 (by simp)
     have b4 := a5 n4 (by simp)
     refine ⟨⟨ok.a, by simp [ZsD]; omega, ok.p1, by simp [ZsD]; have := ok.p2; omega, fun h => by simp [ZsD]; have := hlen.2 h; omega, fun x hx => ?_⟩, rfl, fun h => by cases h⟩
     rcases List.mem_append.1 hx with hx | hx
     ·exact ok.v x hx
     ·simp only [ZsD, List.mem_cons, List.not_mem_nil, or_false] at hx
      omega
  ·split at h
   ·cases h
   ·rename_i hroom
    have hlen : st.gs.length + 1 ≤ 8 ∧ (0 ≤ st.gap → st.gs.length + 1 ≤ 7) := by
     unfold S6.room at hroom
     split at hroom <;> omega
    split at h
    ·cases h
    ·rename_i h4
     simp only [Except.ok.injEq, Prod.mk.injEq] at h
     obtain ⟨rfl, rfl⟩ := h
     refine ⟨⟨r2, by simp; omega, ok.p1, by simp; have := ok.p2; omega, fun h => by simp; have := hlen.2 h; omega, fun x hx => ?_⟩, rfl, fun _ => by simp only; omega⟩
     rcases List.mem_append.1 hx with hx | hx
     ·exact ok.v x hx
     ·rw [List.mem_singleton] at hx
      subst hx
      refine Zup (k := 4) (fun c hc => ?_) (by rw [List.length_take]; omega) (by omega)
      obtain ⟨j, hj, rfl⟩ := List.mem_iff_getElem.1 hc
      rw [List.length_take, List.length_drop] at hj
      rw [List.getElem_take, List.getElem_drop]
      have := Zl1 (p := Zkt) (l := l) (i := st.at_) (k := st.at_ + j) (by omega) (by omega)
      rw [List.getD, List.getElem?_eq_getElem (by omega)] at this
      exact this
theorem ZgQ {l : List Int} {st st1 : S6} {y : Bool} (ok : Ok6 l st) (h : ZfJ l st = .ok (y, st1)) : Ok6 l st1 ∧ (y = false → st1 = st) ∧ (y = true → st1.at_ = st.at_ + 2 ∧ 0 ≤ st1.gap) := by
 unfold ZfJ at h
 split at h
 ·simp only [Except.ok.injEq, Prod.mk.injEq] at h
  obtain ⟨rfl, rfl⟩ := h
  exact ⟨ok, fun _ => rfl, fun h => by cases h⟩
 ·rename_i hd
  split at h
  ·cases h
  ·rename_i hg
   simp only [Except.ok.injEq, Prod.mk.injEq] at h
   obtain ⟨rfl, rfl⟩ := h
   have hd := Decidable.not_not.1 hd
   unfold Zqj at hd
   have hlen := congrArg List.length hd
   rw [List.length_take, List.length_drop] at hlen
   simp only [List.length_cons, List.length_nil] at hlen
   have := ok.g
   refine ⟨⟨by simp only; omega, ok.g, by simp only; omega, by simp, fun _ => by simp only; omega, ok.v⟩, (fun h => by cases h), (fun _ => ⟨rfl, by simp⟩)⟩
theorem Zk3 {l : List Int} {f : Nat} {op y done : Bool} {st st1 st2 : S6} (h : ¬ (st.at_ = l.length ∧ op = true)) (hg : ZiQ l st = .ok (done, st1)) (hn : ¬ (done = true ∨ st1.at_ = l.length)) (hd : ZfJ l st1 = .ok (y, st2)) :
  Zha l (f + 1) op st = if y = true then Zha l f true st2 else if l.getD st2.at_ 0 ≠ 58 then .error (41, st2.at_) else Zha l f false ⟨st2.at_ + 1, st2.gs, st2.gap⟩ := by
 conv => lhs; unfold Zha
 rw [if_neg h, hg]
 show (if done = true ∨ st1.at_ = l.length then _ else _) = _
 rw [if_neg hn, hd]
section
variable {W w : World} {Hs : List HP}
def ZvW (W : World) (Hs : List HP) (b : Nat) (t : ByteArray) (x : Except Flt S6) (r : Option Addr) (w : World) : Prop :=
 match x with
 | .ok st => r = none ∧ Ss W (SixP b t st :: Hs) w
 | .error f => ∃ b', r = some (pt b' 0) ∧ Ss W (pts true (pt b' 0) (flt f) :: Hs) w
theorem Zvj {b : Nat} {t : ByteArray} (s : Ss W (SixP b t ⟨0, [], -1⟩ :: Hs) w) (ht : t.size ≤ 1000) : WP (Zby (some (pt b 0))) w (ZvW W Hs b t (Znr (strI t))) := by
 have hl := Zb4 t
 have ok0 : Ok6 (strI t) ⟨0, [], -1⟩ := ⟨by simp, by simp, by simp, by simp, fun h => by simp, fun x h => by cases h⟩
 unfold Zby
 refine WP.step (Zps s (by simp) ht (by simp)) ?_
 intro r w hr
 unfold ZrO at hr
 unfold Znr
 cases hd : ZfJ (strI t) ⟨0, [], -1⟩ with
 | error f =>
  rw [hd] at hr
  obtain ⟨b', hr2, s⟩ := hr
  refine WP.ite (fun _ => WP.ret ⟨b', hr2, s⟩) (fun h => absurd (by rw [hr2]; simp) h)
 | ok x =>
  obtain ⟨y, st0⟩ := x
  rw [hd] at hr
  obtain ⟨rfl, s⟩ := hr
  obtain ⟨ok1, -, -⟩ := ZgQ ok0 hd
  refine WP.ite (fun h => absurd rfl h) (fun _ => ?_)
  obtain ⟨g, sp, s⟩ := s.openX
  refine WP.nilck (WP.ld s 0 rfl (o := 3) rfl (ZdZ _) ?_)
  simp only
  generalize hX : Zha (strI t) ((strI t).length + 1) (decide (st0.gap ≥ 0)) st0 = X
  refine WP.loopG (γ := Nat × S6) (fun q (op : Bool) w => Ok6 (strI t) q.2 ∧ (strI t).length - q.2.at_ < q.1 ∧ Zha (strI t) q.1 op q.2 = X ∧ Ss W (SixP b t q.2 :: Hs) w) (fun q _ => q.1) ((strI t).length + 1, st0) ⟨ok1, by omega, hX, s.closeX⟩ ?_
  clear s hX
  rintro ⟨f, st⟩ op w ⟨ok, hf, hF, s⟩
  simp only at ok hf hF s
  show WP (Zby.L1 (some (pt b 0)) op) w _
  obtain ⟨f, rfl⟩ : ∃ f', f = f' + 1 := ⟨f - 1, by omega⟩
  have fin : ∀ {e : Except Flt S6} {r : Option Addr} {w : World}, Zha (strI t) (f + 1) op st = e → ZvW W Hs b t e r w → ZvW W Hs b t X r w := fun h1 h2 => by
   rw [← hF, h1]
   exact h2
  have oka := ok.a
  have okg := ok.g
  unfold Zby.L1
  obtain ⟨g, sp, s⟩ := s.openX
  refine WP.draw' s (fun w s => WP.nilck (WP.ld s 0 rfl (o := 1) rfl (Zc7 _) (WP.nilck (WP.ld s 0 rfl (o := 0) (by simp [Addr.add]) (ZcM _) ?_))))
  refine WP.step (R := fun y w' => y = decide (st.at_ = (strI t).length ∧ op = true) ∧ w = w') (WP.ite (fun h => WP.ret ⟨?_, rfl⟩) (fun h => WP.ret ⟨?_, rfl⟩)) ?_
  ·have h : (st.at_ : Int) = (t.size : Int) := h
   rw [Bool.eq_iff_iff, decide_eq_true_iff]
   exact ⟨fun h' => ⟨by omega, h'⟩, fun h' => h'.2⟩
  ·have h : ¬ (st.at_ : Int) = (t.size : Int) := h
   exact (decide_eq_false fun h' => h (by omega)).symm
  rintro _ _ ⟨rfl, rfl⟩
  refine WP.ite (fun h => WP.done (fin (e := .ok st) ?_ ⟨rfl, s.closeX⟩)) (fun h => ?_)
  ·unfold Zha
   rw [if_pos (of_decide_eq_true h)]
  have hno : ¬ (st.at_ = (strI t).length ∧ op = true) := fun h' => h (decide_eq_true h')
  refine WP.step (Zus s.closeX (by omega) ht (by omega)) ?_
  intro r w hr
  unfold ZrO at hr
  cases hgm : ZiQ (strI t) st with
  | error e =>
   rw [hgm] at hr
   obtain ⟨b', hr2, s⟩ := hr
   exact WP.ite (fun _ => WP.done (fin (e := .error e) (by unfold Zha; rw [if_neg hno, hgm]) ⟨b', hr2, s⟩)) (fun h => absurd (by rw [hr2]; simp) h)
  | ok x =>
   obtain ⟨done, st1⟩ := x
   rw [hgm] at hr
   obtain ⟨rfl, s⟩ := hr
   obtain ⟨k1, k2, k3⟩ := ZmN ok hgm
   have k1a := k1.a
   have k1g := k1.g
   obtain ⟨g, sp, s⟩ := s.openX
   have hgl := (s.vec_len (i := 1) rfl).1
   rw [List.length_map] at hgl
   refine WP.ite (fun h => absurd rfl h) (fun _ => WP.draw' s (fun w s => ?_))
   simp only
   refine WP.step (R := fun y w' => y = decide (done = true ∨ st1.at_ = (strI t).length) ∧ w = w') (WP.ite (fun h => WP.ret ⟨(decide_eq_true (.inl h)).symm, rfl⟩) (fun h => WP.nilck (WP.ld s 0 rfl (o := 1) rfl (Zc7 _) (WP.nilck (WP.ld s 0 rfl (o := 0) (by simp [Addr.add]) (ZcM _) (WP.ret ⟨?_, rfl⟩)))))) ?_
   ·rw [Bool.eq_iff_iff, decide_eq_true_iff, beq_iff_eq]
    simp only
    exact ⟨fun h' => .inr (by omega), fun h' => by have := h'.resolve_left h; omega⟩
   rintro _ _ ⟨rfl, rfl⟩
   refine WP.ite (fun h => ?_) (fun h => ?_)
   ·have e0 : Zha (strI t) (f + 1) op st = if st1.gap < 0 ∧ st1.gs.length ≠ 8 then .error (42, (strI t).length) else .ok st1 := by
     unfold Zha
     rw [if_neg hno, hgm]
     show (if done = true ∨ st1.at_ = (strI t).length then _ else _) = _
     rw [if_pos (of_decide_eq_true h)]
    refine WP.nilck (WP.ld s 0 rfl (o := 3) rfl (ZdZ _) ?_)
    simp only
    refine WP.step (R := fun y w' => y = decide (st1.gap < 0 ∧ st1.gs.length ≠ 8) ∧ w = w') (WP.ite (fun h => WP.nilck (WP.ld s 0 rfl (o := 2) rfl (ZbK _) (WP.ret ⟨?_, rfl⟩))) (fun h => WP.ret ⟨(decide_eq_false fun h' => h h'.1).symm, rfl⟩)) ?_
    ·rw [Bool.eq_iff_iff, decide_eq_true_iff, bne_iff_ne]
     simp only
     exact ⟨fun h' => ⟨h, by omega⟩, fun h' => by have := h'.2; omega⟩
    rintro _ _ ⟨rfl, rfl⟩
    refine WP.ite (fun h => WP.nilck (WP.ld s 0 rfl (o := 0) (by simp [Addr.add]) (ZcM _) (WP.newv s (fun b' w s => WP.done ?_)))) (fun h => WP.done ?_)
    ·rw [if_pos (of_decide_eq_true h)] at e0
     refine fin e0 ⟨b', rfl, ?_⟩
     rw [hl]
     exact (s.use [1, 1] (s := [_, _]) (r := _ :: Hs) rfl).drop.drop
    ·rw [if_neg (fun h' => h (decide_eq_true h'))] at e0
     exact fin e0 ⟨rfl, s.closeX⟩
   ·have hn : ¬ (done = true ∨ st1.at_ = (strI t).length) := fun h' => h (decide_eq_true h')
    have hdone : done = false := by
     cases done with
     | false => rfl
     | true => exact absurd (.inl rfl) hn
    have hat1 := k3 hdone
    have hne1 : st1.at_ ≠ (strI t).length := fun h' => hn (.inr h')
    refine WP.step (Zps s.closeX (by omega) ht (by omega)) ?_
    intro r w hr
    unfold ZrO at hr
    cases hdm : ZfJ (strI t) st1 with
    | error e =>
     rw [hdm] at hr
     obtain ⟨b', hr2, s⟩ := hr
     have e0 : Zha (strI t) (f + 1) op st = .error e := by
      unfold Zha
      rw [if_neg hno, hgm]
      show (if done = true ∨ st1.at_ = (strI t).length then _ else _) = _
      rw [if_neg hn, hdm]
     exact WP.ite (fun _ => WP.done (fin e0 ⟨b', hr2, s⟩)) (fun h => absurd (by rw [hr2]; simp) h)
    | ok x =>
     obtain ⟨y, st2⟩ := x
     rw [hdm] at hr
     obtain ⟨rfl, s5⟩ := hr
     obtain ⟨m1, m2, m3⟩ := ZgQ k1 hdm
     refine WP.ite (fun h => absurd rfl h) (fun _ => ?_)
     simp only
     cases y with
     | true =>
      have m3 := m3 rfl
      refine WP.ite (fun h => absurd rfl h) (fun _ => WP.next ⟨(f, st2), ⟨m1, by simp only; omega, ?_, s5⟩, by simp only; omega⟩)
      simp only
      rw [← hF, Zk3 hno hgm hn hdm]
      rfl
     | false =>
      have m2 := m2 rfl
      subst m2
      obtain ⟨g, sp, s⟩ := s5.openX
      refine WP.ite (fun _ => WP.draw' s (fun w s => WP.nilck (WP.ld s 0 rfl (o := 0) (by simp [Addr.add]) (ZcM _) (WP.nilck (WP.ld s 0 rfl (o := 1) rfl (Zc7 _) (WP.chk ⟨by simp only; omega, by simp only; omega⟩ ?_)))))) (fun h => absurd (by simp) h)
      simp only
      rw [ZfU]
      refine WP.ite (fun h => WP.nilck (WP.ld s 0 rfl (o := 1) rfl (Zc7 _) (WP.newv s (fun b' w s => WP.done ?_)))) (fun h => ?_)
      ·have e1 : (if false = true then Zha (strI t) f true st2 else if (strI t).getD st2.at_ 0 ≠ 58 then .error (41, st2.at_) else Zha (strI t) f false ⟨st2.at_ + 1, st2.gs, st2.gap⟩) = (.error (41, st2.at_) : Except Flt S6) := by
        rw [if_neg (by simp), if_pos h]
       exact fin ((Zk3 hno hgm hn hdm).trans e1) ⟨b', rfl, (s.use [1, 1] (s := [_, _]) (r := _ :: Hs) rfl).drop.drop⟩
      ·refine WP.nilck (WP.ld s 0 rfl (o := 1) rfl (Zc7 _) (WP.nilck (WP.st s 0 rfl (o := 1) rfl (Zg2 _ _) (fun w s => WP.next ⟨(f, ⟨st2.at_ + 1, st2.gs, st2.gap⟩), ⟨⟨by simp only; omega, m1.g, m1.p1, m1.p2, m1.p3, m1.v⟩, by simp only; omega, ?_, Ss.closeX (g := g) (sp := sp) ?_⟩, by simp only; omega⟩))))
       ·simp only
        rw [← hF, Zk3 hno hgm hn hdm, if_neg (by simp), if_neg h]
       ·simp only at s
        have e1 : IntKind.wrap .i64 ((st2.at_ : Int) + 1) = ((st2.at_ + 1 : Nat) : Int) := by
         rw [Zau (by omega) (by omega)]
         simp
        rw [e1] at s
        exact s
end
def two (l : List Nat) : List Int := (l.map fun n => [((n / 256 : Nat) : Int), ((n % 256 : Nat) : Int)]).flatten
theorem Zob (n : Nat) (l : List Nat) : two (n :: l) = ((n / 256 : Nat) : Int) :: ((n % 256 : Nat) : Int) :: two l := rfl
theorem Zr6 : ∀ l : List Nat, (two l).length = 2 * l.length
 | [] => rfl
 | n :: l => by rw [Zob, List.length_cons, List.length_cons, Zr6 l, List.length_cons]; omega
theorem Zr5 (v : Nat) : ∀ (l : List Nat) (j : Nat), ((two l).set (2 * j) ((v / 256 : Nat) : Int)).set (2 * j + 1) ((v % 256 : Nat) : Int) = two (l.set j v)
 | [], j => rfl
 | n :: l, 0 => rfl
 | n :: l, j + 1 => by
  rw [List.set_cons_succ, Zob, Zob, ← Zr5 v l j]
  rfl
def S6.pos (st : S6) (i : Nat) : Nat := if st.gap ≥ 0 ∧ (i : Int) ≥ st.gap then i + (8 - st.gs.length) else i
def S6.words (st : S6) : Nat → List Nat
 | 0 => List.replicate 8 0
 | i + 1 => (st.words i).set (st.pos i) (st.gs.getD i 0)
theorem S6.words_len (st : S6) : ∀ i, (st.words i).length = 8
 | 0 => rfl
 | i + 1 => by rw [S6.words, List.length_set, st.words_len i]
theorem S6.bytes_len (st : S6) (i : Nat) : (two (st.words i)).length = 16 := by rw [Zr6, st.words_len]
def S6.bytes (st : S6) : Vec Int 16 := ⟨two (st.words st.gs.length), st.bytes_len _⟩
section
variable {W w : World} {Hs : List HP}
theorem ZvF (n : Nat) : Int.fdiv (n : Int) (2 ^ 8) = ((n / 256 : Nat) : Int) := Zux n 256
theorem Zmg (n : Nat) : IntKind.wrap .u8 (n : Int) = ((n % 256 : Nat) : Int) := by
 show (n : Int) % 256 = _
 omega
theorem ZuJ {b : Nat} {t : ByteArray} {st : S6} {l : List Int} (s : Ss W (SixP b t st :: Hs) w) (ok : Ok6 l st) : WP (ZaF (some (pt b 0))) w (fun r w' => r = st.bytes ∧ Ss W (SixP b t st :: Hs) w') := by
 have o1 := ok.g
 have o2 := ok.p1
 have o3 := ok.p2
 have o4 := ok.p3
 obtain ⟨g, sp, s⟩ := s.openX
 have hl := (s.vec_len (i := 1) rfl).1
 rw [List.length_map] at hl
 unfold ZaF
 refine WP.slot' s (fun _ w s => WP.slot' s (fun _ w s => WP.nilck (WP.ld s 0 rfl (o := 2) rfl (ZbK _) ?_)))
 refine WP.loopG (γ := Nat) (fun i (p : Int × Vec Int 16) w => p.1 = (i : Int) ∧ p.2.l = two (st.words i) ∧ i ≤ st.gs.length ∧ Ss W (Znx b t g st sp ++ Hs) w) (fun i _ => st.gs.length - i) 0 ⟨rfl, rfl, Nat.zero_le _, s⟩ ?_
 clear s
 rintro i ⟨_, v⟩ w ⟨rfl, hv, hi, s⟩
 simp only at hv
 show WP (ZaF.L1 (some (pt b 0)) g (i : Int) v) w _
 unfold ZaF.L1
 have K1 : ∀ {w : World} (j : Nat), j = st.pos i → i < st.gs.length → Ss W (Znx b t g st sp ++ Hs) w → WP (ZaF.K1 (i : Int) v ((st.gs.getD i 0 : Nat) : Int) (j : Int)) w (WP.Rd (fun p w => ∃ g' : Nat, (p.1 = (g' : Int) ∧ p.2.l = two (st.words g') ∧ g' ≤ st.gs.length ∧ Ss W (Znx b t g st sp ++ Hs) w) ∧ st.gs.length - g' < st.gs.length - i) (fun r w' => r = st.bytes ∧ Ss W (SixP b t st :: Hs) w')) := by
  intro w j hj hil s
  have hj8 : j < 8 := by
   rw [hj]
   unfold S6.pos
   split <;> omega
  unfold ZaF.K1
  have e1 : IntKind.wrap .i64 (2 * (j : Int)) = ((2 * j : Nat) : Int) := by
   rw [Zau (by omega) (by omega)]
   omega
  have e2 : IntKind.wrap .i64 (((2 * j : Nat) : Int) + 1) = ((2 * j + 1 : Nat) : Int) := by
   rw [Zau (by omega) (by omega)]
   omega
  rw [e1, e2]
  have hx : (st.gs.getD i 0) < 65536 := by
   rw [List.getD, List.getElem?_eq_getElem hil]
   exact ok.v _ (List.getElem_mem _)
  refine WP.chk ⟨by omega, by omega⟩ (WP.chk ⟨by omega, by omega⟩ (WP.next ⟨i + 1, ⟨?_, ?_, by omega, s⟩, by omega⟩))
  ·show IntKind.wrap .i64 ((i : Int) + 1) = _
   rw [Zau (by omega) (by omega)]
   omega
  ·show ((v.l.set _ _).set _ _) = _
   rw [hv, ZvF, Zmg, Zmg, Int.toNat_natCast, Int.toNat_natCast, show st.gs.getD i 0 / 256 % 256 = st.gs.getD i 0 / 256 by omega, Zr5, hj]
   rfl
 refine WP.ite (fun h => ?_) (fun h => WP.done ⟨Vec.eq ?_, s.closeX⟩)
 ·have hil : i < st.gs.length := by
   rw [hl] at h
   omega
  have hx : (st.gs.map fun n : Nat => (n : Int))[Int.toNat (i : Int)]? = some ((st.gs.getD i 0 : Nat) : Int) := by
   rw [Int.toNat_natCast, List.getElem?_map, List.getD, List.getElem?_eq_getElem hil]
   rfl
  refine WP.rdx s 1 rfl Zc3 (by omega) hx rfl ?_
  have o5 : i < st.gs.length := hil
  refine WP.nilck (WP.ld s 0 rfl (o := 3) rfl (ZdZ _) ?_)
  refine WP.step (R := fun y w' => y = decide (st.gap ≥ 0 ∧ (i : Int) ≥ st.gap) ∧ w = w') (WP.ite (fun h => WP.nilck (WP.ld s 0 rfl (o := 3) rfl (ZdZ _) (WP.ret ⟨?_, rfl⟩))) (fun h => WP.ret ⟨?_, rfl⟩)) ?_
  ·rw [Bool.eq_iff_iff, decide_eq_true_iff, decide_eq_true_iff]
   exact ⟨fun h' => ⟨h, h'⟩, fun h' => h'.2⟩
  ·exact (decide_eq_false fun h' => h h'.1).symm
  rintro _ _ ⟨rfl, rfl⟩
  refine WP.ite (fun h => ?_) (fun h => ?_)
  ·have h := of_decide_eq_true h
   refine WP.nilck (WP.ld s 0 rfl (o := 2) rfl (ZbK _) ?_)
   have e1 : IntKind.wrap .i64 ((i : Int) + IntKind.wrap .i64 (8 - (g.len : Int))) = ((i + (8 - st.gs.length) : Nat) : Int) := by
    rw [Zau (n := 8 - _) (by omega) (by omega), Zau (by omega) (by omega)]
    omega
   simp only
   rw [e1]
   exact K1 _ (by unfold S6.pos; rw [if_pos h]) hil s
  ·exact K1 _ (by unfold S6.pos; rw [if_neg (fun h' => h (decide_eq_true h'))]) hil s
 ·have : i = st.gs.length := by
   rw [hl] at h
   omega
  subst this
  exact hv
end
def ZbQ (l : List Int) (q : Int) : Nat := runE (fun c => decide (c ≠ q)) l 0
theorem Ztc (l : List Int) (q : Int) : ZbQ l q ≤ l.length := (Zmr (Nat.zero_le _)).2
theorem Ztb {l : List Int} {q : Int} {j : Nat} (h : j < ZbQ l q) : l.getD j 0 ≠ q := of_decide_eq_true (Zl1 (Nat.zero_le _) h)
theorem Zpo {l : List Int} {q : Int} (h : ZbQ l q < l.length) : l.getD (ZbQ l q) 0 = q := by
 have h1 := Zof (p := fun c => decide (c ≠ q)) (l := l) (i := 0) (k := ZbQ l q) (Nat.zero_le _) (Nat.le_refl _)
 by_cases e : l.getD (ZbQ l q) 0 = q
 ·exact e
 ·exact absurd (h1.1 ⟨h, decide_eq_true e⟩) (Nat.lt_irrefl _)
theorem Zvb {s : ByteArray} {i : Nat} (h : i < s.size) : ((s[i]!).toNat : Int) = (strI s).getD i 0 := by
 unfold strI
 rw [List.getD, List.getElem?_map, List.getElem?_eq_getElem (by rw [Array.length_toList]; exact h)]
 show ((s[i]!).toNat : Int) = ((s.data.toList[i]).toNat : Int)
 rw [getElem!_pos s i h]
 rfl
theorem Zqi (s : ByteArray) (q : Nat) (hq : q < 256) : firstIdx s q.toUInt8 = if ZbQ (strI s) q < s.size then (ZbQ (strI s) q : Int) else -1 := by
 have hl := Zb4 s
 have hc : ∀ {i : Nat}, i < s.size → (s[i]! = q.toUInt8 ↔ (strI s).getD i 0 = q) := by
  intro i hi
  rw [← Zvb hi, ← UInt8.toNat_inj]
  have : (q.toUInt8).toNat = q := by
   show q % 256 = q
   omega
  rw [this]
  omega
 unfold firstIdx
 cases hf : (List.range s.size).find? fun i => s[i]! == q.toUInt8 with
 | none =>
  rw [List.find?_eq_none] at hf
  rw [if_neg]
  intro h
  have := hf _ (List.mem_range.2 h)
  exact this (beq_iff_eq.2 ((hc h).2 (Zpo (by omega))))
 | some i =>
  rw [List.find?_range_eq_some] at hf
  obtain ⟨h1, h2, h3⟩ := hf
  rw [List.mem_range] at h2
  have h1 := (hc h2).1 (beq_iff_eq.1 h1)
  have a1 : ¬ i < ZbQ (strI s) q := fun h => Ztb h h1
  have a2 : ¬ ZbQ (strI s) q < i := by
   intro h
   have := h3 _ h
   rw [Bool.not_eq_true', beq_eq_false_iff_ne] at this
   exact this ((hc (by omega)).2 (Zpo (by omega)))
  have a3 : ZbQ (strI s) q = i := by omega
  rw [a3, if_pos h2]
section
variable {W w : World} {Hs : List HP}
theorem ZoC (s : ByteArray) {p : ByteArray} {q : Nat} (hq : q < 256) (hp : strI p = [(q : Int)]) : WP (ZcR s p) w (fun r w' => r = (if ZbQ (strI s) q < s.size then (ZbQ (strI s) q : Int) else -1) ∧ w = w') := by
 have hn : p.size = 1 := by
  rw [← Zb4, hp]
  rfl
 have hsb : sb p 0 = q := by
  have := ZfU (s := p) (i := 0)
  rw [hp] at this
  exact this
 unfold ZcR
 have hl := Zb4 s
 refine WP.step (R := fun y w' => y = decide (strI p = strI s) ∧ w = w') (WP.ite (fun h => absurd h (by omega)) (fun h => WP.ret ⟨?_, rfl⟩)) ?_
 ·rw [Bool.eq_iff_iff, beq_iff_eq, decide_eq_true_iff, Zcw]
 rintro _ _ ⟨rfl, rfl⟩
 refine WP.ite (fun h => WP.ret ⟨?_, rfl⟩) (fun h => WP.ite (fun _ => WP.chk ⟨by omega, by omega⟩ (WP.step (R := fun r w' => r = (if ZbQ (strI s) q < s.size then (ZbQ (strI s) q : Int) else -1) ∧ w = w') ?_ (fun r w h => WP.ret h))) (fun h => absurd (by omega) h))
 ·have h := of_decide_eq_true h
  have e1 : ZbQ (strI s) q = 0 := by
   rw [← h, hp]
   simp [ZbQ, runE]
  rw [e1, if_pos]
  ·rfl
  ·rw [← hl, ← h, hp]
   exact Nat.zero_lt_one
 ·unfold ZcQ
  refine WP.idxB ?_
  refine WP.ret ⟨?_, rfl⟩
  rw [hsb, Int.toNat_natCast]
  exact Zqi s q hq
theorem ZpH (s : ByteArray) {p : ByteArray} {q : Nat} (hq : q < 256) (hp : strI p = [(q : Int)]) : WP (Zdy s p) w (fun r w' => r = decide (ZbQ (strI s) q < s.size) ∧ w = w') := by
 unfold Zdy Zfn
 refine WP.step (WP.step (ZoC s hq hp) (fun r w h => WP.ret h)) ?_
 rintro _ _ ⟨rfl, rfl⟩
 refine WP.ret ⟨?_, rfl⟩
 split
 ·rw [decide_eq_true (by omega), decide_eq_true (by assumption)]
 ·rw [decide_eq_false (by omega), decide_eq_false (by assumption)]
def CutA (s : ByteArray) (q : Nat) (r : ByteArray × ByteArray × Bool) : Prop :=
 r.2.2 = decide (ZbQ (strI s) q < s.size) ∧ (ZbQ (strI s) q < s.size → strI r.1 = (strI s).take (ZbQ (strI s) q) ∧ strI r.2.1 = (strI s).drop (ZbQ (strI s) q + 1))
theorem ZwL (s : Ss W Hs w) (t : ByteArray) (ht : t.size ≤ 1000000) {p : ByteArray} {q : Nat} (hq : q < 256) (hp : strI p = [(q : Int)]) : WP (ZdS t p) w (fun r w' => CutA t q r ∧ Ss W Hs w') := by
 have hn : p.size = 1 := by
  rw [← Zb4, hp]
  rfl
 have hl := Zb4 t
 unfold ZdS ZdR
 refine WP.step (R := fun r w' => CutA t q r ∧ Ss W Hs w') (WP.step (ZoC t hq hp) ?_) (fun r w h => WP.ret h)
 rintro _ _ ⟨rfl, rfl⟩
 by_cases hf : ZbQ (strI t) q < t.size
 ·rw [if_pos hf]
  have e1 : IntKind.wrap .i64 (((ZbQ (strI t) q : Nat) : Int) + (p.size : Int)) = ((ZbQ (strI t) q + 1 : Nat) : Int) := by
   rw [hn, Zau (by omega) (by omega)]
   rfl
  rw [e1]
  refine WP.ite (fun _ => WP.draw' s (fun w s => WP.chk ⟨by omega, by omega, by omega⟩ (WP.chk ⟨by omega, by omega, by omega⟩ (WP.ret ⟨⟨(decide_eq_true hf).symm, fun _ => ⟨?_, ?_⟩⟩, s⟩)))) (fun h => absurd (by omega) h)
  ·simp only
   rw [Zd4]
   simp
  ·simp only
   rw [Zd4]
   simp only [Int.toNat_natCast]
   rw [List.take_of_length_le (by rw [List.length_drop]; omega)]
 ·rw [if_neg hf]
  exact WP.ite (fun h => absurd h (by omega)) (fun _ => WP.ret ⟨⟨(decide_eq_false hf).symm, fun h => absurd h hf⟩, s⟩)
end
theorem Zoh {l : List Int} : ∀ (f : Nat) (op : Bool) (st r : S6), Ok6 l st → Zha l f op st = .ok r → Ok6 l r
 | 0, _, _, _, _, h => by cases h
 | f + 1, op, st, r, ok, h => by
  unfold Zha at h
  split at h
  ·cases h
   exact ok
  ·cases hg : ZiQ l st with
   | error e =>
    rw [hg] at h
    cases h
   | ok x =>
    obtain ⟨done, st1⟩ := x
    rw [hg] at h
    obtain ⟨k1, -, -⟩ := ZmN ok hg
    simp only at h
    split at h
    ·split at h
     ·cases h
     ·cases h
      exact k1
    ·rename_i hn
     cases hd : ZfJ l st1 with
     | error e =>
      rw [hd] at h
      cases h
     | ok x =>
      obtain ⟨y, st2⟩ := x
      rw [hd] at h
      obtain ⟨m1, m2, m3⟩ := ZgQ k1 hd
      simp only at h
      split at h
      ·exact Zoh f true st2 r m1 h
      ·rename_i hy
       split at h
       ·cases h
       ·have e2 := m2 (by simpa using hy)
        have h3 := k1.a
        have h4 : st1.at_ ≠ l.length := fun h' => hn (.inr h')
        refine Zoh f false ⟨st2.at_ + 1, st2.gs, st2.gap⟩ r ⟨?_, m1.g, m1.p1, m1.p2, m1.p3, m1.v⟩ h
        show st2.at_ + 1 ≤ l.length
        rw [e2]
        omega
theorem ZqF {l : List Int} {r : S6} (h : Znr l = .ok r) : Ok6 l r := by
 have ok0 : Ok6 l ⟨0, [], -1⟩ := ⟨by simp, by simp, by simp, by simp, fun h => by simp, fun x h => by cases h⟩
 unfold Znr at h
 cases hd : ZfJ l ⟨0, [], -1⟩ with
 | error e =>
  rw [hd] at h
  cases h
 | ok x =>
  obtain ⟨y, st⟩ := x
  rw [hd] at h
  exact Zoh _ _ _ _ (ZgQ ok0 hd).1 h
def v4V (a : List Nat) : Vec Int 16 := ⟨((a.map fun n : Nat => (n : Int)) ++ List.replicate 16 0).take 16, by simp⟩
def Zhf (l : List Int) : Except Flt Zba :=
 if l.length > 45 then .error (2, 45)
 else if ZbQ l 58 < l.length then match Znr l with
  | .error f => .error f
  | .ok st => .ok ⟨6, st.bytes⟩
 else match Zix l 0 with
  | .error f => .error f
  | .ok a => .ok ⟨4, v4V a⟩
theorem Zva {l : List Nat} (h : ∀ x ∈ l, x < 65536) : Byt (two l) := by
 intro x hx
 unfold two at hx
 rw [List.mem_flatten] at hx
 obtain ⟨p, hp, hx⟩ := hx
 rw [List.mem_map] at hp
 obtain ⟨n, hn, rfl⟩ := hp
 have := h n hn
 simp only [List.mem_cons, List.not_mem_nil, or_false] at hx
 constructor <;> rcases hx with rfl | rfl <;> omega
theorem Zqw {st : S6} {l : List Int} (ok : Ok6 l st) : ∀ i, ∀ x ∈ st.words i, x < 65536
 | 0, x, hx => by
  have := List.eq_of_mem_replicate hx
  omega
 | i + 1, x, hx => by
  rcases List.mem_or_eq_of_mem_set hx with h | rfl
  ·exact Zqw ok i x h
  ·rw [List.getD]
   cases hy : st.gs[i]? with
   | none => simp
   | some y => exact ok.v y (List.mem_of_getElem? hy)
theorem Zjc {l : List Int} {ip : Zba} (h : Zhf l = .ok ip) : Byt ip.A.l := by
 unfold Zhf at h
 split at h
 ·cases h
 ·split at h
  ·cases hr : Znr l with
   | error f =>
    rw [hr] at h
    cases h
   | ok st =>
    rw [hr] at h
    cases h
    exact Zva (Zqw (ZqF hr) _)
  ·cases hr : Zix l 0 with
   | error f =>
    rw [hr] at h
    cases h
   | ok a =>
    rw [hr] at h
    cases h
    obtain ⟨h4, h5⟩ := Zl6 (Nat.zero_le _) hr
    intro x hx
    have hx := List.mem_of_mem_take hx
    rw [List.mem_append, List.mem_map] at hx
    rcases hx with ⟨n, hn, rfl⟩ | hx
    ·have := h5 n hn
     constructor <;> omega
    ·have := List.eq_of_mem_replicate hx
     omega
def ipM (l : List Int) : Zba × Int × Int := match Zhf l with
 | .error f => (Zci, f.1, (f.2 : Int))
 | .ok ip => (ip, 0, 0)
def ZoW (l : List Int) : Except Flt Zad :=
 if l.length > 49 then .error (2, 49)
 else if ZbQ l 47 < l.length then match Zhf (l.take (ZbQ l 47)) with
  | .error f => .error f
  | .ok ip => match numM l (ZbQ l 47 + 1) (ZdA ip) 45 with
   | .error f => .error f
   | .ok (n, e) => if e < l.length then .error (41, e) else if vpM ⟨ip, (n : Int)⟩ ≠ 0 then .error (46, 0) else .ok ⟨ip, (n : Int)⟩
 else .error (42, l.length)
def ZpY (l : List Int) : Zad × Int × Int := match ZoW l with
 | .error f => (ZbN, f.1, (f.2 : Int))
 | .ok p => (p, 0, 0)
section
variable {W w : World} {Hs : List HP}
def ZwI (W : World) (Hs : List HP) (x : Except Flt Zba) (r : Zba × Option Addr) (w : World) : Prop :=
 match x with
 | .ok ip => r = (ip, none) ∧ Ss W Hs w
 | .error f => ∃ b, r.2 = some (pt b 0) ∧ Ss W (pts true (pt b 0) (flt f) :: Hs) w
theorem ZqJ (s : Ss W Hs w) (t : ByteArray) : WP (ZfM t) w (ZwI W Hs (Zhf (strI t))) := by
 have hl := Zb4 t
 unfold ZfM Zhf
 refine WP.slot' s (fun _ w s => WP.ite (fun h => WP.newv s (fun b w s => WP.ret ?_)) (fun h => ?_))
 ·rw [if_pos (by omega)]
  exact ⟨b, rfl, s⟩
 rw [if_neg (by omega)]
 refine WP.step (ZpH t (q := 58) (by omega) (by decide)) ?_
 rintro _ _ ⟨rfl, rfl⟩
 refine WP.ite (fun h => ?_) (fun h => ?_)
 ·have h : ¬ ZbQ (strI t) 58 < (strI t).length := fun h' => h (decide_eq_true (by rw [← hl]; exact h'))
  rw [if_neg h]
  refine WP.step (Zs8 s t (by omega) 0 (by omega)) ?_
  intro r w hr
  cases hm : Zix (strI t) 0 with
  | error f =>
   rw [hm] at hr
   obtain ⟨b, hb, s⟩ := hr
   exact WP.slot' s (fun _ w s => WP.ite (fun _ => WP.ret ⟨b, hb, s⟩) (fun h => absurd (by rw [hb]; simp) h))
  | ok a =>
   rw [hm] at hr
   obtain ⟨ha, hb, s⟩ := hr
   refine WP.slot' s (fun _ w s => WP.ite (fun h => absurd hb h) (fun _ => WP.ret ⟨?_, s⟩))
   obtain ⟨h4, -⟩ := Zl6 (Nat.zero_le _) hm
   match a, h4 with
   | [a, b, c, d], _ =>
    have e : (⟨[r.1.g 0 0, r.1.g 1 0, r.1.g 2 0, r.1.g 3 0, 0, 0, 0, 0, 0, 0, 0, 0, 0, 0, 0, 0], rfl⟩ : Vec Int 16) = v4V [a, b, c, d] := by
     refine Vec.eq ?_
     unfold Vec.g
     rw [ha]
     rfl
    rw [e]
 ·have h : ZbQ (strI t) 58 < (strI t).length := by
   rw [hl]
   exact of_decide_eq_true (by simpa using h)
  rw [if_pos h]
  refine WP.newv s (fun b w s => ?_)
  have s1 : Ss W (SixP b t ⟨0, [], -1⟩ :: Hs) w := Ss.closeX (g := Sl.nil) (sp := []) ((s.mk0 (A := vec (cI .i64) Sl.nil [] []) Zdc).use [1, 0] (s := [_, _]) (r := Hs) rfl)
  refine WP.step (Zvj s1 (by omega)) ?_
  intro r w hr
  cases hm : Znr (strI t) with
  | error f =>
   rw [hm] at hr
   obtain ⟨b, rfl, s⟩ := hr
   exact WP.ite (fun _ => WP.ret ⟨b, rfl, s⟩) (fun h => absurd (by simp) h)
  | ok st =>
   rw [hm] at hr
   obtain ⟨rfl, s⟩ := hr
   refine WP.ite (fun h => absurd rfl h) (fun _ => WP.step (ZuJ s (ZqF hm)) ?_)
   rintro _ w ⟨rfl, s⟩
   exact WP.ret ⟨rfl, s.drop⟩
theorem Zn7 (s : Ss W Hs w) (t : ByteArray) : WP (ZeB t) w (fun r w' => r = ipM (strI t) ∧ Ss W Hs w') := by
 unfold ZeB ipM
 refine WP.slot' s (fun _ w s => WP.step (ZqJ s t) ?_)
 intro r w hr
 cases hm : Zhf (strI t) with
 | error f =>
  rw [hm] at hr
  obtain ⟨b, hb, s⟩ := hr
  refine WP.slot' s (fun _ w s => ?_)
  rw [hb]
  exact WP.ite (fun _ => WP.draw' s (fun w s => WP.nilck (WP.ld s 0 rfl (o := 0) (by simp [Addr.add]) (Zft _) (WP.nilck (WP.ld s 0 rfl (o := 1) rfl (Zfu _) (WP.same s 0 rfl (o := 1) rfl (Zfu _) (WP.same s 0 rfl (o := 0) (by simp [Addr.add]) (Zft _) (WP.ret ⟨rfl, s.drop⟩)))))))) (fun h => absurd (by simp) h)
 | ok ip =>
  rw [hm] at hr
  obtain ⟨rfl, s⟩ := hr
  exact WP.slot' s (fun _ w s => WP.ite (fun h => absurd rfl h) (fun _ => WP.ret ⟨rfl, s⟩))
end
section
variable {W w : World} {Hs : List HP}
theorem Znz (s : Ss W Hs w) (p : Zad) (h4 : p.IP.V = 4) (hv : vpM p = 0) (hb : Byt p.IP.A.l) (hs : ∀ x ∈ p.IP.A.l.take 4, 0 ≤ x ∧ x < 100) : WP (ZdD p) w (fun r w' => r = (bstr (dotM (p.IP.A.l.take 4) ++ 47 :: dec3 p.Len.toNat), 0) ∧ Ss W Hs w') := by
 unfold ZdD
 refine WP.slot' s (fun _ w s => WP.step (Zgm s p hb) ?_)
 rintro _ w ⟨rfl, s⟩
 refine WP.ite (fun h => absurd hv h) (fun h => ?_)
 obtain ⟨v0, v1, v2, v3⟩ := ZpJ hv
 have hz : ZdA p.IP ≤ 32 := by
  unfold ZdA
  rw [if_neg (by omega)]
  split <;> omega
 refine WP.step (ZrQ s p.IP h4 (by omega) hs) ?_
 rintro _ w ⟨rfl, s⟩
 have hlen := ZuD (xs := p.IP.A.l.take 4) (by rw [List.length_take]; omega)
 have hs1 : (Zrk).size = 1 := by decide +kernel
 refine WP.chk (by rw [Zg0, hs1]; omega) ?_
 rw [show p.Len = ((p.Len.toNat : Nat) : Int) by omega]
 refine WP.step (Zqr s (n := p.Len.toNat) (by omega)) ?_
 rintro _ w ⟨rfl, s⟩
 have e : Zrk = bstr [47] := by decide +kernel
 simp only
 rw [e, catb]
 have hd : (dec3 p.Len.toNat).length ≤ 3 := by
  rw [Zov]
  unfold ndig
  split
  ·omega
  ·split <;> omega
 refine WP.chk (by rw [Zg0, Zg0, List.length_append]; simp only [List.length_cons, List.length_nil]; omega) (WP.ret ⟨?_, s⟩)
 rw [catb, List.append_assoc]
 rfl
end
structure ZeT where
 Not : Bool
 nets : List Zad
 ports : List ZaE
 deriving DecidableEq
structure Zbf where
 Act : Int
 Class : Int
 Kind : Int
 Proto : Int
 In : Int
 Vid : Int
 From : ZeT
 To : ZeT
 Set : Int
 Clear : Int
 Type_ : Int
 Pieces : Bool
 deriving DecidableEq
def zSd : ZeT := ⟨false, [], []⟩
def zRl : Zbf := ⟨0, 0, 0, 0, 0, 0, zSd, zSd, 0, 0, 0, false⟩
def tx (s : String) : List Int := s.toList.map fun c => ((c.toNat : Nat) : Int)
def ZgW (n : Int) : Bool := decide (n = 6 ∨ n = 17)
def Zid (n : Int) : Bool := decide (n = 1 ∨ n = 58)
def verM (kind : Int) : Int := if kind = 1 ∨ kind = 2 then 4 else if kind = 3 then 6 else 0
def Zk9 (p : Zad) (kind : Int) : Bool := decide (vpM p = 0 ∧ (verM kind = 0 ∨ p.IP.V = verM kind))
def ZjX (r : ZaE) : Bool := decide (0 ≤ r.Lo ∧ r.Hi ≤ 65535 ∧ r.Lo ≤ r.Hi)
def ZgH (s : ZeT) (kind proto : Int) : Int :=
 if s.nets.length > 16 ∨ (s.Not = true ∧ s.nets = []) then 163
 else if ¬ (∀ p ∈ s.nets, Zk9 p kind = true) then 163
 else if s.ports.length > 16 then 164
 else if ¬ (∀ r ∈ s.ports, ZjX r = true) then 164
 else if s.ports ≠ [] ∧ ZgW proto = false then 165 else 0
def hasB (n : Int) (k : Nat) : Bool := decide (n / 2 ^ k % 2 = 1)
def ZqB (a b : Int) : Bool := (List.range 8).any fun k => hasB a k && hasB b k
def inR (n lo hi : Int) : Bool := decide (lo ≤ n ∧ n ≤ hi)
def ZrG (m : Zbf) : Bool := inR m.Act 1 3 && inR m.Class 0 7 && inR m.Kind 0 3 && inR m.Proto 0 255 && inR m.In 0 8 && inR m.Vid 0 4094 && inR m.Set 0 255 && inR m.Clear 0 255 && inR m.Type_ 0 256 && !ZqB m.Set m.Clear
def Zq2 (m : Zbf) : Bool := decide ((m.Class ≠ 0 ∧ m.Act ≠ 1) ∨ (m.Proto ≠ 0 ∧ m.Kind = 1) ∨ ((m.Set ≠ 0 ∨ m.Clear ≠ 0) ∧ m.Proto ≠ 6) ∨ (m.Type_ ≠ 0 ∧ Zid m.Proto = false))
def ckM (m : Zbf) : Int := if ZrG m = false then 166 else if Zq2 m = true then 165 else if ZgH m.From m.Kind m.Proto ≠ 0 then ZgH m.From m.Kind m.Proto else ZgH m.To m.Kind m.Proto
abbrev Wd := List Int × Int
def Zmh (c : Int) : Bool := decide (32 < c ∧ c < 127 ∧ c ≠ 44)
def lexM (cur : List Int) (p : Int) : List Int → Except Int (List Wd)
 | [] => .ok (if cur = [] then [] else [(cur, p - cur.length)])
 | c :: cs => if Zmh c = true then lexM (cur ++ [c]) (p + 1) cs
  else match (if c = 44 then (match lexM [] (p + 1) cs with
    | .error q => .error q
    | .ok r => .ok (([44], p) :: r))
   else if c = 32 ∨ c = 9 then lexM [] (p + 1) cs else .error p) with
   | .error q => .error q
   | .ok r => .ok (if cur = [] then r else (cur, p - cur.length) :: r)
abbrev PF := Int × Int
abbrev PE (α : Type) := Except PF α
def ZdI : List Int := [44]
def numR (t : List Int) (lo hi : Int) : Option Int :=
 if t = [] ∨ t.length > 9 ∨ (t.getD 0 0 = 48 ∧ t.length > 1) ∨ t.all ZfZ = false then none
 else if lo ≤ (valD t : Int) ∧ (valD t : Int) ≤ hi then some (valD t) else none
def numP (e lo hi : Int) : List Wd → PE (Int × List Wd)
 | [] => .error (161, e)
 | w :: ws => if w.1 = ZdI then .error (160, w.2) else match numR w.1 lo hi with
  | none => .error (162, w.2)
  | some n => .ok (n, ws)
def netR (t : List Int) : Option Zad := match ZoW t with
 | .ok p => some p
 | .error _ => match Zhf t with
  | .ok ip => some ⟨ip, if ip.V = 6 then 128 else 32⟩
  | .error _ => none
def Zks (e kind : Int) : List Zad → List Wd → PE (List Zad × List Wd)
 | acc, [] => .error (161, e)
 | acc, w :: ws => if w.1 = ZdI then .error (160, w.2) else match netR w.1 with
  | none => .error (163, w.2)
  | some p => if acc.length = 16 ∨ Zk9 p kind = false then .error (163, w.2) else match ws with
   | [] => .ok (acc ++ [p], [])
   | c :: ws => if c.1 = ZdI then Zks e kind (acc ++ [p]) ws else .ok (acc ++ [p], c :: ws)
def ZnH (t : List Int) : Option ZaE := match numR (t.take (ZbQ t 45)) 0 65535, numR (if ZbQ t 45 < t.length then t.drop (ZbQ t 45 + 1) else t.take (ZbQ t 45)) 0 65535 with
 | some a, some b => if a ≤ b then some ⟨a, b⟩ else none
 | _, _ => none
def ZhH (e : Int) : List ZaE → List Wd → PE (List ZaE × List Wd)
 | acc, [] => .error (161, e)
 | acc, w :: ws => if w.1 = ZdI then .error (160, w.2) else match ZnH w.1 with
  | none => .error (164, w.2)
  | some p => if acc.length = 16 then .error (164, w.2) else match ws with
   | [] => .ok (acc ++ [p], [])
   | c :: ws => if c.1 = ZdI then ZhH e (acc ++ [p]) ws else .ok (acc ++ [p], c :: ws)
def Zfx (t : List Int) : List Wd → Option (List Wd)
 | [] => none
 | w :: ws => if w.1 = t then some ws else none
def ZuX (e kind : Int) (ws : List Wd) : PE ((Bool × List Zad) × List Wd) := match Zfx (tx "any") ws with
 | some r => .ok ((false, []), r)
 | none => match Zks e kind [] ((Zfx (tx "not") ws).getD ws) with
  | .error f => .error f
  | .ok (l, r) => .ok (((Zfx (tx "not") ws).isSome, l), r)
def Zgf (e proto : Int) : List Wd → PE (List ZaE × List Wd)
 | [] => .ok ([], [])
 | w :: ws => if w.1 = tx "port" then (if ZgW proto = true then ZhH e [] ws else .error (165, w.2)) else .ok ([], w :: ws)
def ZoJ (e kind proto : Int) (ws : List Wd) : PE (ZeT × List Wd) := match ZuX e kind ws with
 | .error f => .error f
 | .ok (a, r) => match Zgf e proto r with
  | .error f => .error f
  | .ok (ps, r) => .ok (⟨a.1, a.2, ps⟩, r)
def ZrE : List (List Int) := [tx "fin", tx "syn", tx "rst", tx "psh", tx "ack", tx "urg", tx "ece", tx "cwr"]
def actN : List (List Int) := [tx "permit", tx "deny", tx "reject"]
def ZrC : List (List Int) := [tx "arp", tx "ip4", tx "ip6"]
def idxT (l : List (List Int)) (t : List Int) : Option Nat := l.findIdx? fun x => decide (x = t)
def ZiT (t : List Int) : Bool × Option Nat := if t.head? = some 33 then (true, idxT ZrE t.tail) else (false, idxT ZrE t)
def Zhi (e : Int) : Int → Int → List Wd → PE ((Int × Int) × List Wd)
 | s, c, [] => .error (161, e)
 | s, c, w :: ws => if w.1 = ZdI then .error (160, w.2) else match (ZiT w.1).2 with
  | none => .error (160, w.2)
  | some k => if (hasB s k || hasB c k) = true then .error (165, w.2) else match ws with
   | [] => .ok ((if (ZiT w.1).1 = true then (s, c + 2 ^ k) else (s + 2 ^ k, c)), [])
   | d :: ws => if d.1 = ZdI then (if (ZiT w.1).1 = true then Zhi e s (c + 2 ^ k) ws else Zhi e (s + 2 ^ k) c ws)
    else .ok ((if (ZiT w.1).1 = true then (s, c + 2 ^ k) else (s + 2 ^ k, c)), d :: ws)
def Zp0 (e : Int) : List Wd → PE (Int × List Wd)
 | [] => .error (161, e)
 | w :: ws => if w.1 = ZdI then .error (160, w.2) else match (if w.1.head? = some 112 then numR w.1.tail 0 7 else none) with
  | none => .error (162, w.2)
  | some n => .ok (n, ws)
def Zj3 (e : Int) (t : List Int) (m : Zbf) (ws : List Wd) : Option (PE (Zbf × List Wd)) :=
 if t = tx "on" then some (match Zp0 e ws with
  | .error f => .error f
  | .ok (n, r) => .ok ({ m with In := n + 1 }, r))
 else if t = tx "vid" then some (match numP e 1 4094 ws with
  | .error f => .error f
  | .ok (n, r) => .ok ({ m with Vid := n }, r))
 else if t = tx "from" then some (match ZoJ e m.Kind m.Proto ws with
  | .error f => .error f
  | .ok (n, r) => .ok ({ m with From := n }, r))
 else if t = tx "to" then some (match ZoJ e m.Kind m.Proto ws with
  | .error f => .error f
  | .ok (n, r) => .ok ({ m with To := n }, r))
 else if t = tx "flags" then some (match Zhi e m.Set m.Clear ws with
  | .error f => .error f
  | .ok (n, r) => .ok ({ m with Set := n.1, Clear := n.2 }, r))
 else if t = tx "type" then some (match numP e 0 255 ws with
  | .error f => .error f
  | .ok (n, r) => .ok ({ m with Type_ := n + 1 }, r))
 else if t = tx "pieces" then some (.ok ({ m with Pieces := true }, ws))
 else none
def mayM (seen : List (List Int)) (m : Zbf) (t : List Int) : Bool := decide (t ∉ seen ∧ (t = tx "flags" → m.Proto = 6) ∧ (t = tx "type" → Zid m.Proto = true))
def Zol (e : Int) : Nat → List (List Int) → Zbf → List Wd → PE Zbf
 | 0, _, m, _ => .ok m
 | f + 1, seen, m, [] => .ok m
 | f + 1, seen, m, w :: ws => if mayM seen m w.1 = false then .error (165, w.2) else match Zj3 e w.1 m ws with
  | none => .error (160, w.2)
  | some (.error q) => .error q
  | some (.ok (m', r)) => Zol e f (w.1 :: seen) m' r
def ZnK (t : List Int) : Option Int := if t = tx "tcp" then some 6 else if t = tx "udp" then some 17 else if t = tx "icmp" then some 1 else if t = tx "icmp6" then some 58 else none
def Zgy (t : List Int) : Bool := (ZnK t).isSome || decide (t = tx "proto")
def ZiM (e kind : Int) (w : Wd) (ws : List Wd) : PE (Int × List Wd) := if kind = 1 then .error (165, w.2) else match ZnK w.1 with
 | some n => .ok (n, ws)
 | none => numP e 1 255 ws
def ZkB (e : Int) (a : Nat) (ws : List Wd) : PE (Int × List Wd) := if a = 0 then (match Zfx (tx "class") ws with
  | none => .ok (0, ws)
  | some r => numP e 0 7 r) else .ok (0, ws)
def ZoH (e : Int) : List Wd → PE ((Int × Int) × List Wd)
 | [] => .error (161, e)
 | w :: ws => if w.1 = tx "any" then .ok ((0, 0), ws) else match idxT ZrC w.1 with
  | none => if Zgy w.1 = true then (match ZiM e 0 w ws with
    | .error f => .error f
    | .ok (n, r) => .ok ((0, n), r)) else .error (160, w.2)
  | some k => match ws with
   | [] => .ok (((k : Int) + 1, 0), [])
   | v :: r => if Zgy v.1 = true then (match ZiM e ((k : Int) + 1) v r with
    | .error f => .error f
    | .ok (n, r) => .ok (((k : Int) + 1, n), r)) else .ok (((k : Int) + 1, 0), v :: r)
def Zqf (e : Int) : List Wd → PE (Zbf × List Wd)
 | [] => .error (161, e)
 | w :: ws => match idxT actN w.1 with
  | none => .error (160, w.2)
  | some a => match ZkB e a ws with
   | .error f => .error f
   | .ok (c, r) => match ZoH e r with
    | .error f => .error f
    | .ok (k, r) => .ok ({ zRl with Act := (a : Int) + 1, Class := c, Kind := k.1, Proto := k.2 }, r)
def Zt4 (t : List Int) : PE Zbf := if t.length > 1024 then .error (2, 1024) else match lexM [] 0 t with
 | .error p => .error (160, p)
 | .ok ws => match Zqf t.length ws with
  | .error f => .error f
  | .ok (m, r) => Zol t.length (ws.length + 1) [] m r
def Zop : List Int := tx "permit tcp from 10.0.0.0/8 to any port 80"
def Zmt : Zbf := { zRl with Act := 1, Proto := 6, From := ⟨false, [⟨⟨4, ⟨[10, 0, 0, 0, 0, 0, 0, 0, 0, 0, 0, 0, 0, 0, 0, 0], rfl⟩⟩, 8⟩], []⟩, To := ⟨false, [], [⟨80, 80⟩]⟩ }
instance exceptDec {ε α : Type} [DecidableEq ε] [DecidableEq α] : DecidableEq (Except ε α)
 | .error a, .error b => if h : a = b then .isTrue (by rw [h]) else .isFalse (fun e => h (by cases e; rfl))
 | .ok a, .ok b => if h : a = b then .isTrue (by rw [h]) else .isFalse (fun e => h (by cases e; rfl))
 | .error _, .ok _ => .isFalse (fun e => by cases e)
 | .ok _, .error _ => .isFalse (fun e => by cases e)
theorem Zwd : Zt4 Zop = .ok Zmt := by decide +kernel
theorem ck_x : ckM Zmt = 0 := by decide +kernel
abbrev cWd := Zbw
def wdOf (w : ZaD) : Wd := (strI w.s, w.at_)
theorem ZqR {cur : List Int} {p c : Int} {cs : List Int} (h : Zmh c = true) : lexM cur p (c :: cs) = lexM (cur ++ [c]) (p + 1) cs := by
 rw [lexM, if_pos h]
theorem ZqS {cur : List Int} {p c : Int} {cs : List Int} (h : Zmh c = false) : lexM cur p (c :: cs) = match (if c = 44 then (match lexM [] (p + 1) cs with
    | .error q => .error q
    | .ok r => .ok (([44], p) :: r))
   else if c = 32 ∨ c = 9 then lexM [] (p + 1) cs else .error p : Except Int (List Wd)) with
   | .error q => .error q
   | .ok r => .ok (if cur = [] then r else (cur, p - cur.length) :: r) := by
 rw [lexM, if_neg (by rw [h]; decide)]
 try rfl
theorem ZsQ {cur : List Int} {p : Int} {l : List Int} (hc : cur ≠ []) (hl : ∀ c cs, l = c :: cs → Zmh c = false) : lexM cur p l = match lexM [] p l with
  | .error q => .error q
  | .ok r => .ok ((cur, p - cur.length) :: r) := by
 cases l with
 | nil => simp [lexM, hc]
 | cons c cs =>
  have := hl c cs rfl
  rw [ZqS this, ZqS this]
  generalize (if c = 44 then (match lexM [] (p + 1) cs with
    | .error q => .error q
    | .ok r => .ok (([44], p) :: r))
   else if c = 32 ∨ c = 9 then lexM [] (p + 1) cs else .error p : Except Int (List Wd)) = X
  cases X with
  | error q => rfl
  | ok r => simp [hc]
theorem Zwm {p c : Int} {cs : List Int} (h : Zmh c = false) : lexM [] p (c :: cs) = if c = 44 then (match lexM [] (p + 1) cs with
    | .error q => .error q
    | .ok r => .ok (([44], p) :: r))
   else if c = 32 ∨ c = 9 then lexM [] (p + 1) cs else .error p := by
 rw [ZqS h]
 generalize (if c = 44 then (match lexM [] (p + 1) cs with
    | .error q => .error q
    | .ok r => .ok (([44], p) :: r))
   else if c = 32 ∨ c = 9 then lexM [] (p + 1) cs else .error p : Except Int (List Wd)) = X
 cases X with
 | error q => rfl
 | ok r => simp
theorem Zoq : ∀ (l cur : List Int) (p q : Int), 0 ≤ p → lexM cur p l = .error q → p ≤ q
 | [], cur, p, q, hp, h => by simp [lexM] at h
 | c :: cs, cur, p, q, hp, h => by
  rw [lexM] at h
  split at h
  ·have := Zoq cs _ _ _ (by omega) h
   omega
  ·split at h
   ·rename_i q' hq
    have : q' = q := by cases h; rfl
    subst this
    split at hq
    ·split at hq
     ·rename_i q2 h2
      have := Zoq cs _ _ _ (by omega) h2
      cases hq
      omega
     ·cases hq
    ·split at hq
     ·have := Zoq cs _ _ _ (by omega) hq
      omega
     ·cases hq
      omega
   ·cases h
def Zqu (acc : List Wd) (X Y : Except Int (List Wd)) : Prop := X = match Y with
 | .error q => .error q
 | .ok r => .ok (acc ++ r)
section
variable {W w : World} {Hs : List HP}
def Zre (W : World) (Hs : List HP) (X : Except Int (List Wd)) (r : Sl × Int) (w : World) : Prop := match X with
 | .ok ws => r.2 = -1 ∧ ∃ wl sp, wl.map wdOf = ws ∧ Ss W (vec cWd r.1 wl sp :: Hs) w
 | .error p => r.2 = p ∧ Ss W Hs w
theorem ZtF (s : Ss W Hs w) (t : ByteArray) (ht : t.size ≤ 1024) : WP (ZaK t) w (Zre W Hs (lexM [] 0 (strI t))) := by
 unfold ZaK
 have hl := Zb4 t
 have s := s.mk0 (A := vec cWd Sl.nil [] []) Zdc
 refine WP.loopG (γ := Nat × List ZaD × List ZaD) (fun g (z : Sl × Int) w => z.2 = (g.1 : Int) ∧ g.1 ≤ (strI t).length ∧ g.2.1.length ≤ g.1 ∧ Zqu (g.2.1.map wdOf) (lexM [] 0 (strI t)) (lexM [] g.1 ((strI t).drop g.1)) ∧ Ss W (vec cWd z.1 g.2.1 g.2.2 :: Hs) w) (fun g _ => (strI t).length - g.1) (0, [], []) ⟨rfl, by simp, by simp, ?_, s⟩ ?_
 ·unfold Zqu
  have e0 : ((0 : Nat) : Int) = 0 := rfl
  simp only [List.map_nil, List.nil_append, List.drop_zero, e0]
  cases lexM [] 0 (strI t) <;> rfl
 clear s
 rintro ⟨k, wl, sp⟩ ⟨a, _⟩ w ⟨rfl, hk, hlen, ha, s⟩
 simp only at hk hlen ha s
 show WP (ZaK.L1 t a (k : Int)) w _
 unfold ZaK.L1
 refine WP.ite (fun h => ?_) (fun h => ?_)
 rotate_left
 ·have : k = (strI t).length := by omega
  subst this
  rw [List.drop_length] at ha
  refine WP.done ?_
  unfold Zqu at ha
  simp only [lexM, if_true, List.append_nil] at ha
  unfold Zre
  rw [ha]
  exact ⟨rfl, wl, sp, rfl, s⟩
 have hk1 : k < (strI t).length := by omega
 refine WP.loopG (γ := Nat) (fun q (z : Int) w => z = (q : Int) ∧ k ≤ q ∧ q ≤ (strI t).length ∧ lexM [] k ((strI t).drop k) = lexM (((strI t).drop k).take (q - k)) q ((strI t).drop q) ∧ Ss W (vec cWd a wl sp :: Hs) w) (fun q _ => (strI t).length - q) k ⟨rfl, Nat.le_refl _, hk, by simp, s⟩ ?_
 clear s
 rintro q _ w ⟨rfl, hq1, hq2, hq, s⟩
 show WP (ZaK.L2 t a (k : Int) (q : Int)) w _
 unfold ZaK.L2
 refine WP.step (R := fun y w' => y = decide (q < (strI t).length ∧ (strI t).getD q 0 > 32) ∧ w = w') (WP.ite (fun h => WP.chk ⟨by omega, h⟩ (WP.ret ⟨?_, rfl⟩)) (fun h => WP.ret ⟨(decide_eq_false (by omega)).symm, rfl⟩)) ?_
 ·rw [ZfU]
  exact decide_eq_decide.2 ⟨fun h' => ⟨by omega, h'⟩, fun h' => h'.2⟩
 rintro _ _ ⟨rfl, rfl⟩
 refine WP.step (R := fun y w' => y = decide (q < (strI t).length ∧ (strI t).getD q 0 > 32 ∧ (strI t).getD q 0 < 127) ∧ w = w') (WP.ite (fun h => WP.chk ⟨by omega, by have := of_decide_eq_true h; omega⟩ (WP.ret ⟨?_, rfl⟩)) (fun h => WP.ret ⟨(decide_eq_false (fun h' => h (decide_eq_true ⟨h'.1, h'.2.1⟩))).symm, rfl⟩)) ?_
 ·rw [ZfU]
  have := of_decide_eq_true h
  exact decide_eq_decide.2 ⟨fun h' => ⟨this.1, this.2, h'⟩, fun h' => h'.2.2⟩
 rintro _ _ ⟨rfl, rfl⟩
 refine WP.step (R := fun y w' => y = decide (q < (strI t).length ∧ Zmh ((strI t).getD q 0) = true) ∧ w = w') (WP.ite (fun h => WP.chk ⟨by omega, by have := of_decide_eq_true h; omega⟩ (WP.ret ⟨?_, rfl⟩)) (fun h => WP.ret ⟨(decide_eq_false (fun h' => h (decide_eq_true ?_))).symm, rfl⟩)) ?_
 ·rw [ZfU]
  have := of_decide_eq_true h
  unfold Zmh
  rw [Bool.eq_iff_iff, bne_iff_ne]
  simp only [decide_eq_true_iff]
  exact ⟨fun h' => ⟨this.1, by omega, by omega, h'⟩, fun h' => h'.2.2.2⟩
 ·have := h'.2
  unfold Zmh at this
  have := of_decide_eq_true this
  exact ⟨h'.1, by omega, by omega⟩
 rintro _ _ ⟨rfl, rfl⟩
 have hd : q < (strI t).length → (strI t).drop q = (strI t).getD q 0 :: (strI t).drop (q + 1) := fun h => by
  rw [List.drop_eq_getElem_cons h, List.getD, List.getElem?_eq_getElem h]
  rfl
 refine WP.ite (fun h => ?_) (fun h => ?_)
 ·obtain ⟨h1, h2⟩ := of_decide_eq_true h
  refine WP.next ⟨q + 1, ⟨?_, by omega, h1, ?_, s⟩, by omega⟩
  ·rw [Zau (by omega) (by omega)]
   omega
  ·rw [hq, hd h1, ZqR h2]
   have e : ((strI t).drop k).take (q + 1 - k) = ((strI t).drop k).take (q - k) ++ [(strI t).getD q 0] := by
    rw [show q + 1 - k = (q - k) + 1 by omega, List.take_add_one, List.getElem?_drop, show k + (q - k) = q by omega, List.getD, List.getElem?_eq_getElem h1]
    rfl
   rw [e]
   rfl
 refine WP.step (R := WP.Rd (fun (z : Sl × Int) w => ∃ g : Nat × List ZaD × List ZaD, (z.2 = (g.1 : Int) ∧ g.1 ≤ (strI t).length ∧ g.2.1.length ≤ g.1 ∧ Zqu (g.2.1.map wdOf) (lexM [] 0 (strI t)) (lexM [] g.1 ((strI t).drop g.1)) ∧ Ss W (vec cWd z.1 g.2.1 g.2.2 :: Hs) w) ∧ (strI t).length - g.1 < (strI t).length - k) (Zre W Hs (lexM [] 0 (strI t)))) ?_ (fun r w h => WP.done h)
 have hnb : ∀ c cs, (strI t).drop q = c :: cs → Zmh c = false := fun c cs e => by
  have h1 : q < (strI t).length := Decidable.byContradiction fun hn => by
   rw [List.drop_of_length_le (by omega)] at e
   cases e
  rw [hd h1] at e
  cases e
  cases hb : Zmh ((strI t).getD q 0) with
  | false => rfl
  | true => exact absurd (decide_eq_true ⟨h1, hb⟩) h
 have hx : ∀ {j : Nat}, k ≤ j → j ≤ (strI t).length → strI (ByteArray.extract t k j) = ((strI t).drop k).take (j - k) := fun h1 h2 => Zd4 _ _ _
 unfold ZaK.K1
 refine WP.chk ⟨by omega, by omega⟩ (WP.ite (fun h2 => ?_) (fun h2 => ?_))
 ·refine WP.chk ⟨by omega, by omega, by omega⟩ (WP.slot' s (fun _ w s => WP.appl s 0 rfl (by simp only [List.length_singleton]; omega) (by decide) (fun a' w sp' s => ?_)))
  have hcur : ((strI t).drop k).take (q - k) ≠ [] := fun e => by
   have := congrArg List.length e
   simp at this
   omega
  refine WP.next ⟨(q, _, sp'), ⟨rfl, hq2, ?_, ?_, s⟩, by simp only; omega⟩
  ·simp only [List.length_append, List.length_singleton]
   omega
  ·unfold Zqu at ha ⊢
   rw [ha, hq, ZsQ hcur hnb]
   have el : ((((strI t).drop k).take (q - k)).length : Int) = q - k := by
    rw [List.length_take, List.length_drop]
    omega
   cases lexM [] (q : Int) ((strI t).drop q) with
   | error p => rfl
   | ok r =>
    simp only [List.map_append, List.map_cons, List.map_nil, List.append_assoc, List.cons_append, List.nil_append, wdOf, Int.toNat_natCast]
    rw [hx hq1 hq2, el]
    simp only [Except.ok.injEq, List.append_cancel_left_eq, List.cons.injEq, Prod.mk.injEq, true_and, and_true]
    omega
 have hqk : q = k := by omega
 subst hqk
 have hc := hnb _ _ (hd hk1)
 have ha' := ha
 rw [hd hk1, Zwm hc] at ha'
 refine WP.ite (fun h3 => ?_) (fun h3 => ?_)
 ·rw [ZfU] at h3
  rw [if_pos h3] at ha'
  have hw : IntKind.wrap .i64 ((q : Int) + 1) = ((q + 1 : Nat) : Int) := by
   rw [Zau (by omega) (by omega)]
   omega
  rw [hw]
  refine WP.chk ⟨by omega, by omega, by omega⟩ (WP.slot' s (fun _ w s => WP.appl s 0 rfl (by simp only [List.length_singleton]; omega) (by decide) (fun a' w sp' s => ?_)))
  refine WP.next ⟨(q + 1, _, sp'), ⟨rfl, by simp only; omega, ?_, ?_, s⟩, by simp only; omega⟩
  ·simp only [List.length_append, List.length_singleton]
   omega
  ·unfold Zqu at ha' ⊢
   rw [ha']
   have e : ((q + 1 : Nat) : Int) = (q : Int) + 1 := by omega
   simp only [e]
   have e2 : strI (ByteArray.extract t q (q + 1)) = [44] := by
    rw [hx (by omega) (by omega), show q + 1 - q = 0 + 1 by omega, hd hk1, h3]
    rfl
   cases lexM [] ((q : Int) + 1) ((strI t).drop (q + 1)) with
   | error p => rfl
   | ok r =>
    simp only [List.map_append, List.map_cons, List.map_nil, List.append_assoc, List.cons_append, List.nil_append, wdOf, Int.toNat_natCast]
    rw [show ((q : Int) + 1).toNat = q + 1 by omega, e2]
 ·rw [ZfU] at h3
  rw [if_neg h3] at ha'
  refine WP.step (R := fun y w' => y = decide ((strI t).getD q 0 = 32 ∨ (strI t).getD q 0 = 9) ∧ w = w') (WP.ite (fun h4 => WP.ret ⟨?_, rfl⟩) (fun h4 => WP.ret ⟨?_, rfl⟩)) ?_
  ·rw [ZfU] at h4
   exact (decide_eq_true (.inl h4)).symm
  ·rw [ZfU] at h4 ⊢
   rw [Bool.eq_iff_iff, beq_iff_eq, decide_eq_true_iff]
   exact ⟨fun h => .inr h, fun h => h.elim (fun h => absurd h h4) id⟩
  rintro _ _ ⟨rfl, rfl⟩
  refine WP.ite (fun h4 => ?_) (fun h4 => ?_)
  ·rw [if_pos (of_decide_eq_true h4)] at ha'
   refine WP.next ⟨(q + 1, wl, sp), ⟨?_, by simp only; omega, by simp only; omega, ?_, s⟩, by simp only; omega⟩
   ·simp only
    rw [Zau (by omega) (by omega)]
    omega
   ·have e : ((q + 1 : Nat) : Int) = (q : Int) + 1 := by omega
    simp only [e]
    exact ha'
  ·rw [if_neg (fun h => h4 (decide_eq_true h))] at ha'
   refine WP.done ?_
   unfold Zqu at ha'
   simp only at ha'
   unfold Zre
   rw [ha']
   exact ⟨rfl, s.drop⟩
theorem Zlz (t : ByteArray) (lo hi : Int) : WP (Zbj t lo hi) w (fun r w' => r.2 = (numR (strI t) lo hi).isSome ∧ (∀ v, numR (strI t) lo hi = some v → r.1 = v) ∧ w = w') := by
 unfold Zbj
 have hl := Zb4 t
 refine WP.step (R := fun y w' => y = decide (strI t = [] ∨ (strI t).length > 9) ∧ w = w') (WP.ite (fun h => WP.ret ⟨?_, rfl⟩) (fun h => WP.ret ⟨?_, rfl⟩)) ?_
 ·rw [Zcw] at h
  exact (decide_eq_true (.inl h)).symm
 ·rw [Zcw] at h
  exact decide_eq_decide.2 ⟨fun h' => .inr (by omega), fun h' => h'.elim (fun h' => absurd h' h) (fun h' => by omega)⟩
 rintro _ _ ⟨rfl, rfl⟩
 have h0 : ¬ (strI t = [] ∨ (strI t).length > 9) → 0 < (strI t).length := fun h => by
  cases e : strI t with
  | nil => exact absurd (.inl e) h
  | cons a l => simp
 refine WP.step (R := fun y w' => y = decide (strI t = [] ∨ (strI t).length > 9 ∨ ((strI t).getD 0 0 = 48 ∧ (strI t).length > 1)) ∧ w = w') (WP.ite (fun h => WP.ret ⟨?_, rfl⟩) (fun h => WP.chk ⟨by omega, ?_⟩ ?_)) ?_
 ·have := of_decide_eq_true h
  exact (decide_eq_true (this.elim .inl (fun h => .inr (.inl h)))).symm
 ·have := h0 (fun h' => h (decide_eq_true h'))
  omega
 ·have hn : ¬ (strI t = [] ∨ (strI t).length > 9) := fun h' => h (decide_eq_true h')
  have hs0 : sb t 0 = (strI t).getD 0 0 := ZfU (i := 0)
  rw [hs0]
  refine WP.step (R := fun y w' => y = decide ((strI t).getD 0 0 = 48 ∧ (strI t).length > 1) ∧ w = w') (WP.ite (fun h2 => WP.ret ⟨decide_eq_decide.2 ⟨fun h' => ⟨h2, by omega⟩, fun h' => by omega⟩, rfl⟩) (fun h2 => WP.ret ⟨(decide_eq_false (fun h' => h2 h'.1)).symm, rfl⟩)) ?_
  rintro _ _ ⟨rfl, rfl⟩
  exact WP.ret ⟨decide_eq_decide.2 ⟨fun h' => .inr (.inr h'), fun h' => by
   rcases h' with h' | h' | h'
   ·exact absurd (.inl h') hn
   ·exact absurd (.inr h') hn
   ·exact h'⟩, rfl⟩
 rintro _ _ ⟨rfl, rfl⟩
 refine WP.ite (fun h => WP.ret ?_) (fun h => ?_)
 ·have h' := of_decide_eq_true h
  have e : numR (strI t) lo hi = none := by
   unfold numR
   rw [if_pos (by rcases h' with h' | h' | h'; exact .inl h'; exact .inr (.inl h'); exact .inr (.inr (.inl h')))]
  rw [e]
  exact ⟨rfl, (fun v hv => by cases hv), rfl⟩
 have hn : ¬ (strI t = [] ∨ (strI t).length > 9 ∨ ((strI t).getD 0 0 = 48 ∧ (strI t).length > 1)) := fun h' => h (decide_eq_true h')
 have h9 : (strI t).length ≤ 9 := Decidable.byContradiction fun h' => hn (.inr (.inl (by omega)))
 refine WP.loopG (γ := Nat) (fun k (z : Int × Int) w' => z = ((valD ((strI t).take k) : Int), (k : Int)) ∧ k ≤ (strI t).length ∧ (∀ c ∈ (strI t).take k, ZfZ c = true) ∧ w = w') (fun k _ => (strI t).length - k) 0 ⟨rfl, Nat.zero_le _, by simp, rfl⟩ ?_
 rintro k _ _ ⟨rfl, hk, hd, rfl⟩
 show WP (Zbj.L1 t lo hi (valD ((strI t).take k) : Int) (k : Int)) w _
 unfold Zbj.L1
 have hb : ∀ j, 0 ≤ (strI t).getD j 0 ∧ (strI t).getD j 0 ≤ 255 := fun j => by
  have := ZtZ t j
  rw [ZfU] at this
  exact this
 have hv := Zr0 9 ((strI t).take k) (by rw [List.length_take]; omega) hd
 refine WP.ite (fun h1 => ?_) (fun h1 => ?_)
 ·have hk1 : k < (strI t).length := by omega
  refine WP.chk ⟨by omega, h1⟩ ?_
  rw [ZfU]
  have ht : (strI t).take (k + 1) = (strI t).take k ++ [(strI t).getD k 0] := by
   rw [List.take_add_one, List.getD, List.getElem?_eq_getElem hk1]
   rfl
  refine WP.step (R := fun y w' => y = !ZfZ ((strI t).getD k 0) ∧ w = w') (WP.ite (fun h2 => WP.ret ⟨?_, rfl⟩) (fun h2 => WP.chk ⟨by omega, h1⟩ (WP.ret ⟨?_, rfl⟩))) ?_
  ·unfold ZfZ
   rw [decide_eq_false (by omega)]
   rfl
  ·unfold ZfZ
   rw [Bool.eq_iff_iff, Bool.not_eq_true', decide_eq_true_iff, decide_eq_false_iff_not]
   omega
  rintro _ _ ⟨rfl, rfl⟩
  refine WP.ite (fun h2 => WP.done ?_) (fun h2 => WP.chk ⟨by omega, h1⟩ (WP.next ⟨k + 1, ⟨?_, hk1, ?_, rfl⟩, by omega⟩))
  ·have e : numR (strI t) lo hi = none := by
    unfold numR
    rw [if_pos]
    refine .inr (.inr (.inr ?_))
    rw [← Bool.not_eq_true, List.all_eq_true]
    intro hall
    have := hall ((strI t).getD k 0) (by rw [List.getD, List.getElem?_eq_getElem hk1]; exact List.getElem_mem hk1)
    rw [this] at h2
    cases h2
   rw [e]
   exact ⟨rfl, (fun v hv => by cases hv), rfl⟩
  ·have hdg : 48 ≤ (strI t).getD k 0 ∧ (strI t).getD k 0 ≤ 57 := by
    have : ZfZ ((strI t).getD k 0) = true := by simpa using h2
    exact of_decide_eq_true this
   rw [ht, Zmj, ZkT (by omega) (by omega), Zau (n := 10 * (valD ((strI t).take k) : Int)) (by omega) (by omega), Zau (n := (strI t).getD k 0 - 48) (by omega) (by omega), Zau (by omega) (by omega), Zau (by omega) (by omega)]
   refine Prod.ext ?_ ?_
   ·simp only
    omega
   ·simp only
    omega
  ·intro c hc
   rw [ht] at hc
   rcases List.mem_append.1 hc with hc | hc
   ·exact hd c hc
   ·rw [List.mem_singleton.1 hc]
    simpa using h2
 ·have : k = (strI t).length := by omega
  subst this
  rw [List.take_length] at hd ⊢
  have e : numR (strI t) lo hi = if lo ≤ (valD (strI t) : Int) ∧ (valD (strI t) : Int) ≤ hi then some (valD (strI t) : Int) else none := by
   unfold numR
   rw [if_neg]
   rintro (h' | h' | h' | h')
   ·exact hn (.inl h')
   ·exact hn (.inr (.inl h'))
   ·exact hn (.inr (.inr h'))
   ·rw [← Bool.not_eq_true, List.all_eq_true] at h'
    exact h' hd
  refine WP.step (R := fun y w' => y = decide (lo ≤ (valD (strI t) : Int) ∧ (valD (strI t) : Int) ≤ hi) ∧ w = w') ?_ ?_
  ·unfold Zb0
   refine WP.step (R := fun y w' => y = decide (lo ≤ (valD (strI t) : Int) ∧ (valD (strI t) : Int) ≤ hi) ∧ w = w') (WP.ite (fun h2 => WP.ret ⟨decide_eq_decide.2 ⟨fun h' => ⟨h2, h'⟩, fun h' => h'.2⟩, rfl⟩) (fun h2 => WP.ret ⟨(decide_eq_false (fun h' => h2 h'.1)).symm, rfl⟩)) (fun y w h => WP.ret h)
  rintro _ _ ⟨rfl, rfl⟩
  refine WP.done ?_
  rw [e]
  by_cases hh : lo ≤ (valD (strI t) : Int) ∧ (valD (strI t) : Int) ≤ hi
  ·rw [if_pos hh]
   exact ⟨decide_eq_true hh, (fun v hv => by cases hv; rfl), rfl⟩
  ·rw [if_neg hh]
   exact ⟨decide_eq_false hh, (fun v hv => by cases hv), rfl⟩
end
theorem At.trans' {l m k m' l' : List Value} {o o' : Nat} (h : At l o m) (h' : Upd m o' k m') (hl : Upd l o m' l') : Upd l (o + o') k l' := Upd.trans h h' hl
abbrev cRr := Zbp
abbrev cRg := Za5
abbrev cPfx := Zav
theorem Zv5 : strI str2 = tx "tcp" := by decide +kernel
theorem Zv4 : strI str3 = tx "udp" := by decide +kernel
theorem Zu8 : strI str4 = tx "icmp" := by decide +kernel
theorem ZtN : strI str5 = tx "icmp6" := by decide +kernel
theorem ZtM : strI str6 = tx "proto" := by decide +kernel
theorem Zja : strI str1 = ZdI := by decide +kernel
def RSc (r : Zae) (m : Zbf) : Prop := r.Act = m.Act ∧ r.Class = m.Class ∧ r.Kind = m.Kind ∧ r.Proto = m.Proto ∧ r.In = m.In ∧ r.Vid = m.Vid ∧ r.Set = m.Set ∧ r.Clear = m.Clear ∧ r.Type_ = m.Type_ ∧ r.Pieces = m.Pieces
def Zkb (sd : Zaf) (m : ZeT) : HP := ex (fun _ : List Zad × List ZaE => sd.Not = m.Not) (fun q => seps [vec cPfx sd.Nets m.nets q.1, vec cRg sd.Ports m.ports q.2])
def WlOk (wl : List ZaD) : Prop := wl.length ≤ 2000 ∧ ∀ r ∈ wl, r.s.size ≤ 2000
def RrFs (e : Int) (wl : List ZaD) (m : Zbf) (ws : List Wd) (q : Zbs × Nat) : Prop := q.1.i = (q.2 : Int) ∧ q.1.end_ = e ∧ q.1.err = 0 ∧ q.2 ≤ wl.length ∧ WlOk wl ∧ ws = (wl.drop q.2).map wdOf ∧ RSc q.1.rule m
def RrHs (b : Nat) (wl : List ZaD) (m : Zbf) (rr : Zbs) : List HP := [pts true (pt b 0) (cRr.enc rr), rdS cWd false rr.l wl, Zkb rr.rule.From m.From, Zkb rr.rule.To m.To]
def RrA (b : Nat) (wl : List ZaD) (e : Int) (m : Zbf) (ws : List Wd) : HP := ex (RrFs e wl m ws) (fun q => seps (RrHs b wl m q.1))
def RrD (b : Nat) (f : PF) : HP := ex (fun rr : Zbs => rr.err = f.1 ∧ rr.at_ = f.2 ∧ f.1 ≠ 0) (fun rr => pts true (pt b 0) (cRr.enc rr))
section
variable {W w : World} {Hs : List HP} {b : Nat} {wl : List ZaD} {e : Int} {m : Zbf} {ws : List Wd} {f : PF}
theorem Ziw (s : Ss W (RrA b wl e m ws :: Hs) w) : ∃ q, RrFs e wl m ws q ∧ Ss W (RrHs b wl m q.1 ++ Hs) w := by
 obtain ⟨q, hq, s⟩ := s.openx 0 rfl
 exact ⟨q, hq, Ss.split s⟩
theorem ZlE {q : Zbs × Nat} (hq : RrFs e wl m ws q) (s : Ss W (RrHs b wl m q.1 ++ Hs) w) : Ss W (RrA b wl e m ws :: Hs) w := s.group.first (fun h hh => ⟨q, hq, hh⟩)
theorem Zu2 {rr : Zbs} (h1 : rr.err = f.1) (h2 : rr.at_ = f.2) (h3 : f.1 ≠ 0) (s : Ss W (pts true (pt b 0) (cRr.enc rr) :: Hs) w) : Ss W (RrD b f :: Hs) w := s.first (fun h hh => ⟨rr, ⟨h1, h2, h3⟩, hh⟩)
theorem wsOk (s : Ss W (RrA b wl e m ws :: Hs) w) : ∀ x ∈ ws, x.1.length ≤ 2000 := by
 obtain ⟨q, hq, s⟩ := Ziw s
 intro x hx
 rw [hq.2.2.2.2.2.1] at hx
 obtain ⟨r, hr, rfl⟩ := List.mem_map.1 hx
 have := hq.2.2.2.2.1.2 r (List.mem_of_mem_drop hr)
 show (strI r.s).length ≤ 2000
 rw [Zb4]
 exact this
theorem errA {β : Type} {g : Int → M β} {Q : β → World → Prop} (s : Ss W (RrA b wl e m ws :: Hs) w) (k : WP (g 0) w Q) : WP (ld (cI .i64) (Addr.add (pt b 0) 19) >>= g) w Q := by
 obtain ⟨q, hq, s1⟩ := Ziw s
 refine WP.ld (x := q.1.err) s1 0 rfl (o := 19) rfl (ZeP _) ?_
 rw [hq.2.2.1]
 exact k
theorem errD {β : Type} {g : Int → M β} {Q : β → World → Prop} (s : Ss W (RrD b f :: Hs) w) (k : f.1 ≠ 0 → WP (g f.1) w Q) : WP (ld (cI .i64) (Addr.add (pt b 0) 19) >>= g) w Q := by
 obtain ⟨rr, hq, s1⟩ := s.openx 0 rfl
 refine WP.ld (x := rr.err) s1 0 rfl (o := 19) rfl (ZeP _) ?_
 rw [hq.1]
 exact k hq.2.2
theorem Zqb {β : Type} {g : Int → M β} {Q : β → World → Prop} (s : Ss W (RrA b wl e m ws :: Hs) w) (k : WP (g m.Kind) w Q) : WP (ld (cI .i64) (Addr.add (Addr.add (pt b 0) 3) 2) >>= g) w Q := by
 obtain ⟨q, hq, s1⟩ := Ziw s
 refine WP.ld (x := q.1.rule.Kind) s1 0 rfl (o := 5) rfl ((Zb6 _).trans (Zb7 _)) ?_
 rw [hq.2.2.2.2.2.2.2.2.1]
 exact k
theorem Zss {β : Type} {g : Int → M β} {Q : β → World → Prop} (s : Ss W (RrA b wl e m ws :: Hs) w) (k : WP (g m.Proto) w Q) : WP (ld (cI .i64) (Addr.add (Addr.add (pt b 0) 3) 3) >>= g) w Q := by
 obtain ⟨q, hq, s1⟩ := Ziw s
 refine WP.ld (x := q.1.rule.Proto) s1 0 rfl (o := 6) rfl ((Zb6 _).trans (ZbE _)) ?_
 rw [hq.2.2.2.2.2.2.2.2.2.1]
 exact k
def Zw5 (W : World) (Hs : List HP) (b : Nat) (wl : List ZaD) (e : Int) (m : Zbf) (r : ZaD) (w : World) : List Wd → Prop
 | [] => r = Zdm ∧ Ss W (RrD b (161, e) :: Hs) w
 | x :: xs => wdOf r = x ∧ Ss W (RrA b wl e m xs :: Hs) w
def Zw6 (W : World) (Hs : List HP) (b : Nat) (wl : List ZaD) (e : Int) (m : Zbf) (r : ZaD) (w : World) : List Wd → Prop
 | [] => r = Zdm ∧ Ss W (RrD b (161, e) :: Hs) w
 | x :: xs => wdOf r = x ∧ Ss W ((if x.1 = ZdI then RrD b (160, x.2) else RrA b wl e m xs) :: Hs) w
def ZwG (W : World) (Hs : List HP) (b : Nat) (wl : List ZaD) (e : Int) (m : Zbf) (ws : List Wd) (r : Bool) (w : World) : Option (List Wd) → Prop
 | some xs => r = true ∧ Ss W (RrA b wl e m xs :: Hs) w
 | none => r = false ∧ Ss W (RrA b wl e m ws :: Hs) w
def ResR {α : Type} (W : World) (Hs : List HP) (b : Nat) (wl : List ZaD) (e : Int) (m : Zbf) (r : α) (w : World) : PE (α × List Wd) → Prop
 | .ok q => r = q.1 ∧ Ss W (RrA b wl e m q.2 :: Hs) w
 | .error f => Ss W (RrD b f :: Hs) w
def RulR (W : World) (Hs : List HP) (b : Nat) (wl : List ZaD) (e : Int) (w : World) : PE (Zbf × List Wd) → Prop
 | .ok q => Ss W (RrA b wl e q.1 q.2 :: Hs) w
 | .error f => Ss W (RrD b f :: Hs) w
theorem Zd9 (s : Ss W (RrA b wl e m ws :: Hs) w) {e' : Int} (he : e' ≠ 0) (a' : Int) : WP (ZaS (some (pt b 0)) e' a') w (fun _ w' => Ss W (RrD b (e', a') :: Hs) w') := by
 unfold ZaS
 refine WP.nilck (errA s (WP.ite (fun _ => ?_) (fun h => absurd rfl h)))
 obtain ⟨q, hq, s⟩ := Ziw s
 have s : Ss W (pts true (pt b 0) (cRr.enc q.1) :: Hs) w := by
  have s := (s.use [1, 1, 1] rfl).drop.drop.drop
  exact s
 refine WP.nilck (WP.st s 0 rfl (o := 19) rfl (Zj7 _ _) (fun w s => WP.nilck (WP.st s 0 rfl (o := 20) rfl (Zj8 _ _) (fun w s => WP.ret ?_))))
 exact Zu2 rfl rfl he s
theorem Zky {i : Nat} {x : Wd} {xs : List Wd} (h : x :: xs = (wl.drop i).map wdOf) : ∃ r, wl[i]? = some r ∧ wdOf r = x ∧ xs = (wl.drop (i + 1)).map wdOf ∧ i < wl.length := by
 have h1 : i < wl.length := Decidable.byContradiction fun hn => by
  rw [List.drop_of_length_le (by omega)] at h
  cases h
 rw [List.drop_eq_getElem_cons h1, List.map_cons] at h
 injection h with h2 h3
 exact ⟨wl[i], List.getElem?_eq_getElem h1, h2.symm, h3, h1⟩
theorem Zou {i : Nat} (h : ([] : List Wd) = (wl.drop i).map wdOf) (hi : i ≤ wl.length) : i = wl.length := by
 have := congrArg List.length h
 simp at this
 omega
theorem ZiK (s : Ss W (RrA b wl e m ws :: Hs) w) : WP (ZaJ (some (pt b 0))) w (fun r w' => Zw5 W Hs b wl e m r w' ws) := by
 unfold ZaJ
 refine WP.slot' s (fun _ w s => WP.draw' s (fun w s => WP.nilck (errA s ?_)))
 refine WP.step (R := fun y w' => y = decide (ws = []) ∧ w = w') (WP.ite (fun _ => ?_) (fun h => absurd rfl h)) ?_
 ·obtain ⟨q, hq, s⟩ := Ziw s
  have hl := (s.rd_cap (i := 1) rfl).1
  refine WP.nilck (WP.ld (x := q.1.i) s 0 rfl (o := 1) rfl (ZbJ _) (WP.nilck (WP.ld (x := q.1.l) s 0 rfl (o := 0) (by simp [Addr.add]) (Zcz _) (WP.ret ⟨?_, rfl⟩))))
  rw [hq.1, hl, Bool.eq_iff_iff, beq_iff_eq, decide_eq_true_iff, hq.2.2.2.2.2.1]
  have := hq.2.2.2.1
  constructor
  ·intro h
   rw [List.drop_of_length_le (by omega)]
   rfl
  ·intro h
   have := Zou h.symm hq.2.2.2.1
   omega
 rintro _ _ ⟨rfl, rfl⟩
 cases ws with
 | nil =>
  refine WP.ite (fun _ => ?_) (fun h => absurd (decide_eq_true rfl) h)
  have he : ∀ {β : Type} {g : Int → M β} {Q : β → World → Prop}, WP (g e) w Q → WP (ld (cI .i64) (Addr.add (pt b 0) 2) >>= g) w Q := by
   intro β g Q k
   obtain ⟨q, hq, s⟩ := Ziw s
   refine WP.ld (x := q.1.end_) s 0 rfl (o := 2) rfl (Zjx _) ?_
   rw [hq.2.1]
   exact k
  refine WP.nilck (he (WP.step (Zd9 s (by decide) e) ?_))
  intro _ w s
  unfold ZaJ.K1
  exact WP.nilck (errD s (fun h => WP.ite (fun _ => WP.ret ⟨rfl, s⟩) (fun h' => absurd h h')))
 | cons x xs =>
  refine WP.ite (fun h => by simp at h) (fun _ => ?_)
  unfold ZaJ.K1
  refine WP.nilck (errA s (WP.ite (fun h => absurd rfl h) (fun _ => ?_)))
  obtain ⟨⟨rr, i⟩, hq, s⟩ := Ziw s
  obtain ⟨h1, h2, h3, h4, h5, h6, h7⟩ := hq
  have h50 := h5.1
  simp only at h1 h2 h3 h4 h5 h6 h7 s
  obtain ⟨r, hr, hx, hxs, hi⟩ := Zky h6
  have hw : IntKind.wrap .i64 ((i : Int) + 1) = ((i + 1 : Nat) : Int) := by
   rw [Zau (by omega) (by omega)]
   omega
  have hw2 : IntKind.wrap .i64 (((i + 1 : Nat) : Int) - 1) = (i : Int) := by
   rw [Zau (by omega) (by omega)]
   omega
  refine WP.nilck (WP.ld (x := rr.i) s 0 rfl (o := 1) rfl (ZbJ _) (WP.nilck ?_))
  rw [h1, hw]
  refine WP.st s 0 rfl (o := 1) rfl (Zgi _ _) (fun w s => WP.draw' s (fun w s => WP.nilck (WP.ld (x := rr.l) s 0 rfl (o := 0) (by simp [Addr.add]) (Zcz _) (WP.nilck (WP.ld (x := ((i + 1 : Nat) : Int)) s 0 rfl (o := 1) rfl (ZbJ _) ?_)))))
  rw [hw2]
  refine WP.rdx s 1 rfl ZbD (by omega) (x := r) (by rw [Int.toNat_natCast]; exact hr) rfl (WP.ret ⟨hx, ?_⟩)
  exact ZlE (q := (⟨rr.l, ((i + 1 : Nat) : Int), rr.end_, rr.rule, rr.err, rr.at_⟩, i + 1)) ⟨rfl, h2, h3, hi, h5, hxs, h7⟩ s
theorem ZpV (s : Ss W (RrD b f :: Hs) w) : WP (ZaJ (some (pt b 0))) w (fun r w' => r = Zdm ∧ Ss W (RrD b f :: Hs) w') := by
 unfold ZaJ
 refine WP.slot' s (fun _ w s => WP.draw' s (fun w s => WP.nilck (errD s (fun h => ?_))))
 refine WP.step (R := fun y w' => y = false ∧ w = w') (WP.ite (fun h' => absurd h' h) (fun _ => WP.ret ⟨rfl, rfl⟩)) ?_
 rintro _ _ ⟨rfl, rfl⟩
 refine WP.ite (fun h => by cases h) (fun _ => ?_)
 unfold ZaJ.K1
 exact WP.nilck (errD s (fun h => WP.ite (fun _ => WP.ret ⟨rfl, s⟩) (fun h' => absurd h h')))
theorem ZiL (s : Ss W (RrA b wl e m ws :: Hs) w) : WP (Zb9 (some (pt b 0))) w (fun r w' => Zw6 W Hs b wl e m r w' ws) := by
 unfold Zb9
 refine WP.slot' s (fun _ w s => WP.step (ZiK s) ?_)
 intro r w h
 cases ws with
 | nil =>
  obtain ⟨hx, s1⟩ := h
  subst hx
  refine WP.slot' s1 (fun _ w s => WP.ite (fun h => ?_) (fun h => WP.ret ⟨rfl, s⟩))
  rw [Zcw, Zja] at h
  cases h
 | cons x xs =>
  obtain ⟨hx, s1⟩ := h
  subst hx
  refine WP.slot' s1 (fun _ w s => WP.ite (fun h => WP.step (Zd9 s (by decide) r.at_) ?_) (fun h => WP.ret ⟨rfl, ?_⟩))
  ·intro _ w s
   rw [Zcw, Zja] at h
   refine WP.ret ⟨rfl, ?_⟩
   rw [if_pos (show (wdOf r).1 = ZdI from h)]
   exact s
  ·rw [Zcw, Zja] at h
   rw [if_neg (show ¬ (wdOf r).1 = ZdI from h)]
   exact s
theorem ZgU (s : Ss W (RrA b wl e m ws :: Hs) w) {t : ByteArray} {t' : List Int} (ht : strI t = t') : WP (Zbr (some (pt b 0)) t) w (fun r w' => ZwG W Hs b wl e m ws r w' (Zfx t' ws)) := by
 subst ht
 unfold Zbr
 refine WP.draw' s (fun w s => WP.nilck (errA s ?_))
 refine WP.step (R := fun y w' => y = decide (ws = []) ∧ w = w') (WP.ite (fun h => absurd rfl h) (fun _ => ?_)) ?_
 ·obtain ⟨q, hq, s⟩ := Ziw s
  have hl := (s.rd_cap (i := 1) rfl).1
  refine WP.nilck (WP.ld (x := q.1.i) s 0 rfl (o := 1) rfl (ZbJ _) (WP.nilck (WP.ld (x := q.1.l) s 0 rfl (o := 0) (by simp [Addr.add]) (Zcz _) (WP.ret ⟨?_, rfl⟩))))
  rw [hq.1, hl, Bool.eq_iff_iff, beq_iff_eq, decide_eq_true_iff, hq.2.2.2.2.2.1]
  have := hq.2.2.2.1
  constructor
  ·intro h
   rw [List.drop_of_length_le (by omega)]
   rfl
  ·intro h
   have := Zou h.symm hq.2.2.2.1
   omega
 rintro _ _ ⟨rfl, rfl⟩
 cases ws with
 | nil =>
  refine WP.step (R := fun y w' => y = true ∧ w = w') (WP.ite (fun _ => WP.ret ⟨rfl, rfl⟩) (fun h => absurd (decide_eq_true rfl) h)) ?_
  rintro _ _ ⟨rfl, rfl⟩
  exact WP.ite (fun _ => WP.ret ⟨rfl, s⟩) (fun h => absurd rfl h)
 | cons x xs =>
  obtain ⟨⟨rr, i⟩, hq, s1⟩ := Ziw s
  obtain ⟨h1, h2, h3, h4, h5, h6, h7⟩ := hq
  have h50 := h5.1
  simp only at h1 h2 h3 h4 h5 h6 h7 s1
  obtain ⟨r, hr, hx, hxs, hi⟩ := Zky h6
  have hr' : wl[(i : Int).toNat]? = some r := by rw [Int.toNat_natCast]; exact hr
  have hw : IntKind.wrap .i64 ((i : Int) + 1) = ((i + 1 : Nat) : Int) := by
   rw [Zau (by omega) (by omega)]
   omega
  refine WP.step (R := fun y w' => y = !decide (x.1 = strI t) ∧ w = w') (WP.ite (fun h => by simp at h) (fun _ => ?_)) ?_
  ·refine WP.nilck (WP.ld (x := rr.l) s1 0 rfl (o := 0) (by simp [Addr.add]) (Zcz _) (WP.nilck (WP.ld (x := rr.i) s1 0 rfl (o := 1) rfl (ZbJ _) ?_)))
   rw [h1]
   refine WP.rdxp0 s1 1 rfl ZbD (by omega) hr' rfl (Zbt _) (WP.ret ⟨?_, rfl⟩)
   congr 1
   rw [Bool.eq_iff_iff, beq_iff_eq, decide_eq_true_iff, Zcw, ← hx]
   exact Iff.rfl
  rintro _ _ ⟨rfl, rfl⟩
  rw [show Zfx (strI t) (x :: xs) = if x.1 = strI t then some xs else none from rfl]
  by_cases hc : x.1 = strI t
  ·rw [if_pos hc]
   refine WP.ite (fun h => by simp [hc] at h) (fun _ => ?_)
   refine WP.nilck (WP.ld (x := rr.i) s1 0 rfl (o := 1) rfl (ZbJ _) (WP.nilck ?_))
   rw [h1, hw]
   refine WP.st s1 0 rfl (o := 1) rfl (Zgi _ _) (fun w s => WP.ret ⟨rfl, ?_⟩)
   exact ZlE (q := (⟨rr.l, ((i + 1 : Nat) : Int), rr.end_, rr.rule, rr.err, rr.at_⟩, i + 1)) ⟨rfl, h2, h3, hi, h5, hxs, h7⟩ s
  ·rw [if_neg hc]
   exact WP.ite (fun _ => WP.ret ⟨rfl, s⟩) (fun h => by simp [hc] at h)
theorem ZgV (s : Ss W (RrD b f :: Hs) w) (t : ByteArray) : WP (Zbr (some (pt b 0)) t) w (fun r w' => r = false ∧ Ss W (RrD b f :: Hs) w') := by
 unfold Zbr
 refine WP.draw' s (fun w s => WP.nilck (errD s (fun h => ?_)))
 refine WP.step (R := fun y w' => y = true ∧ w = w') (WP.ite (fun _ => WP.ret ⟨rfl, rfl⟩) (fun h' => absurd h h')) ?_
 rintro _ _ ⟨rfl, rfl⟩
 refine WP.step (R := fun y w' => y = true ∧ w = w') (WP.ite (fun _ => WP.ret ⟨rfl, rfl⟩) (fun h => absurd rfl h)) ?_
 rintro _ _ ⟨rfl, rfl⟩
 exact WP.ite (fun _ => WP.ret ⟨rfl, s⟩) (fun h => absurd rfl h)
theorem Zl2 (s : Ss W (RrA b wl e m ws :: Hs) w) (lo hi : Int) : WP (Zb2 (some (pt b 0)) lo hi) w (fun r w' => ResR W Hs b wl e m r w' (numP e lo hi ws)) := by
 unfold Zb2
 refine WP.step (ZiL s) ?_
 intro r w h
 have dead : ∀ {w : World} {f : PF}, Ss W (RrD b f :: Hs) w → WP (slot 122 >>= fun b2 => Zbj r.s lo hi >>= fun r3 => nilck (some (pt b 0)) >>= fun p4 => ld (cI .i64) (Addr.add p4 19) >>= fun x5 =>
   (if x5 = 0 then pure (!r3.2) else pure false) >>= fun y6 => if y6 = true then ZaS (some (pt b 0)) 162 r.at_ >>= fun r8 => pure r3.1 else pure r3.1) w (fun _ w' => Ss W (RrD b f :: Hs) w') := by
  intro w f s
  refine WP.slot' s (fun _ w s => WP.step (Zlz r.s lo hi) ?_)
  rintro q _ ⟨-, -, rfl⟩
  refine WP.nilck (errD s (fun h => ?_))
  refine WP.step (R := fun y w' => y = false ∧ w = w') (WP.ite (fun h' => absurd h' h) (fun _ => WP.ret ⟨rfl, rfl⟩)) ?_
  rintro _ _ ⟨rfl, rfl⟩
  exact WP.ite (fun h => by cases h) (fun _ => WP.ret s)
 cases ws with
 | nil => exact dead h.2
 | cons x xs =>
  obtain ⟨hx, s1⟩ := h
  clear s
  have s := s1
  clear s1
  subst hx
  rw [show numP e lo hi (wdOf r :: xs) = if (wdOf r).1 = ZdI then .error (160, (wdOf r).2) else match numR (wdOf r).1 lo hi with
   | none => .error (162, (wdOf r).2)
   | some n => .ok (n, xs) from rfl]
  by_cases hc : (wdOf r).1 = ZdI
  ·rw [if_pos hc] at s ⊢
   exact dead s
  ·rw [if_neg hc] at s ⊢
   refine WP.slot' s (fun _ w s => WP.step (Zlz r.s lo hi) ?_)
   rintro q _ ⟨h1, h2, rfl⟩
   have hr : (wdOf r).1 = strI r.s := rfl
   rw [hr]
   refine WP.nilck (errA s ?_)
   refine WP.step (R := fun y w' => y = !q.2 ∧ w = w') (WP.ite (fun _ => WP.ret ⟨rfl, rfl⟩) (fun h => absurd rfl h)) ?_
   rintro _ _ ⟨rfl, rfl⟩
   rw [h1]
   cases hn : numR (strI r.s) lo hi with
   | none =>
    refine WP.ite (fun _ => WP.step (Zd9 s (by decide) r.at_) ?_) (fun h => absurd rfl h)
    intro _ w s
    exact WP.ret s
   | some v => exact WP.ite (fun h => by cases h) (fun _ => WP.ret ⟨h2 v hn, s⟩)
theorem setA {β α : Type} {c : Cod α} {v : α} {o : Nat} {m' : Zbf} {g : Unit → M β} {Q : β → World → Prop} (s : Ss W (RrA b wl e m ws :: Hs) w) (r' : Zae → Zae) (up : ∀ r, Upd (Zak.enc r) o (c.enc v) (Zak.enc (r' r))) (hs : ∀ r, RSc r m → RSc (r' r) m') (hf : ∀ r, (r' r).From = r.From ∧ (r' r).To = r.To)
  (hm : m'.From = m.From ∧ m'.To = m.To) (k : ∀ w, Ss W (RrA b wl e m' ws :: Hs) w → WP (g ()) w Q) : WP (st c (Addr.add (Addr.add (pt b 0) 3) o) v >>= g) w Q := by
 obtain ⟨⟨rr, i⟩, hq, s⟩ := Ziw s
 obtain ⟨h1, h2, h3, h4, h5, h6, h7⟩ := hq
 refine WP.st s 0 rfl (o := 3 + o) (by rw [ZeN]) ((Zb6 rr).trans' (up rr.rule) (Zen rr _)) (fun w s => k w ?_)
 refine ZlE (q := (⟨rr.l, rr.i, rr.end_, r' rr.rule, rr.err, rr.at_⟩, i)) ⟨h1, h2, h3, h4, h5, h6, hs _ h7⟩ ?_
 unfold RrHs
 simp only
 rw [(hf rr.rule).1, (hf rr.rule).2, hm.1, hm.2]
 exact s
theorem setD {β α : Type} {c : Cod α} {v : α} {o : Nat} {g : Unit → M β} {Q : β → World → Prop} (s : Ss W (RrD b f :: Hs) w) (r' : Zae → Zae) (up : ∀ r, Upd (Zak.enc r) o (c.enc v) (Zak.enc (r' r))) (k : ∀ w, Ss W (RrD b f :: Hs) w → WP (g ()) w Q) : WP (st c (Addr.add (Addr.add (pt b 0) 3) o) v >>= g) w Q := by
 obtain ⟨rr, hq, s⟩ := s.openx 0 rfl
 refine WP.st s 0 rfl (o := 3 + o) (by rw [ZeN]) ((Zb6 rr).trans' (up rr.rule) (Zen rr _)) (fun w s => k w ?_)
 exact Zu2 (rr := ⟨rr.l, rr.i, rr.end_, r' rr.rule, rr.err, rr.at_⟩) hq.1 hq.2.1 hq.2.2 s
theorem ZnJ (t : ByteArray) : WP (Zd6 t) w (fun r w' => r = (match ZnK (strI t) with
  | some n => (n, true)
  | none => (0, false)) ∧ w = w') := by
 unfold Zd6 ZnK
 have e1 : t.toList = (str2).toList ↔ strI t = tx "tcp" := by rw [Zcw, Zv5]
 have e2 : t.toList = (str3).toList ↔ strI t = tx "udp" := by rw [Zcw, Zv4]
 have e3 : t.toList = (str4).toList ↔ strI t = tx "icmp" := by rw [Zcw, Zu8]
 have e4 : t.toList = (str5).toList ↔ strI t = tx "icmp6" := by rw [Zcw, ZtN]
 refine WP.ite (fun h => WP.ret ⟨by rw [if_pos (e1.1 h)], rfl⟩) (fun h => WP.ite (fun h2 => WP.ret ⟨by rw [if_neg (fun h' => h (e1.2 h')), if_pos (e2.1 h2)], rfl⟩) (fun h2 => WP.ite (fun h3 => WP.ret ⟨by rw [if_neg (fun h' => h (e1.2 h')), if_neg (fun h' => h2 (e2.2 h')), if_pos (e3.1 h3)], rfl⟩) (fun h3 => WP.ite (fun h4 => WP.ret ⟨by rw [if_neg (fun h' => h (e1.2 h')), if_neg (fun h' => h2 (e2.2 h')), if_neg (fun h' => h3 (e3.2 h')), if_pos (e4.1 h4)], rfl⟩) (fun h4 => WP.ret ⟨by rw [if_neg (fun h' => h (e1.2 h')), if_neg (fun h' => h2 (e2.2 h')), if_neg (fun h' => h3 (e3.2 h')), if_neg (fun h' => h4 (e4.2 h'))], rfl⟩))))
theorem Zpz (s : Ss W Hs w) (r : ZaD) : WP (Zd8 r) w (fun y w' => y = Zgy (strI r.s) ∧ Ss W Hs w') := by
 unfold Zd8 Zgy
 refine WP.slot' s (fun _ w s => WP.step (ZnJ r.s) ?_)
 rintro _ _ ⟨rfl, rfl⟩
 cases ZnK (strI r.s) with
 | some n =>
  refine WP.step (R := fun y w' => y = true ∧ w = w') (WP.ite (fun _ => WP.ret ⟨rfl, rfl⟩) (fun h => absurd rfl h)) ?_
  rintro _ _ ⟨rfl, rfl⟩
  exact WP.ret ⟨rfl, s⟩
 | none =>
  refine WP.step (R := fun y w' => y = decide (strI r.s = tx "proto") ∧ w = w') (WP.ite (fun h => by cases h) (fun _ => WP.ret ⟨?_, rfl⟩)) ?_
  ·rw [Bool.eq_iff_iff, beq_iff_eq, decide_eq_true_iff, Zcw, ZtM]
  rintro _ _ ⟨rfl, rfl⟩
  exact WP.ret ⟨rfl, s⟩
theorem ZnG (s : Ss W (RrA b wl e m ws :: Hs) w) (r : ZaD) : WP (Zcj (some (pt b 0)) r) w (fun _ w' => RulR W Hs b wl e w' (match ZiM e m.Kind (wdOf r) ws with
  | .ok q => .ok ({ m with Proto := q.1 }, q.2)
  | .error f => .error f)) := by
 unfold Zcj ZiM
 have set : ∀ {w : World} {xs : List Wd} {n : Int}, Ss W (RrA b wl e m xs :: Hs) w → WP (nilck (some (pt b 0)) >>= fun p => st (cI .i64) (Addr.add (Addr.add p 3) 3) n >>= fun _ => pure ()) w (fun _ w' => Ss W (RrA b wl e { m with Proto := n } xs :: Hs) w') := by
  intro w xs n s
  exact WP.nilck (setA (m' := { m with Proto := n }) s (fun r => { r with Proto := n }) (fun r => Zfp r n) (fun r h => ⟨h.1, h.2.1, h.2.2.1, rfl, h.2.2.2.2⟩) (fun r => ⟨rfl, rfl⟩) ⟨rfl, rfl⟩ (fun w s => WP.ret s))
 refine WP.slot' s (fun _ w s => WP.nilck (Zqb s (WP.ite (fun h => ?_) (fun h => ?_))))
 ·rw [if_pos h]
  refine WP.step (Zd9 s (by decide) r.at_) ?_
  intro _ w s
  exact WP.ret s
 rw [if_neg h]
 refine WP.step (ZnJ r.s) ?_
 rintro _ _ ⟨rfl, rfl⟩
 have hr : (wdOf r).1 = strI r.s := rfl
 rw [hr]
 cases hp : ZnK (strI r.s) with
 | some n => exact WP.ite (fun h => absurd rfl h) (fun _ => set s)
 | none =>
  refine WP.ite (fun _ => WP.step (Zl2 s 1 255) ?_) (fun h => absurd (by simp) h)
  intro v w h
  cases hn : numP e 1 255 ws with
  | ok q =>
   rw [hn] at h
   obtain ⟨rfl, s⟩ := h
   exact set s
  | error f =>
   rw [hn] at h
   exact WP.nilck (setD h (fun r => { r with Proto := v }) (fun r => Zfp r v) (fun w s => WP.ret s))
end
def NmP (g : Nat) (l : List ByteArray) : HP := ex (fun _ : Sl => True) (fun sl => seps [pts false ⟨g, 0, none⟩ (cL.enc sl), rdS cS false sl l])
theorem Ro.nmP {g : Nat} {l : List ByteArray} : Ro (NmP g l) := Ro.ex fun sl => Ro.seps fun A hA => by
 simp only [List.mem_cons, List.not_mem_nil, or_false] at hA
 rcases hA with rfl | rfl
 ·exact Ro.pts
 ·exact Ro.rdS
def idxI (l : List (List Int)) (t : List Int) : Int := match idxT l t with
 | none => -1
 | some k => (k : Int)
theorem Zs0 (x : List Int) (l : List (List Int)) (t : List Int) : idxT (x :: l) t = if x = t then some 0 else (idxT l t).map (· + 1) := by
 unfold idxT
 rw [List.findIdx?_cons]
 by_cases h : x = t
 ·simp [h]
 ·simp [h]
theorem ZmJ {l : List (List Int)} {t : List Int} {k : Nat} (h : idxT l t = some k) : k < l.length := by
 unfold idxT at h
 exact (List.findIdx?_eq_some_iff_getElem.1 h).1
def actB : List ByteArray := actN.map bstr
def Zor : List ByteArray := ZrC.map bstr
theorem Ztw : actB.map strI = actN := by decide +kernel
theorem Zum : Zor.map strI = ZrC := by decide +kernel
theorem ZuV : strI str8 = tx "any" := by decide +kernel
theorem ZtO : strI str7 = tx "class" := by decide +kernel
section
variable {W w : World} {Hs : List HP}
theorem Zuq {A : HP} {sl : Sl} {l : List ByteArray} (s : Ss W Hs w) (i : Nat) (e : nth Hs i = some A) (rd : Rdb A cS sl l) (hl : l.length ≤ 1000) (t : ByteArray) : WP (Zaq sl t) w (fun r w' => r = idxI (l.map strI) (strI t) ∧ w = w') := by
 unfold Zaq
 have hn := (s.rd_len e rd).1
 refine WP.loopG (γ := Nat) (fun k (x : Int) w' => x = (k : Int) ∧ k ≤ l.length ∧ idxI (l.map strI) (strI t) = (match idxT ((l.drop k).map strI) (strI t) with
  | none => -1
  | some j => ((k + j : Nat) : Int)) ∧ w = w') (fun k _ => l.length - k) 0 ⟨rfl, Nat.zero_le _, by unfold idxI; simp, rfl⟩ ?_
 rintro k _ _ ⟨rfl, hk, hi, rfl⟩
 show WP (Zaq.L1 sl t (k : Int)) w _
 unfold Zaq.L1
 refine WP.ite (fun h => ?_) (fun h => WP.done ⟨?_, rfl⟩)
 ·have h1 : k < l.length := by omega
  have hd : (l.drop k).map strI = strI l[k] :: (l.drop (k + 1)).map strI := by rw [List.drop_eq_getElem_cons h1, List.map_cons]
  rw [hd, Zs0] at hi
  refine WP.rdx s i e rd (by omega) (x := l[k]) (by rw [Int.toNat_natCast, List.getElem?_eq_getElem h1]) rfl (WP.ite (fun h2 => WP.done ⟨?_, rfl⟩) (fun h2 => WP.next ⟨k + 1, ⟨?_, h1, ?_, rfl⟩, by omega⟩))
  ·rw [Zcw] at h2
   rw [hi, if_pos h2.symm]
   rfl
  ·rw [Zau (by omega) (by omega)]
   omega
  ·rw [Zcw] at h2
   rw [hi, if_neg (fun h => h2 h.symm)]
   cases idxT ((l.drop (k + 1)).map strI) (strI t) with
   | none => rfl
   | some j =>
    simp only [Option.map_some]
    congr 1
    omega
 ·have : k = l.length := by omega
  subst this
  rw [hi, List.drop_length]
  rfl
theorem Zjd {β : Type} {g : Nat} {l : List ByteArray} {t : ByteArray} {F : Int → M β} {Q : β → World → Prop} (s : Ss W Hs w) (i : Nat) (e : nth Hs i = some (NmP g l)) (hl : l.length ≤ 1000) (k : WP (F (idxI (l.map strI) (strI t))) w Q) : WP (ld cL ⟨g, 0, none⟩ >>= fun x => Zaq x t >>= F) w Q := by
 obtain ⟨sl, -, s1⟩ := (s.dup e Ro.nmP).openx 0 rfl
 have s1 : Ss W (pts false ⟨g, 0, none⟩ (cL.enc sl) :: rdS cS false sl l :: Hs) w := Ss.split (l := [_, _]) s1
 refine WP.ld (x := sl) s1 0 rfl (o := 0) (by simp [Addr.add]) (At.whole _) (WP.step (Zuq s1 1 rfl ZbD hl t) ?_)
 rintro _ _ ⟨rfl, rfl⟩
 exact k
variable {b : Nat} {wl : List ZaD} {e : Int} {m : Zbf} {ws : List Wd} {f : PF}
theorem ldD {β α : Type} {c : Cod α} {o : Nat} {F : α → M β} {Q : β → World → Prop} (s : Ss W (RrD b f :: Hs) w) (g : Zae → α) (ha : ∀ r, At (Zak.enc r) o (c.enc (g r))) (k : ∀ x, WP (F x) w Q) : WP (ld c (Addr.add (Addr.add (pt b 0) 3) o) >>= F) w Q := by
 obtain ⟨rr, hq, s1⟩ := s.openx 0 rfl
 exact WP.ld (x := g rr.rule) s1 0 rfl (o := 3 + o) (by rw [ZeN]) ((Zb6 rr).trans (ha rr.rule)) (k _)
theorem ldA {β α : Type} {c : Cod α} {o : Nat} {v : α} {F : α → M β} {Q : β → World → Prop} (s : Ss W (RrA b wl e m ws :: Hs) w) (g : Zae → α) (ha : ∀ r, At (Zak.enc r) o (c.enc (g r))) (hv : ∀ r, RSc r m → g r = v) (k : WP (F v) w Q) : WP (ld c (Addr.add (Addr.add (pt b 0) 3) o) >>= F) w Q := by
 obtain ⟨⟨rr, i⟩, hq, s1⟩ := Ziw s
 refine WP.ld (x := g rr.rule) s1 0 rfl (o := 3 + o) (by rw [ZeN]) ((Zb6 rr).trans (ha rr.rule)) ?_
 rw [hv rr.rule hq.2.2.2.2.2.2]
 exact k
def Zvk : List Wd → Bool
 | [] => false
 | v :: _ => Zgy v.1
def ZtI (e : Int) (k : Nat) : List Wd → PE ((Int × Int) × List Wd)
 | [] => .ok (((k : Int) + 1, 0), [])
 | v :: r => if Zgy v.1 = true then (match ZiM e ((k : Int) + 1) v r with
  | .error f => .error f
  | .ok (n, r) => .ok (((k : Int) + 1, n), r)) else .ok (((k : Int) + 1, 0), v :: r)
theorem ZwU {β : Type} {F : Bool → M β} {Q : β → World → Prop} (s : Ss W (RrA b wl e m ws :: Hs) w) (k : WP (F (Zvk ws)) w Q) (hk : ∀ w', Ss W (RrA b wl e m ws :: Hs) w' → WP (F (Zvk ws)) w' Q) :
  WP ((nilck (some (pt b 0)) >>= fun p102 => ld (cI .i64) (Addr.add p102 1) >>= fun x103 => nilck (some (pt b 0)) >>= fun p104 => ld cL p104 >>= fun x105 => pure (decide (x103 < (x105.len : Int)))) >>= fun y106 =>
   (if y106 = true then nilck (some (pt b 0)) >>= fun p107 => ld cL p107 >>= fun x108 => nilck (some (pt b 0)) >>= fun p109 => ld (cI .i64) (Addr.add p109 1) >>= fun x110 => idx x108.a x108.len x110 2 >>= fun p111 => ld Zbw p111 >>= fun x112 => Zd8 x112 >>= fun r113 => pure r113 else pure false) >>= F) w Q := by
 obtain ⟨⟨rr, i⟩, hq, s1⟩ := Ziw s
 obtain ⟨h1, h2, h3, h4, h5, h6, h7⟩ := id hq
 simp only at h1 h2 h3 h4 h5 h6 h7 s1
 have hl := (s1.rd_cap (i := 1) rfl).1
 refine WP.step (R := fun y w' => y = decide (i < wl.length) ∧ w = w') (WP.nilck (WP.ld (x := rr.i) s1 0 rfl (o := 1) rfl (ZbJ _) (WP.nilck (WP.ld (x := rr.l) s1 0 rfl (o := 0) (by simp [Addr.add]) (Zcz _) (WP.ret ⟨?_, rfl⟩))))) ?_
 ·rw [h1, hl]
  exact decide_eq_decide.2 (by omega)
 rintro _ _ ⟨rfl, rfl⟩
 cases ws with
 | nil =>
  have := Zou h6 h4
  refine WP.step (R := fun y w' => y = false ∧ w = w') (WP.ite (fun h => absurd (of_decide_eq_true h) (by omega)) (fun _ => WP.ret ⟨rfl, rfl⟩)) ?_
  rintro _ _ ⟨rfl, rfl⟩
  exact k
 | cons v r =>
  obtain ⟨d, hd, hx, hxs, hi⟩ := Zky h6
  refine WP.step (R := fun y w' => y = Zgy v.1 ∧ Ss W (RrA b wl e m (v :: r) :: Hs) w') (WP.ite (fun _ => ?_) (fun h => absurd (decide_eq_true hi) h)) ?_
  ·refine WP.nilck (WP.ld (x := rr.l) s1 0 rfl (o := 0) (by simp [Addr.add]) (Zcz _) (WP.nilck (WP.ld (x := rr.i) s1 0 rfl (o := 1) rfl (ZbJ _) ?_)))
   rw [h1]
   refine WP.rdx s1 1 rfl ZbD (by omega) (x := d) (by rw [Int.toNat_natCast]; exact hd) rfl (WP.step (Zpz s d) ?_)
   rintro _ w ⟨rfl, s⟩
   refine WP.ret ⟨?_, s⟩
   rw [← hx]
   rfl
  rintro _ w ⟨rfl, s⟩
  exact hk w s
theorem ZnC (w : Wd) (ws : List Wd) : ZoH e (w :: ws) = if w.1 = tx "any" then .ok ((0, 0), ws) else match idxT ZrC w.1 with
  | none => if Zgy w.1 = true then (match ZiM e 0 w ws with
    | .error f => .error f
    | .ok (n, r) => .ok ((0, n), r)) else .error (160, w.2)
  | some k => ZtI e k ws := rfl
def ZrU (m : Zbf) (X : PE ((Int × Int) × List Wd)) : PE (Zbf × List Wd) := match X with
 | .error f => .error f
 | .ok (k, r) => .ok ({ m with Kind := k.1, Proto := k.2 }, r)
theorem Zs5 (s : Ss W (RrA b wl e m ws :: Hs) w) (h0 : m.Kind = 0 ∧ m.Proto = 0) (ik : Nat) (ek : nth Hs ik = some (NmP 1 Zor)) :
  WP (Zat.K1 (some (pt b 0))) w (fun _ w' => RulR W Hs b wl e w' (ZrU m (ZoH e ws))) := by
 unfold Zat.K1
 have hm : ({ m with Kind := 0, Proto := 0 } : Zbf) = m := by
  obtain ⟨h1, h2⟩ := h0
  cases m
  simp only at h1 h2
  subst h1
  subst h2
  rfl
 refine WP.step (ZiK s) ?_
 intro r w h
 cases ws with
 | nil =>
  obtain ⟨rfl, s1⟩ := h
  refine WP.nilck (errD s1 (fun h => ?_))
  refine WP.step (R := fun y w' => y = true ∧ w = w') (WP.ite (fun _ => WP.ret ⟨rfl, rfl⟩) (fun h' => absurd h h')) ?_
  rintro _ _ ⟨rfl, rfl⟩
  exact WP.ite (fun _ => WP.ret s1) (fun h => absurd rfl h)
 | cons x xs =>
  obtain ⟨hx, s1⟩ := h
  clear s
  have s := s1
  clear s1
  subst hx
  have hr : (wdOf r).1 = strI r.s := rfl
  rw [ZnC, hr]
  refine WP.nilck (errA s ?_)
  refine WP.step (R := fun y w' => y = decide (strI r.s = tx "any") ∧ w = w') (WP.ite (fun h => absurd rfl h) (fun _ => WP.ret ⟨?_, rfl⟩)) ?_
  ·rw [Bool.eq_iff_iff, beq_iff_eq, decide_eq_true_iff, Zcw, ZuV]
  rintro _ _ ⟨rfl, rfl⟩
  refine WP.ite (fun h => ?_) (fun h => ?_)
  ·rw [if_pos (of_decide_eq_true h)]
   show WP _ w (fun _ w' => Ss W (RrA b wl e { m with Kind := 0, Proto := 0 } xs :: Hs) w')
   rw [hm]
   exact WP.ret s
  rw [if_neg (fun h' => h (decide_eq_true h'))]
  refine Zjd s (ik + 1) ek (by decide) ?_
  rw [Zum]
  have hlt : ∀ k, idxT ZrC (strI r.s) = some k → k < 3 := fun k h => ZmJ h
  unfold idxI
  cases hk : idxT ZrC (strI r.s) with
  | none =>
   refine WP.nilck (setA (m' := m) s (fun r => { r with Kind := 0 }) (fun r => Zih r _) (fun r h => ⟨h.1, h.2.1, h0.1.symm, h.2.2.2⟩) (fun r => ⟨rfl, rfl⟩) ⟨rfl, rfl⟩ (fun w s => WP.nilck (Zqb s ?_)))
   rw [h0.1]
   refine WP.step (R := fun y w' => y = Zgy (strI r.s) ∧ Ss W (RrA b wl e m xs :: Hs) w') (WP.ite (fun _ => WP.step (Zpz s r) (fun y w h => WP.ret h)) (fun h => absurd rfl h)) ?_
   rintro _ w ⟨rfl, s⟩
   refine WP.ite (fun h2 => ?_) (fun h2 => ?_)
   ·rw [if_pos h2]
    refine WP.step (ZnG s r) ?_
    intro _ w h
    refine WP.ret ?_
    rw [h0.1] at h
    cases hp : ZiM e 0 (wdOf r) xs with
    | error f =>
     rw [hp] at h
     exact h
    | ok q =>
     rw [hp] at h
     exact h
   ·rw [if_neg h2]
    refine WP.nilck (Zqb s ?_)
    rw [h0.1]
    refine WP.ite (fun _ => WP.step (Zd9 s (by decide) r.at_) ?_) (fun h => absurd rfl h)
    intro _ w s
    exact WP.ret s
  | some k =>
   have hk3 := hlt k hk
   have hw : IntKind.wrap .i64 ((k : Int) + 1) = (k : Int) + 1 := Zau (by omega) (by omega)
   simp only
   rw [hw]
   refine WP.nilck (setA (m' := { m with Kind := (k : Int) + 1 }) s (fun r => { r with Kind := (k : Int) + 1 }) (fun r => Zih r _) (fun r h => ⟨h.1, h.2.1, rfl, h.2.2.2⟩) (fun r => ⟨rfl, rfl⟩) ⟨rfl, rfl⟩ (fun w s => WP.nilck (Zqb s ?_)))
   simp only
   refine WP.step (R := fun y w' => y = false ∧ w = w') (WP.ite (fun h => absurd h (by omega)) (fun _ => WP.ret ⟨rfl, rfl⟩)) ?_
   rintro _ _ ⟨rfl, rfl⟩
   refine WP.ite (fun h => by cases h) (fun _ => WP.nilck (Zqb s ?_))
   simp only
   refine WP.ite (fun h => absurd h (by omega)) (fun _ => WP.draw' s (fun w s => WP.nilck (Zqb s ?_)))
   simp only
   rw [if_pos (by omega)]
   have hmp : m.Proto = 0 := h0.2
   have fin : ∀ {w : World}, Ss W (RrA b wl e { m with Kind := (k : Int) + 1 } xs :: Hs) w → WP (if Zvk xs = true then ZaJ (some (pt b 0)) >>= fun r117 => Zcj (some (pt b 0)) r117 >>= fun r118 => pure () else pure ()) w (fun _ w' => RulR W Hs b wl e w' (ZrU m (ZtI e k xs))) := by
    intro w s
    have hm3 : ({ m with Kind := (k : Int) + 1 } : Zbf) = { m with Kind := (k : Int) + 1, Proto := 0 } := by
     cases m
     simp only at hmp
     rw [hmp]
    cases xs with
    | nil =>
     rw [hm3] at s
     exact WP.ite (fun h => by cases h) (fun _ => WP.ret s)
    | cons v r2 =>
     rw [show ZtI e k (v :: r2) = if Zgy v.1 = true then (match ZiM e ((k : Int) + 1) v r2 with
      | .error f => .error f
      | .ok (n, r) => .ok (((k : Int) + 1, n), r)) else .ok (((k : Int) + 1, 0), v :: r2) from rfl]
     refine WP.ite (fun h2 => ?_) (fun h2 => ?_)
     ·rw [if_pos (show Zgy v.1 = true from h2)]
      refine WP.step (ZiK s) ?_
      rintro d w ⟨hd, s1⟩
      subst hd
      refine WP.step (ZnG s1 d) ?_
      intro _ w h
      refine WP.ret ?_
      simp only at h
      cases hp : ZiM e ((k : Int) + 1) (wdOf d) r2 with
      | error f =>
       rw [hp] at h
       exact h
      | ok q =>
       rw [hp] at h
       exact h
     ·rw [if_neg (show ¬ Zgy v.1 = true from h2)]
      rw [hm3] at s
      exact WP.ret s
   exact ZwU s (fin s) (fun w s => fin s)
end
section
variable {W w : World} {Hs : List HP} {b : Nat} {wl : List ZaD} {e : Int} {m : Zbf} {ws : List Wd} {f : PF}
theorem ZmM (s : Ss W (RrD b f :: Hs) w) : WP (Zat.K1 (some (pt b 0))) w (fun _ w' => Ss W (RrD b f :: Hs) w') := by
 unfold Zat.K1
 refine WP.step (ZpV s) ?_
 rintro _ w ⟨rfl, s⟩
 refine WP.nilck (errD s (fun h => ?_))
 refine WP.step (R := fun y w' => y = true ∧ w = w') (WP.ite (fun _ => WP.ret ⟨rfl, rfl⟩) (fun h' => absurd h h')) ?_
 rintro _ _ ⟨rfl, rfl⟩
 exact WP.ite (fun _ => WP.ret s) (fun h => absurd rfl h)
theorem ZmL (s : Ss W (RrD b f :: Hs) w) : WP (Zat.K2 (some (pt b 0))) w (fun _ w' => Ss W (RrD b f :: Hs) w') := by
 unfold Zat.K2
 refine WP.nilck (ldD (o := 0) s (fun r => r.Act) (fun r => Zcq r) (fun x => ?_))
 refine WP.step (R := fun y w' => y = false ∧ Ss W (RrD b f :: Hs) w') (WP.ite (fun _ => WP.step (ZgV s _) ?_) (fun _ => WP.ret ⟨rfl, s⟩)) ?_
 ·rintro _ w ⟨rfl, s⟩
  exact WP.ret ⟨rfl, s⟩
 rintro _ w ⟨rfl, s⟩
 exact WP.ite (fun h => by cases h) (fun _ => ZmM s)
def Zu6 (m : Zbf) (X : PE (Int × List Wd)) (e : Int) : PE (Zbf × List Wd) := match X with
 | .error f => .error f
 | .ok (c, r) => ZrU { m with Class := c } (ZoH e r)
theorem Zs4 (s : Ss W (RrA b wl e m ws :: Hs) w) (h0 : m.Class = 0 ∧ m.Kind = 0 ∧ m.Proto = 0) (ik : Nat) (ek : nth Hs ik = some (NmP 1 Zor)) {a : Nat} (ha : m.Act = (a : Int) + 1) :
  WP (Zat.K2 (some (pt b 0))) w (fun _ w' => RulR W Hs b wl e w' (Zu6 m (ZkB e a ws) e)) := by
 unfold Zat.K2
 have hm : ({ m with Class := 0 } : Zbf) = m := by
  obtain ⟨h1, -⟩ := h0
  cases m
  simp only at h1
  subst h1
  rfl
 refine WP.nilck (ldA (o := 0) (v := m.Act) s (fun r => r.Act) (fun r => Zcq r) (fun r h => h.1) ?_)
 have k1 : ∀ {w : World} {c : Int} {xs : List Wd}, Ss W (RrA b wl e { m with Class := c } xs :: Hs) w → WP (Zat.K1 (some (pt b 0))) w (fun _ w' => RulR W Hs b wl e w' (ZrU { m with Class := c } (ZoH e xs))) := fun s => Zs5 s h0.2 ik ek
 by_cases h1 : a = 0
 rotate_left
 ·have hc : ZkB e a ws = .ok (0, ws) := by unfold ZkB; rw [if_neg h1]
  rw [hc]
  refine WP.step (R := fun y w' => y = false ∧ w = w') (WP.ite (fun h => absurd h (by omega)) (fun _ => WP.ret ⟨rfl, rfl⟩)) ?_
  rintro _ _ ⟨rfl, rfl⟩
  exact WP.ite (fun h => by cases h) (fun _ => k1 (c := 0) (hm.symm ▸ s))
 refine WP.step (R := fun y w' => ZwG W Hs b wl e m ws y w' (Zfx (tx "class") ws)) (WP.ite (fun _ => WP.step (ZgU s ZtO) (fun y w h => WP.ret h)) (fun h => absurd (by omega) h)) ?_
 intro y w h
 unfold ZkB
 rw [if_pos h1]
 cases ht : Zfx (tx "class") ws with
 | none =>
  rw [ht] at h
  obtain ⟨rfl, s⟩ := h
  exact WP.ite (fun h => by cases h) (fun _ => k1 (c := 0) (hm.symm ▸ s))
 | some xs =>
  rw [ht] at h
  obtain ⟨rfl, s⟩ := h
  refine WP.ite (fun _ => WP.step (Zl2 s 0 7) ?_) (fun h => absurd rfl h)
  intro v w h
  show WP _ w (fun _ w' => RulR W Hs b wl e w' (Zu6 m (numP e 0 7 xs) e))
  cases hn : numP e 0 7 xs with
  | error f =>
   rw [hn] at h
   exact WP.nilck (setD (o := 1) h (fun r => { r with Class := v }) (fun r => ZhO r v) (fun w s => ZmM s))
  | ok q =>
   rw [hn] at h
   obtain ⟨rfl, s⟩ := h
   exact WP.nilck (setA (o := 1) (m' := { m with Class := q.1 }) s (fun r => { r with Class := q.1 }) (fun r => ZhO r _) (fun r h => ⟨h.1, rfl, h.2.2⟩) (fun r => ⟨rfl, rfl⟩) ⟨rfl, rfl⟩ (fun w s => k1 (c := q.1) s))
theorem ZvB (s : Ss W (RrA b wl e zRl ws :: Hs) w) (ia : Nat) (ea : nth Hs ia = some (NmP 0 actB)) (ik : Nat) (ek : nth Hs ik = some (NmP 1 Zor)) :
  WP (Zat (some (pt b 0))) w (fun _ w' => RulR W Hs b wl e w' (Zqf e ws)) := by
 unfold Zat
 refine WP.step (ZiK s) ?_
 intro r w h
 cases ws with
 | nil =>
  obtain ⟨rfl, s1⟩ := h
  refine WP.slot' s1 (fun _ w s => Zjd s (ia + 1) ea (by decide) ?_)
  rw [Ztw]
  have hi : idxI actN (strI Zdm.s) = -1 := by decide +kernel
  rw [hi]
  refine WP.nilck (setD (o := 0) s (fun r => { r with Act := 0 }) (fun r => Zfh r 0) (fun w s => WP.nilck (errD s (fun h => ?_))))
  refine WP.step (R := fun y w' => y = false ∧ w = w') (WP.ite (fun h' => absurd h' h) (fun _ => WP.ret ⟨rfl, rfl⟩)) ?_
  rintro _ _ ⟨rfl, rfl⟩
  exact WP.ite (fun h => by cases h) (fun _ => ZmL s)
 | cons x xs =>
  obtain ⟨hx, s1⟩ := h
  clear s
  have s := s1
  clear s1
  subst hx
  have hr : Zqf e (wdOf r :: xs) = match idxT actN (strI r.s) with
   | none => .error (160, r.at_)
   | some a => match ZkB e a xs with
    | .error f => .error f
    | .ok (c, r) => match ZoH e r with
     | .error f => .error f
     | .ok (k, r) => .ok ({ zRl with Act := (a : Int) + 1, Class := c, Kind := k.1, Proto := k.2 }, r) := rfl
  rw [hr]
  refine WP.slot' s (fun _ w s => Zjd s (ia + 1) ea (by decide) ?_)
  rw [Ztw]
  unfold idxI
  cases hk : idxT actN (strI r.s) with
  | none =>
   refine WP.nilck (setA (o := 0) (m' := zRl) s (fun r => { r with Act := 0 }) (fun r => Zfh r _) (fun r h => ⟨rfl, h.2⟩) (fun r => ⟨rfl, rfl⟩) ⟨rfl, rfl⟩ (fun w s => WP.nilck (errA s ?_)))
   refine WP.step (R := fun y w' => y = true ∧ w = w') (WP.ite (fun _ => WP.nilck (ldA (o := 0) (v := 0) s (fun r => r.Act) (fun r => Zcq r) (fun r h => h.1) (WP.ret ⟨rfl, rfl⟩))) (fun h => absurd rfl h)) ?_
   rintro _ _ ⟨rfl, rfl⟩
   refine WP.ite (fun _ => WP.step (Zd9 s (by decide) r.at_) ?_) (fun h => absurd rfl h)
   intro _ w s
   exact ZmL s
  | some a =>
   have ha3 := ZmJ hk
   have ha3 : a < 3 := ha3
   have hw : IntKind.wrap .i64 ((a : Int) + 1) = (a : Int) + 1 := Zau (by omega) (by omega)
   simp only
   rw [hw]
   refine WP.nilck (setA (o := 0) (m' := { zRl with Act := (a : Int) + 1 }) s (fun r => { r with Act := (a : Int) + 1 }) (fun r => Zfh r _) (fun r h => ⟨rfl, h.2⟩) (fun r => ⟨rfl, rfl⟩) ⟨rfl, rfl⟩ (fun w s => WP.nilck (errA s ?_)))
   refine WP.step (R := fun y w' => y = false ∧ w = w') (WP.ite (fun _ => WP.nilck (ldA (o := 0) (v := (a : Int) + 1) s (fun r => r.Act) (fun r => Zcq r) (fun r h => h.1) (WP.ret ⟨beq_eq_false_iff_ne.2 (by omega), rfl⟩))) (fun h => absurd rfl h)) ?_
   rintro _ _ ⟨rfl, rfl⟩
   refine WP.ite (fun h => by cases h) (fun _ => (Zs4 s ⟨rfl, rfl, rfl⟩ ik ek rfl).mono ?_)
   intro _ w h
   unfold Zu6 at h
   cases hc : ZkB e a xs with
   | error f => rw [hc] at h; exact h
   | ok q =>
    rw [hc] at h
    simp only [ZrU] at h ⊢
    cases hq : ZoH e q.2 with
    | error f => rw [hq] at h; exact h
    | ok q2 => rw [hq] at h; exact h
end
section
variable {W w : World} {Hs : List HP}
theorem pfK1 {r3 : Zba × Option Addr} {j8 : Int} {b : Nat} {f : Flt} (s : Ss W (pts true (pt b 0) (flt f) :: Hs) w) : WP (Zap.K1 r3 j8 (some (pt b 0))) w (fun r w' => r = (ZbN, f.1, (f.2 : Int)) ∧ Ss W Hs w') := by
 unfold Zap.K1
 exact WP.ite (fun _ => WP.draw' s (fun w s => WP.nilck (WP.ld s 0 rfl (o := 0) (by simp [Addr.add]) (Zft _) (WP.nilck (WP.ld s 0 rfl (o := 1) rfl (Zfu _) (WP.same s 0 rfl (o := 1) rfl (Zfu _) (WP.same s 0 rfl (o := 0) (by simp [Addr.add]) (Zft _) (WP.ret ⟨rfl, s.drop⟩)))))))) (fun h => absurd (by simp) h)
theorem pfK2 {r3 : Zba × Option Addr} {j8 : Int} {b : Nat} {f : Flt} (s : Ss W (pts true (pt b 0) (flt f) :: Hs) w) : WP (Zap.K2 r3 j8 (some (pt b 0))) w (fun r w' => r = (ZbN, f.1, (f.2 : Int)) ∧ Ss W Hs w') := by
 unfold Zap.K2
 refine WP.slot' s (fun _ w s => WP.step (R := fun y w' => y = false ∧ w = w') (WP.ite (fun h => by cases h) (fun _ => WP.ret ⟨rfl, rfl⟩)) ?_)
 rintro _ _ ⟨rfl, rfl⟩
 exact WP.ite (fun h => by cases h) (fun _ => pfK1 s)
theorem pfK3 {t : ByteArray} {r3 : Zba × Option Addr} {j8 j9 : Int} {b : Nat} {f : Flt} (s : Ss W (pts true (pt b 0) (flt f) :: Hs) w) : WP (Zap.K3 t r3 (some (pt b 0)) j8 j9) w (fun r w' => r = (ZbN, f.1, (f.2 : Int)) ∧ Ss W Hs w') := by
 unfold Zap.K3
 refine WP.step (R := fun y w' => y = false ∧ w = w') (WP.ite (fun h => by cases h) (fun _ => WP.ret ⟨rfl, rfl⟩)) ?_
 rintro _ _ ⟨rfl, rfl⟩
 exact WP.ite (fun h => by cases h) (fun _ => pfK2 s)
theorem ZjE (s : Ss W Hs w) (t : ByteArray) : WP (Zap t) w (fun r w' => r = ZpY (strI t) ∧ Ss W Hs w') := by
 have hl := Zb4 t
 unfold Zap ZpY ZoW
 refine WP.slot' s (fun _ w s => WP.ite (fun h => WP.ret ⟨?_, s⟩) (fun h => ?_))
 ·rw [if_pos (by omega)]
  rfl
 rw [if_neg (by omega)]
 refine WP.step (ZwL s t (by omega) (q := 47) (by omega) (by decide)) ?_
 rintro ⟨ta, tb, y⟩ w ⟨⟨c1, c2⟩, s⟩
 simp only at c1 c2 ⊢
 subst c1
 refine WP.ite (fun h => WP.ret ⟨?_, s⟩) (fun h => ?_)
 ·have h : ¬ ZbQ (strI t) 47 < (strI t).length := fun h' => h (decide_eq_true (by rw [← hl]; exact h'))
  rw [if_neg h, ← hl]
 have h : ZbQ (strI t) 47 < t.size := of_decide_eq_true (by simpa using h)
 have h' : ZbQ (strI t) 47 < (strI t).length := by omega
 rw [if_pos h']
 have c2 : strI ta = (strI t).take (ZbQ (strI t) 47) := (c2 h).1
 rw [← c2]
 have hta : ta.size = ZbQ (strI t) 47 := by
  rw [← Zb4, c2, List.length_take]
  omega
 refine WP.step (ZqJ s ta) ?_
 intro r w hr
 cases hm : Zhf (strI ta) with
 | error f =>
  rw [hm] at hr
  obtain ⟨b, hb, s⟩ := hr
  refine WP.slot' s (fun _ w s => ?_)
  rw [hb]
  exact WP.ite (fun h => by cases h) (fun _ => pfK3 s)
 | ok ip =>
  have hbyt := Zjc hm
  rw [hm] at hr
  obtain ⟨rfl, s⟩ := hr
  refine WP.slot' s (fun _ w s => WP.ite (fun _ => WP.step (ZpQ s ip) ?_) (fun h => absurd rfl h))
  rintro _ w ⟨rfl, s⟩
  have e1 : IntKind.wrap .i64 ((ta.size : Int) + 1) = ((ZbQ (strI t) 47 + 1 : Nat) : Int) := by
   rw [hta, Zau (by omega) (by omega)]
   rfl
  simp only
  rw [e1]
  refine WP.step (Zo1 s t (by omega) (ZbQ (strI t) 47 + 1) (by omega) (ZdA ip) 45) ?_
  intro r w hr
  cases hn : numM (strI t) (ZbQ (strI t) 47 + 1) (ZdA ip) 45 with
  | error f =>
   rw [hn] at hr
   obtain ⟨b, rfl, s⟩ := hr
   exact pfK3 s
  | ok x =>
   obtain ⟨n, e⟩ := x
   rw [hn] at hr
   obtain ⟨rfl, s⟩ := hr
   unfold Zap.K3
   refine WP.step (R := fun y w' => y = decide (e < (strI t).length) ∧ w = w') (WP.ite (fun _ => WP.ret ⟨?_, rfl⟩) (fun h => absurd rfl h)) ?_
   ·rw [Bool.eq_iff_iff, decide_eq_true_iff, decide_eq_true_iff]
    simp only
    omega
   rintro _ _ ⟨rfl, rfl⟩
   refine WP.ite (fun h => WP.newv s (fun b w s => ?_)) (fun h => ?_)
   ·simp only
    rw [if_pos (of_decide_eq_true h)]
    exact pfK2 (f := (41, e)) s
   ·simp only
    rw [if_neg (fun h' => h (decide_eq_true h'))]
    unfold Zap.K2
    refine WP.slot' s (fun _ w s => WP.step (R := fun y w' => y = decide (vpM ⟨ip, (n : Int)⟩ ≠ 0) ∧ Ss W Hs w') (WP.ite (fun _ => WP.step (Zgm s ⟨ip, (n : Int)⟩ hbyt) ?_) (fun h => absurd rfl h)) ?_)
    ·rintro _ w ⟨rfl, s⟩
     refine WP.ret ⟨?_, s⟩
     rw [Bool.eq_iff_iff, bne_iff_ne, decide_eq_true_iff]
    rintro _ w ⟨rfl, s⟩
    refine WP.ite (fun h => WP.newv s (fun b w s => ?_)) (fun h => ?_)
    ·rw [if_pos (of_decide_eq_true h)]
     exact pfK1 (f := (46, 0)) s
    ·rw [if_neg (fun h' => h (decide_eq_true h'))]
     unfold Zap.K1
     exact WP.ite (fun h => absurd rfl h) (fun _ => WP.ret ⟨rfl, s⟩)
end
def Bad (l : List Int) (f : Flt) : Prop := f.1 ≠ 0 ∧ f.2 ≤ l.length
theorem ZmF {l : List Int} {i : Nat} (h : i ≤ l.length) : Bad l (Zp5 l i) := by
 unfold Zp5
 split
 ·exact ⟨by simp, h⟩
 ·exact ⟨by simp, h⟩
theorem ZqK {l : List Int} {i : Nat} {most wrong : Int} {f : Flt} (hi : i ≤ l.length) (hw : wrong ≠ 0) (h : numM l i most wrong = .error f) : Bad l f := by
 unfold numM at h
 split at h
 ·cases h
  exact ZmF hi
 ·split at h
  ·cases h
   exact ⟨hw, hi⟩
  ·split at h
   ·cases h
    exact ⟨hw, hi⟩
   ·cases h
theorem Zpl {l : List Int} : ∀ (k i : Nat) (acc : List Nat) (f : Flt), i ≤ l.length → Zjt l k i acc = .error f → Bad l f
 | 0, _, _, _, _, h => by cases h
 | k + 1, i, acc, f, hi, h => by
  unfold Zjt at h
  have hs : ∀ {x : Bool} {g : Flt}, sepM l i x = .error g → Bad l g := by
   intro x g h
   unfold sepM at h
   split at h
   ·cases h
   ·split at h
    ·cases h
     exact ZmF hi
    ·cases h
  have hs2 : ∀ {x : Bool} {j : Nat}, sepM l i x = .ok j → j ≤ l.length := by
   intro x j h
   unfold sepM at h
   split at h
   ·cases h
    exact hi
   ·split at h
    ·cases h
    ·cases h
     omega
  cases hj : sepM l i acc.isEmpty with
  | error g =>
   rw [hj] at h
   cases h
   exact hs hj
  | ok j =>
   rw [hj] at h
   simp only at h
   cases hn : numM l j 255 43 with
   | error g =>
    rw [hn] at h
    cases h
    exact ZqK (hs2 hj) (by decide) hn
   | ok x =>
    rw [hn] at h
    exact Zpl k x.2 _ f (Zoj hn (hs2 hj)).2.2 h
theorem Zpk {l : List Int} {i : Nat} {f : Flt} (hi : i ≤ l.length) (h : Zix l i = .error f) : Bad l f := by
 unfold Zix at h
 cases hf : Zjt l 4 i [] with
 | error g =>
  rw [hf] at h
  cases h
  exact Zpl _ _ _ _ hi hf
 | ok x =>
  rw [hf] at h
  simp only at h
  split at h
  ·cases h
   exact ⟨by simp, (Zot _ _ _ _ _ hi (by simp) hf).2.2.2⟩
  ·cases h
theorem ZrD {l : List Int} {st : S6} {f : Flt} (hi : st.at_ ≤ l.length) (h : ZiQ l st = .error f) : Bad l f := by
 unfold ZiQ at h
 split at h
 ·cases h
  exact ZmF hi
 ·split at h
  ·split at h
   ·cases h
    exact ⟨by simp, hi⟩
   ·cases hf : Zix l st.at_ with
    | error g =>
     rw [hf] at h
     cases h
     exact Zpk hi hf
    | ok x =>
     rw [hf] at h
     cases h
  ·split at h
   ·cases h
    exact ⟨by simp, hi⟩
   ·split at h
    ·cases h
     exact ⟨by simp, hi⟩
    ·cases h
theorem ZmW {l : List Int} {st : S6} {f : Flt} (hi : st.at_ ≤ l.length) (h : ZfJ l st = .error f) : Bad l f := by
 unfold ZfJ at h
 split at h
 ·cases h
 ·split at h
  ·cases h
   exact ⟨by simp, hi⟩
  ·cases h
theorem Zmu {l : List Int} {f : Flt} : ∀ (n : Nat) (op : Bool) (st : S6), Ok6 l st → l.length + 1 ≤ n + st.at_ → Zha l n op st = .error f → Bad l f
 | 0, _, _, ok, hn, h => by
  have := ok.a
  omega
 | n + 1, op, st, ok, hn, h => by
  unfold Zha at h
  split at h
  ·cases h
  ·cases hg : ZiQ l st with
   | error e =>
    rw [hg] at h
    cases h
    exact ZrD ok.a hg
   | ok x =>
    obtain ⟨done, st1⟩ := x
    rw [hg] at h
    obtain ⟨k1, -, k2⟩ := ZmN ok hg
    simp only at h
    split at h
    ·split at h
     ·cases h
      exact ⟨by simp, Nat.le_refl _⟩
     ·cases h
    ·rename_i hn'
     have k3 := k2 (by cases done <;> simp_all)
     cases hd : ZfJ l st1 with
     | error e =>
      rw [hd] at h
      cases h
      exact ZmW k1.a hd
     | ok x =>
      obtain ⟨y, st2⟩ := x
      rw [hd] at h
      obtain ⟨m1, m2, m3⟩ := ZgQ k1 hd
      simp only at h
      split at h
      ·rename_i hy
       have := (m3 hy).1
       exact Zmu n true st2 m1 (by omega) h
      ·rename_i hy
       have e2 := m2 (by simpa using hy)
       subst e2
       split at h
       ·cases h
        exact ⟨by simp, m1.a⟩
       ·have h3 := k1.a
        have h4 : st2.at_ ≠ l.length := fun h' => hn' (.inr h')
        exact Zmu n false ⟨st2.at_ + 1, st2.gs, st2.gap⟩ ⟨by show st2.at_ + 1 ≤ l.length; omega, m1.g, m1.p1, m1.p2, m1.p3, m1.v⟩ (by show l.length + 1 ≤ n + (st2.at_ + 1); omega) h
theorem Zsk {l : List Int} {f : Flt} (h : Znr l = .error f) : Bad l f := by
 have ok0 : Ok6 l ⟨0, [], -1⟩ := ⟨by simp, by simp, by simp, by simp, fun h => by simp, fun x h => by cases h⟩
 unfold Znr at h
 cases hd : ZfJ l ⟨0, [], -1⟩ with
 | error e =>
  rw [hd] at h
  cases h
  exact ZmW (Nat.zero_le _) hd
 | ok x =>
  obtain ⟨y, st⟩ := x
  rw [hd] at h
  exact Zmu _ _ _ (ZgQ ok0 hd).1 (by omega) h
theorem ZnN {l : List Int} {f : Flt} (h : Zhf l = .error f) : Bad l f := by
 unfold Zhf at h
 split at h
 ·cases h
  exact ⟨by simp, by omega⟩
 ·split at h
  ·cases hr : Znr l with
   | error g =>
    rw [hr] at h
    cases h
    exact Zsk hr
   | ok st =>
    rw [hr] at h
    cases h
  ·cases hr : Zix l 0 with
   | error g =>
    rw [hr] at h
    cases h
    exact Zpk (Nat.zero_le _) hr
   | ok a =>
    rw [hr] at h
    cases h
theorem Zt7 {l : List Int} {p : Zad} (h : ZoW l = .ok p) : vpM p = 0 ∧ Byt p.IP.A.l := by
 unfold ZoW at h
 split at h
 ·cases h
 ·split at h
  ·cases hr : Zhf (l.take (ZbQ l 47)) with
   | error g =>
    rw [hr] at h
    cases h
   | ok ip =>
    rw [hr] at h
    simp only at h
    cases hn : numM l (ZbQ l 47 + 1) (ZdA ip) 45 with
    | error g =>
     rw [hn] at h
     cases h
    | ok x =>
     rw [hn] at h
     simp only at h
     split at h
     ·cases h
     ·split at h
      ·cases h
      ·rename_i hv
       cases h
       exact ⟨Decidable.not_not.1 hv, Zjc hr⟩
  ·cases h
theorem Zsu {l : List Int} {f : Flt} (h : ZoW l = .error f) : Bad l f := by
 unfold ZoW at h
 split at h
 ·cases h
  exact ⟨by simp, by omega⟩
 ·split at h
  ·rename_i hf
   cases hr : Zhf (l.take (ZbQ l 47)) with
   | error g =>
    rw [hr] at h
    cases h
    obtain ⟨g1, g2⟩ := ZnN hr
    rw [List.length_take] at g2
    exact ⟨g1, by omega⟩
   | ok ip =>
    rw [hr] at h
    simp only at h
    cases hn : numM l (ZbQ l 47 + 1) (ZdA ip) 45 with
    | error g =>
     rw [hn] at h
     cases h
     exact ZqK (by omega) (by decide) hn
    | ok x =>
     rw [hn] at h
     simp only at h
     have hx := (Zoj hn (by omega)).2.2
     split at h
     ·cases h
      exact ⟨by simp, hx⟩
     ·split at h
      ·cases h
       exact ⟨by simp, Nat.zero_le _⟩
      ·cases h
  ·cases h
   exact ⟨by simp, Nat.le_refl _⟩
theorem Zr4 : strI Zvf = [45] := by decide +kernel
theorem Zv6 : strI Zwa = tx "not" := by decide +kernel
theorem Zr2 : strI Zv9 = tx "port" := by decide +kernel
def net1 (e kind : Int) (n : Nat) : List Wd → PE (Zad × List Wd)
 | [] => .error (161, e)
 | w :: ws => if w.1 = ZdI then .error (160, w.2) else match netR w.1 with
  | none => .error (163, w.2)
  | some p => if n = 16 ∨ Zk9 p kind = false then .error (163, w.2) else .ok (p, ws)
theorem ZmD {e kind : Int} {n : Nat} {w : Wd} {ws : List Wd} : net1 e kind n (w :: ws) = if w.1 = ZdI then .error (160, w.2) else match netR w.1 with
  | none => .error (163, w.2)
  | some p => if n = 16 ∨ Zk9 p kind = false then .error (163, w.2) else .ok (p, ws) := rfl
theorem Zru {e kind : Int} {acc : List Zad} {w : Wd} {ws : List Wd} : Zks e kind acc (w :: ws) = if w.1 = ZdI then .error (160, w.2) else match netR w.1 with
  | none => .error (163, w.2)
  | some p => if acc.length = 16 ∨ Zk9 p kind = false then .error (163, w.2) else match ws with
   | [] => .ok (acc ++ [p], [])
   | c :: ws => if c.1 = ZdI then Zks e kind (acc ++ [p]) ws else .ok (acc ++ [p], c :: ws) := by
 rw [Zks]
 try rfl
theorem ZnR {e kind : Int} {acc : List Zad} {ws : List Wd} : Zks e kind acc ws = match net1 e kind acc.length ws with
  | .error f => .error f
  | .ok (p, r) => match Zfx ZdI r with
   | none => .ok (acc ++ [p], r)
   | some r => Zks e kind (acc ++ [p]) r := by
 cases ws with
 | nil => rfl
 | cons w ws =>
  rw [Zru, ZmD]
  by_cases h : w.1 = ZdI
  ·rw [if_pos h, if_pos h]
  ·rw [if_neg h, if_neg h]
   cases netR w.1 with
   | none => rfl
   | some p =>
    simp only
    by_cases h2 : acc.length = 16 ∨ Zk9 p kind = false
    ·rw [if_pos h2, if_pos h2]
    ·rw [if_neg h2, if_neg h2]
     cases ws with
     | nil => rfl
     | cons c ws =>
      simp only [Zfx]
      by_cases h3 : c.1 = ZdI
      ·rw [if_pos h3, if_pos h3]
      ·rw [if_neg h3, if_neg h3]
def ZoT (e : Int) (n : Nat) : List Wd → PE (ZaE × List Wd)
 | [] => .error (161, e)
 | w :: ws => if w.1 = ZdI then .error (160, w.2) else match ZnH w.1 with
  | none => .error (164, w.2)
  | some p => if n = 16 then .error (164, w.2) else .ok (p, ws)
theorem ZjY {e : Int} {n : Nat} {w : Wd} {ws : List Wd} : ZoT e n (w :: ws) = if w.1 = ZdI then .error (160, w.2) else match ZnH w.1 with
  | none => .error (164, w.2)
  | some p => if n = 16 then .error (164, w.2) else .ok (p, ws) := rfl
theorem ZpZ {e : Int} {acc : List ZaE} {w : Wd} {ws : List Wd} : ZhH e acc (w :: ws) = if w.1 = ZdI then .error (160, w.2) else match ZnH w.1 with
  | none => .error (164, w.2)
  | some p => if acc.length = 16 then .error (164, w.2) else match ws with
   | [] => .ok (acc ++ [p], [])
   | c :: ws => if c.1 = ZdI then ZhH e (acc ++ [p]) ws else .ok (acc ++ [p], c :: ws) := by
 rw [ZhH]
 try rfl
theorem Zmx {e : Int} {acc : List ZaE} {ws : List Wd} : ZhH e acc ws = match ZoT e acc.length ws with
  | .error f => .error f
  | .ok (p, r) => match Zfx ZdI r with
   | none => .ok (acc ++ [p], r)
   | some r => ZhH e (acc ++ [p]) r := by
 cases ws with
 | nil => rfl
 | cons w ws =>
  rw [ZpZ, ZjY]
  by_cases h : w.1 = ZdI
  ·rw [if_pos h, if_pos h]
  ·rw [if_neg h, if_neg h]
   cases ZnH w.1 with
   | none => rfl
   | some p =>
    simp only
    by_cases h2 : acc.length = 16
    ·rw [if_pos h2, if_pos h2]
    ·rw [if_neg h2, if_neg h2]
     cases ws with
     | nil => rfl
     | cons c ws =>
      simp only [Zfx]
      by_cases h3 : c.1 = ZdI
      ·rw [if_pos h3, if_pos h3]
      ·rw [if_neg h3, if_neg h3]
theorem ZqM {e kind : Int} {n : Nat} {ws r : List Wd} {p : Zad} (h : net1 e kind n ws = .ok (p, r)) : r.length < ws.length ∧ n ≠ 16 := by
 cases ws with
 | nil => cases h
 | cons w ws =>
  rw [ZmD] at h
  split at h
  ·cases h
  ·split at h
   ·cases h
   ·split at h
    ·cases h
    ·rename_i hn
     cases h
     exact ⟨by simp, fun h => hn (.inl h)⟩
theorem ZnI {e : Int} {n : Nat} {ws r : List Wd} {p : ZaE} (h : ZoT e n ws = .ok (p, r)) : r.length < ws.length ∧ n ≠ 16 := by
 cases ws with
 | nil => cases h
 | cons w ws =>
  rw [ZjY] at h
  split at h
  ·cases h
  ·split at h
   ·cases h
   ·split at h
    ·cases h
    ·rename_i hn
     cases h
     exact ⟨by simp, hn⟩
theorem ZfS {t : List Int} {ws r : List Wd} (h : Zfx t ws = some r) : r.length < ws.length := by
 cases ws with
 | nil => cases h
 | cons w ws =>
  rw [show Zfx t (w :: ws) = if w.1 = t then some ws else none from rfl] at h
  split at h
  ·cases h
   simp
  ·cases h
section
variable {W w : World} {Hs : List HP}
theorem Zta (s : Ss W Hs w) (p : Zad) (hb : Byt p.IP.A.l) (kind : Int) : WP (Zd7 p kind) w (fun r w' => r = Zk9 p kind ∧ Ss W Hs w') := by
 unfold Zd7 Zk9
 refine WP.slot' s (fun _ w s => ?_)
 refine WP.step (R := fun y w' => y = verM kind ∧ w = w') ?_ ?_
 ·unfold Zfo
  exact WP.ite (fun h => WP.ite (fun _ => WP.ret ⟨by unfold verM; rw [if_pos (Or.inl h)], rfl⟩) (fun h' => absurd h h')) (fun h => WP.ite (fun h2 => WP.ret ⟨by unfold verM; rw [if_pos (Or.inr h2)], rfl⟩) (fun h2 => WP.ite (fun h3 => WP.ret ⟨by unfold verM; rw [if_neg (fun h' => h'.elim h h2), if_pos h3], rfl⟩) (fun h3 => WP.ret ⟨by unfold verM; rw [if_neg (fun h' => h'.elim h h2), if_neg h3], rfl⟩)))
 rintro _ _ ⟨rfl, rfl⟩
 refine WP.step (Zgm s p hb) ?_
 rintro _ w ⟨rfl, s⟩
 refine WP.step (R := fun y w' => y = decide (vpM p = 0 ∧ (verM kind = 0 ∨ p.IP.V = verM kind)) ∧ Ss W Hs w') (WP.ite (fun h => ?_) (fun h => WP.ret ⟨(decide_eq_false (fun h' => h h'.1)).symm, s⟩)) (fun y w h => WP.ret h)
 refine WP.step (R := fun y w' => y = decide (verM kind = 0 ∨ p.IP.V = verM kind) ∧ Ss W Hs w') (WP.ite (fun h2 => WP.ret ⟨(decide_eq_true (.inl h2)).symm, s⟩) (fun h2 => WP.ret ⟨?_, s⟩)) ?_
 ·rw [Bool.eq_iff_iff, beq_iff_eq, decide_eq_true_iff]
  exact ⟨.inr, fun h' => h'.elim (fun h' => absurd h' h2) id⟩
 rintro _ w ⟨rfl, s⟩
 exact WP.ret ⟨decide_eq_decide.2 ⟨fun h' => ⟨h, h'⟩, fun h' => h'.2⟩, s⟩
theorem ZtE (s : Ss W Hs w) (t : ByteArray) (ht : t.size ≤ 1000000) {p : ByteArray} {q : Nat} (hq : q < 256) (hp : strI p = [(q : Int)]) : WP (ZdS t p) w (fun r w' => CutA t q r ∧ (¬ ZbQ (strI t) q < t.size → r.1 = t) ∧ Ss W Hs w') := by
 have hn : p.size = 1 := by
  rw [← Zb4, hp]
  rfl
 have hl := Zb4 t
 unfold ZdS ZdR
 refine WP.step (R := fun r w' => CutA t q r ∧ (¬ ZbQ (strI t) q < t.size → r.1 = t) ∧ Ss W Hs w') (WP.step (ZoC t hq hp) ?_) (fun r w h => WP.ret h)
 rintro _ _ ⟨rfl, rfl⟩
 by_cases hf : ZbQ (strI t) q < t.size
 ·rw [if_pos hf]
  have e1 : IntKind.wrap .i64 (((ZbQ (strI t) q : Nat) : Int) + (p.size : Int)) = ((ZbQ (strI t) q + 1 : Nat) : Int) := by
   rw [hn, Zau (by omega) (by omega)]
   rfl
  rw [e1]
  refine WP.ite (fun _ => WP.draw' s (fun w s => WP.chk ⟨by omega, by omega, by omega⟩ (WP.chk ⟨by omega, by omega, by omega⟩ (WP.ret ⟨⟨(decide_eq_true hf).symm, fun _ => ⟨?_, ?_⟩⟩, fun h => absurd hf h, s⟩)))) (fun h => absurd (by omega) h)
  ·simp only
   rw [Zd4]
   simp
  ·simp only
   rw [Zd4]
   simp only [Int.toNat_natCast]
   rw [List.take_of_length_le (by rw [List.length_drop]; omega)]
 ·rw [if_neg hf]
  exact WP.ite (fun h => absurd h (by omega)) (fun _ => WP.ret ⟨⟨(decide_eq_false hf).symm, fun h => absurd h hf⟩, fun _ => rfl, s⟩)
variable {b : Nat} {wl : List ZaD} {e : Int} {m : Zbf} {ws : List Wd} {f : PF}
theorem Zk5 (s : Ss W (RrD b f :: Hs) w) (n : Int) (r : ZaD) (j : Int) (p : Zad) : WP (Zaz.K1 (some (pt b 0)) n r j p) w (fun _ w' => Ss W (RrD b f :: Hs) w') := by
 unfold Zaz.K1
 refine WP.draw' s (fun w s => WP.nilck (errD s (fun h => ?_)))
 refine WP.step (R := fun y w' => y = false ∧ w = w') (WP.ite (fun h' => absurd h' h) (fun _ => WP.ret ⟨rfl, rfl⟩)) ?_
 rintro _ _ ⟨rfl, rfl⟩
 exact WP.ite (fun h => by cases h) (fun _ => WP.ret s)
theorem Zl4 (s : Ss W (RrA b wl e m ws :: Hs) w) {n : Nat} (r : ZaD) {j : Int} (p : Zad) (hp : j = 0 → Byt p.IP.A.l) : WP (Zaz.K1 (some (pt b 0)) (n : Int) r j p) w (fun x w' => ResR W Hs b wl e m x w' (if j ≠ 0 ∨ n = 16 ∨ Zk9 p m.Kind = false then .error (163, r.at_) else .ok (p, ws))) := by
 unfold Zaz.K1
 refine WP.draw' s (fun w s => WP.nilck (errA s ?_))
 refine WP.step (R := fun y w' => y = decide (j ≠ 0 ∨ n = 16 ∨ Zk9 p m.Kind = false) ∧ Ss W (RrA b wl e m ws :: Hs) w') (WP.ite (fun _ => ?_) (fun h => absurd rfl h)) ?_
 ·refine WP.step (R := fun y w' => y = decide (j ≠ 0 ∨ n = 16) ∧ w = w') (WP.ite (fun h => WP.ret ⟨(decide_eq_true (.inl h)).symm, rfl⟩) (fun h => WP.ret ⟨?_, rfl⟩)) ?_
  ·rw [Bool.eq_iff_iff, beq_iff_eq, decide_eq_true_iff]
   exact ⟨fun h' => .inr (by omega), fun h' => h'.elim (fun h' => absurd h' h) (fun h' => by omega)⟩
  rintro _ _ ⟨rfl, rfl⟩
  refine WP.step (R := fun y w' => y = decide (j ≠ 0 ∨ n = 16 ∨ Zk9 p m.Kind = false) ∧ Ss W (RrA b wl e m ws :: Hs) w') (WP.ite (fun h => WP.ret ⟨?_, s⟩) (fun h => ?_)) (fun y w h => WP.ret h)
  ·have := of_decide_eq_true h
   exact (decide_eq_true (this.elim .inl (fun h => .inr (.inl h)))).symm
  ·have hn : ¬ (j ≠ 0 ∨ n = 16) := fun h' => h (decide_eq_true h')
   have hj : j = 0 := Decidable.byContradiction fun h' => hn (.inl h')
   refine WP.nilck (Zqb s (WP.step (Zta s p (hp hj) m.Kind) ?_))
   rintro _ w ⟨rfl, s⟩
   refine WP.ret ⟨?_, s⟩
   rw [Bool.eq_iff_iff, Bool.not_eq_true', decide_eq_true_iff]
   exact ⟨fun h' => .inr (.inr h'), fun h' => h'.elim (fun h' => absurd (.inl h') hn) (fun h' => h'.elim (fun h' => absurd (.inr h') hn) id)⟩
 rintro _ w ⟨rfl, s⟩
 refine WP.ite (fun h => ?_) (fun h => WP.ret ?_)
 ·rw [if_pos (of_decide_eq_true h)]
  refine WP.step (Zd9 s (by decide) r.at_) ?_
  intro _ w s
  exact WP.ret s
 ·rw [if_neg (fun h' => h (decide_eq_true h'))]
  exact ⟨rfl, s⟩
theorem Zt5 (s : Ss W (RrA b wl e m ws :: Hs) w) (n : Nat) : WP (Zaz (some (pt b 0)) (n : Int)) w (fun x w' => ResR W Hs b wl e m x w' (net1 e m.Kind n ws)) := by
 unfold Zaz
 refine WP.slot' s (fun _ w s => WP.step (ZiL s) ?_)
 intro r w h
 have dead : ∀ {w : World} {f : PF}, Ss W (RrD b f :: Hs) w → WP (slot 122 >>= fun b3 => Zap r.s >>= fun r4 => slot 111 >>= fun b5 => (if r4.2.1 ≠ 0 then ZeB r.s >>= fun r23 => slot 28 >>= fun b24 =>
   (if r23.1.V = 6 then Zaz.K2 (some (pt b 0)) (n : Int) r r23 (⟨r23.1, 128⟩ : Zad) else Zaz.K2 (some (pt b 0)) (n : Int) r r23 (⟨r23.1, 32⟩ : Zad)) else Zaz.K1 (some (pt b 0)) (n : Int) r r4.2.1 r4.1)) w (fun _ w' => Ss W (RrD b f :: Hs) w') := by
  intro w f s
  refine WP.slot' s (fun _ w s => WP.step (ZjE s r.s) ?_)
  rintro q w ⟨-, s⟩
  refine WP.slot' s (fun _ w s => WP.ite (fun _ => WP.step (Zn7 s r.s) ?_) (fun _ => Zk5 s _ _ _ _))
  rintro q w ⟨-, s⟩
  exact WP.slot' s (fun _ w s => WP.ite (fun _ => Zk5 s _ _ _ _) (fun _ => Zk5 s _ _ _ _))
 cases ws with
 | nil => exact dead h.2
 | cons x xs =>
  obtain ⟨hx, s1⟩ := h
  clear s
  have s := s1
  clear s1
  subst hx
  rw [ZmD]
  by_cases hc : (wdOf r).1 = ZdI
  ·rw [if_pos hc] at s ⊢
   exact dead s
  rw [if_neg hc] at s ⊢
  have hr : (wdOf r).1 = strI r.s := rfl
  rw [hr]
  refine WP.slot' s (fun _ w s => WP.step (ZjE s r.s) ?_)
  rintro _ w ⟨rfl, s⟩
  refine WP.slot' s (fun _ w s => ?_)
  unfold netR ZpY
  cases hp : ZoW (strI r.s) with
  | ok p =>
   refine WP.ite (fun h => absurd rfl h) (fun _ => (Zl4 s r p (fun _ => (Zt7 hp).2)).mono ?_)
   intro x w h
   simp only [ne_eq, not_true_eq_false, false_or] at h
   exact h
  | error f =>
   have hf := (Zsu hp).1
   refine WP.ite (fun _ => WP.step (Zn7 s r.s) ?_) (fun h => absurd hf h)
   rintro _ w ⟨rfl, s⟩
   unfold ipM
   cases hi : Zhf (strI r.s) with
   | ok ip =>
    refine WP.slot' s (fun _ w s => WP.ite (fun h6 => (Zl4 s r _ (fun _ => Zjc hi)).mono ?_) (fun h6 => (Zl4 s r _ (fun _ => Zjc hi)).mono ?_))
    ·intro x w h
     simp only [ne_eq, not_true_eq_false, false_or] at h
     have h6 : ip.V = 6 := h6
     simp only
     rw [if_pos h6]
     exact h
    ·intro x w h
     simp only [ne_eq, not_true_eq_false, false_or] at h
     have h6 : ¬ ip.V = 6 := h6
     simp only
     rw [if_neg h6]
     exact h
   | error f2 =>
    have hf2 := (ZnN hi).1
    have fin : ∀ {w : World} (p : Zad), Ss W (RrA b wl e m xs :: Hs) w → WP (Zaz.K2 (some (pt b 0)) (n : Int) r (Zci, f2.1, (f2.2 : Int)) p) w (fun x w' => ResR W Hs b wl e m x w' (.error (163, r.at_))) := by
     intro w p s
     refine (Zl4 s r p (fun h => absurd h hf2)).mono ?_
     intro x w h
     rw [if_pos (.inl hf2)] at h
     exact h
    exact WP.slot' s (fun _ w s => WP.ite (fun _ => fin _ s) (fun _ => fin _ s))
end
def ZjA (a b : Option Int) : Option ZaE := match a, b with
 | some a, some b => if a ≤ b then some ⟨a, b⟩ else none
 | _, _ => none
theorem Zso (t : List Int) : ZnH t = ZjA (numR (t.take (ZbQ t 45)) 0 65535) (numR (if ZbQ t 45 < t.length then t.drop (ZbQ t 45 + 1) else t.take (ZbQ t 45)) 0 65535) := rfl
section
variable {W w : World} {Hs : List HP} {b : Nat} {wl : List ZaD} {e : Int} {m : Zbf} {ws : List Wd} {f : PF}
theorem Zlv (s : Ss W (RrD b f :: Hs) w) (n : Int) (r : ZaD) (q : ByteArray × ByteArray × Bool) (t2 : ByteArray) : WP (ZaP.K1 (some (pt b 0)) n r q t2) w (fun _ w' => Ss W (RrD b f :: Hs) w') := by
 unfold ZaP.K1
 refine WP.step (Zlz q.1 0 65535) ?_
 rintro x _ ⟨-, -, rfl⟩
 refine WP.step (Zlz t2 0 65535) ?_
 rintro y _ ⟨-, -, rfl⟩
 refine WP.nilck (errD s (fun h => ?_))
 refine WP.step (R := fun y w' => y = false ∧ w = w') (WP.ite (fun h' => absurd h' h) (fun _ => WP.ret ⟨rfl, rfl⟩)) ?_
 rintro _ _ ⟨rfl, rfl⟩
 exact WP.ite (fun h => by cases h) (fun _ => WP.ret s)
theorem ZnM (s : Ss W (RrA b wl e m ws :: Hs) w) {n : Nat} (r : ZaD) (q : ByteArray × ByteArray × Bool) (t2 : ByteArray) : WP (ZaP.K1 (some (pt b 0)) (n : Int) r q t2) w (fun x w' => ResR W Hs b wl e m x w' (match ZjA (numR (strI q.1) 0 65535) (numR (strI t2) 0 65535) with
  | none => .error (164, r.at_)
  | some p => if n = 16 then .error (164, r.at_) else .ok (p, ws))) := by
 unfold ZaP.K1
 refine WP.step (Zlz q.1 0 65535) ?_
 rintro x _ ⟨a1, a2, rfl⟩
 refine WP.step (Zlz t2 0 65535) ?_
 rintro y _ ⟨b1, b2, rfl⟩
 refine WP.nilck (errA s ?_)
 have bad : ∀ {w : World}, Ss W (RrA b wl e m ws :: Hs) w → WP (ZaS (some (pt b 0)) 164 r.at_ >>= fun r15 => pure (⟨x.1, y.1⟩ : ZaE)) w (fun x w' => ResR W Hs b wl e m x w' (.error (164, r.at_))) := by
  intro w s
  refine WP.step (Zd9 s (by decide) r.at_) ?_
  intro _ w s
  exact WP.ret s
 refine WP.step (R := fun z w' => z = decide (ZjA (numR (strI q.1) 0 65535) (numR (strI t2) 0 65535) = none ∨ n = 16) ∧ w = w') (WP.ite (fun _ => ?_) (fun h => absurd rfl h)) ?_
 ·cases ha : numR (strI q.1) 0 65535 with
  | none =>
   rw [ha] at a1
   refine WP.step (R := fun z w' => z = true ∧ w = w') (WP.ite (fun _ => WP.ret ⟨rfl, rfl⟩) (fun h => absurd (by rw [a1]; decide) h)) ?_
   rintro _ _ ⟨rfl, rfl⟩
   refine WP.step (R := fun z w' => z = true ∧ w = w') (WP.ite (fun _ => WP.ret ⟨rfl, rfl⟩) (fun h => absurd rfl h)) ?_
   rintro _ _ ⟨rfl, rfl⟩
   refine WP.step (R := fun z w' => z = true ∧ w = w') (WP.ite (fun _ => WP.ret ⟨rfl, rfl⟩) (fun h => absurd rfl h)) ?_
   rintro _ _ ⟨rfl, rfl⟩
   exact WP.ret ⟨(decide_eq_true (.inl rfl)).symm, rfl⟩
  | some v =>
   have hv := a2 v ha
   rw [ha] at a1
   refine WP.step (R := fun z w' => z = !y.2 ∧ w = w') (WP.ite (fun h => absurd a1 h) (fun _ => WP.ret ⟨rfl, rfl⟩)) ?_
   rintro _ _ ⟨rfl, rfl⟩
   cases hb : numR (strI t2) 0 65535 with
   | none =>
    rw [hb] at b1
    have b1 : y.2 = false := b1
    rw [b1]
    refine WP.step (R := fun z w' => z = true ∧ w = w') (WP.ite (fun _ => WP.ret ⟨rfl, rfl⟩) (fun h => absurd rfl h)) ?_
    rintro _ _ ⟨rfl, rfl⟩
    refine WP.step (R := fun z w' => z = true ∧ w = w') (WP.ite (fun _ => WP.ret ⟨rfl, rfl⟩) (fun h => absurd rfl h)) ?_
    rintro _ _ ⟨rfl, rfl⟩
    exact WP.ret ⟨(decide_eq_true (.inl rfl)).symm, rfl⟩
   | some u =>
    have hu := b2 u hb
    rw [hb] at b1
    have b1 : y.2 = true := b1
    rw [b1, hv, hu]
    refine WP.step (R := fun z w' => z = decide (v > u) ∧ w = w') (WP.ite (fun h => by cases h) (fun _ => WP.ret ⟨rfl, rfl⟩)) ?_
    rintro _ _ ⟨rfl, rfl⟩
    refine WP.step (R := fun z w' => z = decide (ZjA (some v) (some u) = none ∨ n = 16) ∧ w = w') (WP.ite (fun h => WP.ret ⟨?_, rfl⟩) (fun h => WP.ret ⟨?_, rfl⟩)) (fun z w h => WP.ret h)
    ·have := of_decide_eq_true h
     refine (decide_eq_true (.inl ?_)).symm
     unfold ZjA
     simp only
     rw [if_neg (by omega)]
    ·have h' : ¬ v > u := fun h' => h (decide_eq_true h')
     rw [Bool.eq_iff_iff, beq_iff_eq, decide_eq_true_iff]
     constructor
     ·intro hn
      exact .inr (by omega)
     ·rintro (h2 | h2)
      ·unfold ZjA at h2
       simp only at h2
       rw [if_pos (by omega)] at h2
       cases h2
      ·omega
 rintro _ _ ⟨rfl, rfl⟩
 refine WP.ite (fun h => ?_) (fun h => WP.ret ?_)
 ·cases hr : ZjA (numR (strI q.1) 0 65535) (numR (strI t2) 0 65535) with
  | none => exact bad s
  | some p =>
   have := of_decide_eq_true h
   rw [hr] at this
   have hn : n = 16 := this.elim (fun h => by cases h) id
   simp only
   rw [if_pos hn]
   exact bad s
 ·have hh : ¬ (ZjA (numR (strI q.1) 0 65535) (numR (strI t2) 0 65535) = none ∨ n = 16) := fun h' => h (decide_eq_true h')
  cases hr : ZjA (numR (strI q.1) 0 65535) (numR (strI t2) 0 65535) with
  | none => exact absurd (.inl hr) hh
  | some p =>
   simp only
   rw [if_neg (fun h => hh (.inr h))]
   refine ⟨?_, s⟩
   cases ha : numR (strI q.1) 0 65535 with
   | none => rw [ha] at hr; cases hr
   | some v =>
    cases hb : numR (strI t2) 0 65535 with
    | none => rw [ha, hb] at hr; cases hr
    | some u =>
     rw [ha, hb] at hr
     rw [a2 v ha, b2 u hb]
     unfold ZjA at hr
     simp only at hr
     split at hr
     ·exact Option.some.inj hr
     ·cases hr
theorem Zro (s : Ss W (RrA b wl e m ws :: Hs) w) (n : Nat) : WP (ZaP (some (pt b 0)) (n : Int)) w (fun x w' => ResR W Hs b wl e m x w' (ZoT e n ws)) := by
 unfold ZaP
 have hws := wsOk s
 refine WP.slot' s (fun _ w s => WP.step (ZiL s) ?_)
 intro r w h
 have dead : ∀ {w : World} {f : PF}, r.s.size ≤ 2000 → Ss W (RrD b f :: Hs) w → WP (slot 122 >>= fun b3 => ZdS r.s Zvf >>= fun r4 => (if ¬ (r4.2.2 = true) then ZaP.K1 (some (pt b 0)) (n : Int) r r4 r4.1 else ZaP.K1 (some (pt b 0)) (n : Int) r r4 r4.2.1)) w (fun _ w' => Ss W (RrD b f :: Hs) w') := by
  intro w f hs s
  refine WP.slot' s (fun _ w s => WP.step (ZtE s r.s (by omega) (q := 45) (by decide) Zr4) ?_)
  rintro q w ⟨-, -, s⟩
  exact WP.ite (fun _ => Zlv s _ _ _ _) (fun _ => Zlv s _ _ _ _)
 cases ws with
 | nil =>
  obtain ⟨hz, s1⟩ := h
  exact dead (by rw [hz]; decide) s1
 | cons x xs =>
  obtain ⟨hx, s1⟩ := h
  clear s
  have s := s1
  clear s1
  subst hx
  have hsz : r.s.size ≤ 2000 := by
   have := hws _ (List.mem_cons_self ..)
   rw [← Zb4]
   exact this
  rw [ZjY]
  by_cases hc : (wdOf r).1 = ZdI
  ·rw [if_pos hc] at s ⊢
   exact dead hsz s
  rw [if_neg hc] at s ⊢
  have hr : (wdOf r).1 = strI r.s := rfl
  have hl := Zb4 r.s
  rw [hr, Zso]
  refine WP.slot' s (fun _ w s => WP.step (ZtE s r.s (by omega) (q := 45) (by decide) Zr4) ?_)
  rintro q w ⟨⟨c1, c2⟩, c3, s⟩
  have c1 : q.2.2 = decide (ZbQ (strI r.s) 45 < r.s.size) := c1
  have c2 : ZbQ (strI r.s) 45 < r.s.size → strI q.1 = (strI r.s).take (ZbQ (strI r.s) 45) ∧ strI q.2.1 = (strI r.s).drop (ZbQ (strI r.s) 45 + 1) := c2
  have c3 : ¬ ZbQ (strI r.s) 45 < r.s.size → q.1 = r.s := c3
  by_cases hf : ZbQ (strI r.s) 45 < r.s.size
  ·rw [if_pos (show ZbQ (strI r.s) 45 < (strI r.s).length by omega), ← (c2 hf).1, ← (c2 hf).2]
   exact WP.ite (fun h => absurd (by rw [c1]; exact decide_eq_true hf) h) (fun _ => ZnM s r q q.2.1)
  ·have hle := Ztc (strI r.s) 45
   have e1 : (strI r.s).take (ZbQ (strI r.s) 45) = strI q.1 := by
    rw [List.take_of_length_le (by omega), c3 hf]
   rw [if_neg (show ¬ ZbQ (strI r.s) 45 < (strI r.s).length by omega), e1]
   exact WP.ite (fun _ => ZnM s r q q.1) (fun h => absurd (by rw [c1, decide_eq_false hf]; decide) h)
def ZrP (W : World) (Hs : List HP) (b : Nat) (wl : List ZaD) (e : Int) (m : Zbf) (r : Zaf) (w : World) : PE (ZeT × List Wd) → Prop
 | .ok q => Ss W (Zkb r q.1 :: RrA b wl e m q.2 :: Hs) w
 | .error f => Ss W (RrD b f :: Hs) w
theorem ZqN {j : Zaf} {nt : Bool} {ns sp : List Zad} {ps sp2 : List ZaE} (h : j.Not = nt) (s : Ss W (vec cPfx j.Nets ns sp :: vec cRg j.Ports ps sp2 :: Hs) w) : Ss W (Zkb j ⟨nt, ns, ps⟩ :: Hs) w :=
 (Ss.group (l := [vec cPfx j.Nets ns sp, vec cRg j.Ports ps sp2]) s).first (fun h' hh => ⟨(sp, sp2), h, hh⟩)
abbrev Ph (α : Type) := PE (Bool × List α × List Wd)
def Ph.mu {α : Type} : Ph α → Nat
 | .ok (true, _, ws) => ws.length + 1
 | _ => 0
theorem Zlu {X : PE (List ZaE × List Wd)} {Z : PE (ZeT × List Wd)} {nt : Bool} {nn : Sl} {ns sp : List Zad} (hX : ∀ ps r, X = .ok (ps, r) → Z = .ok (⟨nt, ns, ps⟩, r)) (hE : ∀ f, X = .error f → Z = .error f) (g : Ph ZaE) {x : Bool × Zaf} {acc : List ZaE} {sp2 : List ZaE}
  (hx : x.2.Not = nt ∧ x.2.Nets = nn) (hacc : acc.length ≤ 17)
  (h : match g with
   | .ok (more, a, ws) => x.1 = more ∧ a = acc ∧ acc.length ≤ 16 ∧ (if more = true then ZhH e acc ws else .ok (acc, ws)) = X ∧ Ss W (vec cPfx nn ns sp :: vec cRg x.2.Ports acc sp2 :: RrA b wl e m ws :: Hs) w
   | .error f => X = .error f ∧ Ss W (vec cPfx nn ns sp :: vec cRg x.2.Ports acc sp2 :: RrD b f :: Hs) w) :
  WP (ZcI (fun s_ : (Bool × Zaf) => Zab.L1 (some (pt b 0)) s_.1 s_.2) x) w (fun r w' => ZrP W Hs b wl e m r w' Z) := by
 refine WP.loopG (γ := Ph ZaE × List ZaE × List ZaE) (fun g (x : Bool × Zaf) w => (x.2.Not = nt ∧ x.2.Nets = nn) ∧ g.2.1.length ≤ 17 ∧ (match g.1 with
   | .ok (more, a, ws) => x.1 = more ∧ a = g.2.1 ∧ g.2.1.length ≤ 16 ∧ (if more = true then ZhH e g.2.1 ws else .ok (g.2.1, ws)) = X ∧ Ss W (vec cPfx nn ns sp :: vec cRg x.2.Ports g.2.1 g.2.2 :: RrA b wl e m ws :: Hs) w
   | .error f => X = .error f ∧ Ss W (vec cPfx nn ns sp :: vec cRg x.2.Ports g.2.1 g.2.2 :: RrD b f :: Hs) w)) (fun g _ => g.1.mu) (g, acc, sp2) ⟨hx, hacc, h⟩ ?_
 clear h hx hacc
 rintro ⟨g, acc, sp2⟩ ⟨more, j⟩ w ⟨⟨hj1, hj2⟩, hacc, h⟩
 simp only at hj1 hj2 hacc h
 show WP (Zab.L1 (some (pt b 0)) more j) w _
 unfold Zab.L1
 cases g with
 | error f =>
  obtain ⟨hXf, s⟩ := h
  have s1 : Ss W (RrD b f :: (vec cPfx nn ns sp :: vec cRg j.Ports acc sp2 :: Hs)) w := by
   have s := s.use [2] rfl
   exact s
  refine WP.step (R := fun y w' => y = false ∧ w = w') (WP.ite (fun _ => WP.nilck (errD s1 (fun h => WP.ret ⟨beq_eq_false_iff_ne.2 h, rfl⟩))) (fun _ => WP.ret ⟨rfl, rfl⟩)) ?_
  rintro _ _ ⟨rfl, rfl⟩
  refine WP.ite (fun h => by cases h) (fun _ => WP.done ?_)
  rw [hE f hXf]
  have s := (s1.use [1, 1] rfl).drop.drop
  exact s
 | ok g =>
  obtain ⟨mr, a, ws⟩ := g
  obtain ⟨h1, h2, h16, h3, s⟩ := h
  subst h1
  subst h2
  have s1 : Ss W (RrA b wl e m ws :: (vec cPfx nn ns sp :: vec cRg j.Ports a sp2 :: Hs)) w := by
   have s := s.use [2] rfl
   exact s
  cases more with
  | false =>
   refine WP.step (R := fun y w' => y = false ∧ w = w') (WP.ite (fun h => by cases h) (fun _ => WP.ret ⟨rfl, rfl⟩)) ?_
   rintro _ _ ⟨rfl, rfl⟩
   refine WP.ite (fun h => by cases h) (fun _ => WP.done ?_)
   rw [hX a ws h3.symm]
   have s2 : Ss W (vec cPfx j.Nets ns sp :: vec cRg j.Ports a sp2 :: (RrA b wl e m ws :: Hs)) w := by
    rw [hj2]
    exact s
   exact ZqN hj1 s2
  | true =>
   refine WP.step (R := fun y w' => y = true ∧ w = w') (WP.ite (fun _ => WP.nilck (errA s1 (WP.ret ⟨rfl, rfl⟩))) (fun h => absurd rfl h)) ?_
   rintro _ _ ⟨rfl, rfl⟩
   refine WP.ite (fun _ => WP.draw' s1 (fun w s => ?_)) (fun h => absurd rfl h)
   have hpl := (s.vec_len (i := 2) rfl).1
   rw [hpl]
   refine WP.step (Zro s a.length) ?_
   intro p w h
   simp only [if_true] at h3
   rw [Zmx] at h3
   cases hr : ZoT e a.length ws with
   | error f =>
    rw [hr] at h h3
    refine WP.slot' h (fun _ w s => WP.appl s 2 rfl (by simp only [List.length_singleton]; omega) (by decide) (fun q w sp3 s => ?_))
    have s : Ss W (RrD b f :: (vec cPfx nn ns sp :: vec cRg q (a ++ [p]) sp3 :: Hs)) w := s
    refine WP.step (ZgV s _) ?_
    rintro _ w ⟨rfl, s⟩
    refine WP.next ⟨(.error f, a ++ [p], sp3), ⟨⟨hj1, hj2⟩, by simp only [List.length_append, List.length_singleton]; omega, h3.symm, ?_⟩, by simp [Ph.mu]⟩
    have s := s.use [1, 1, 0] rfl
    exact s
   | ok q =>
    obtain ⟨p', r⟩ := q
    rw [hr] at h h3
    obtain ⟨hp, s⟩ := h
    simp only at hp s h3
    subst hp
    have hlen := ZnI hr
    refine WP.slot' s (fun _ w s => WP.appl s 2 rfl (by simp only [List.length_singleton]; omega) (by decide) (fun q w sp3 s => ?_))
    have s : Ss W (RrA b wl e m r :: (vec cPfx nn ns sp :: vec cRg q (a ++ [p]) sp3 :: Hs)) w := s
    refine WP.step (ZgU s Zja) ?_
    intro y w h
    cases ht : Zfx ZdI r with
    | none =>
     rw [ht] at h h3
     obtain ⟨rfl, s⟩ := h
     refine WP.next ⟨(.ok (false, a ++ [p], r), a ++ [p], sp3), ⟨⟨hj1, hj2⟩, by simp only [List.length_append, List.length_singleton]; omega, rfl, rfl, by simp only [List.length_append, List.length_singleton]; omega, h3, ?_⟩, by simp [Ph.mu]⟩
     have s := s.use [1, 1, 0] rfl
     exact s
    | some r2 =>
     rw [ht] at h h3
     obtain ⟨rfl, s⟩ := h
     have hlt := ZfS ht
     refine WP.next ⟨(.ok (true, a ++ [p], r2), a ++ [p], sp3), ⟨⟨hj1, hj2⟩, by simp only [List.length_append, List.length_singleton]; omega, rfl, rfl, by simp only [List.length_append, List.length_singleton]; omega, h3, ?_⟩, by simp only [Ph.mu]; omega⟩
     have s := s.use [1, 1, 0] rfl
     exact s
end
section
variable {W w : World} {Hs : List HP} {b : Nat} {wl : List ZaD} {e : Int} {m : Zbf} {ws : List Wd} {f : PF}
theorem ZtQ {x : Wd} {xs : List Wd} (s : Ss W (RrA b wl e m (x :: xs) :: Hs) w) {t : ByteArray} (ht : x.1 = strI t) : WP (Zbr (some (pt b 0)) t) w (fun r w' => r = true ∧ ∃ q d, RrFs e wl m xs q ∧ 0 < q.2 ∧ wl[q.2 - 1]? = some d ∧ wdOf d = x ∧ Ss W (RrHs b wl m q.1 ++ Hs) w') := by
 unfold Zbr
 refine WP.draw' s (fun w s => WP.nilck (errA s ?_))
 obtain ⟨⟨rr, i⟩, hq, s1⟩ := Ziw s
 obtain ⟨h1, h2, h3, h4, h5, h6, h7⟩ := hq
 have h50 := h5.1
 simp only at h1 h2 h3 h4 h5 h6 h7 s1
 obtain ⟨r, hr, hx, hxs, hi⟩ := Zky h6
 have hr' : wl[(i : Int).toNat]? = some r := by rw [Int.toNat_natCast]; exact hr
 have hl := (s1.rd_cap (i := 1) rfl).1
 have hw : IntKind.wrap .i64 ((i : Int) + 1) = ((i + 1 : Nat) : Int) := by
  rw [Zau (by omega) (by omega)]
  omega
 refine WP.step (R := fun y w' => y = false ∧ w = w') (WP.ite (fun h => absurd rfl h) (fun _ => WP.nilck (WP.ld (x := rr.i) s1 0 rfl (o := 1) rfl (ZbJ _) (WP.nilck (WP.ld (x := rr.l) s1 0 rfl (o := 0) (by simp [Addr.add]) (Zcz _) (WP.ret ⟨?_, rfl⟩)))))) ?_
 ·rw [h1, hl]
  exact beq_eq_false_iff_ne.2 (by omega)
 rintro _ _ ⟨rfl, rfl⟩
 refine WP.step (R := fun y w' => y = false ∧ w = w') (WP.ite (fun h => by cases h) (fun _ => WP.nilck (WP.ld (x := rr.l) s1 0 rfl (o := 0) (by simp [Addr.add]) (Zcz _) (WP.nilck (WP.ld (x := rr.i) s1 0 rfl (o := 1) rfl (ZbJ _) ?_))))) ?_
 ·rw [h1]
  refine WP.rdxp0 s1 1 rfl ZbD (by omega) hr' rfl (Zbt _) (WP.ret ⟨?_, rfl⟩)
  rw [Bool.not_eq_false', beq_iff_eq, Zcw, ← ht, ← hx]
  rfl
 rintro _ _ ⟨rfl, rfl⟩
 refine WP.ite (fun h => by cases h) (fun _ => WP.nilck (WP.ld (x := rr.i) s1 0 rfl (o := 1) rfl (ZbJ _) (WP.nilck ?_)))
 rw [h1, hw]
 refine WP.st s1 0 rfl (o := 1) rfl (Zgi _ _) (fun w s => WP.ret ⟨rfl, ?_⟩)
 exact ⟨(⟨rr.l, ((i + 1 : Nat) : Int), rr.end_, rr.rule, rr.err, rr.at_⟩, i + 1), r, ⟨rfl, h2, h3, hi, h5, hxs, h7⟩, Nat.succ_pos _, hr, hx, s⟩
theorem ZoY (n : Int) : WP (ZeA n) w (fun y w' => y = ZgW n ∧ w = w') := by
 unfold ZeA ZgW
 refine WP.step (R := fun y w' => y = decide (n = 6 ∨ n = 17) ∧ w = w') (WP.ite (fun h => WP.ret ⟨(decide_eq_true (.inl h)).symm, rfl⟩) (fun h => WP.ret ⟨?_, rfl⟩)) (fun y w h => WP.ret h)
 rw [Bool.eq_iff_iff, beq_iff_eq, decide_eq_true_iff]
 exact ⟨.inr, fun h' => h'.elim (fun h' => absurd h' h) id⟩
theorem Zqy (n : Int) : WP (ZeG n) w (fun y w' => y = Zid n ∧ w = w') := by
 unfold ZeG Zid
 refine WP.step (R := fun y w' => y = decide (n = 1 ∨ n = 58) ∧ w = w') (WP.ite (fun h => WP.ret ⟨(decide_eq_true (.inl h)).symm, rfl⟩) (fun h => WP.ret ⟨?_, rfl⟩)) (fun y w h => WP.ret h)
 rw [Bool.eq_iff_iff, beq_iff_eq, decide_eq_true_iff]
 exact ⟨.inr, fun h' => h'.elim (fun h' => absurd h' h) id⟩
theorem ZiC {e proto : Int} {x : Wd} {xs : List Wd} : Zgf e proto (x :: xs) = if x.1 = tx "port" then (if ZgW proto = true then ZhH e [] xs else .error (165, x.2)) else .ok ([], x :: xs) := rfl
def ZpI (nt : Bool) (ns : List Zad) (X : PE (List ZaE × List Wd)) : PE (ZeT × List Wd) := match X with
 | .error f => .error f
 | .ok (ps, r) => .ok (⟨nt, ns, ps⟩, r)
theorem ZoK {j : Zaf} {nt : Bool} {ns sp : List Zad} (hj : j.Not = nt) (hp : j.Ports = Sl.nil) (s : Ss W (RrA b wl e m ws :: vec cPfx j.Nets ns sp :: Hs) w) :
  WP (Zab.K2 (some (pt b 0)) j) w (fun r w' => ZrP W Hs b wl e m r w' (ZpI nt ns (Zgf e m.Proto ws))) := by
 unfold Zab.K2
 have pass : ∀ {w : World}, Ss W (RrA b wl e m ws :: vec cPfx j.Nets ns sp :: Hs) w → ZrP W Hs b wl e m j w (.ok (⟨nt, ns, []⟩, ws)) := by
  intro w s
  have s := s.mk0 (A := vec cRg j.Ports [] []) (by rw [hp]; exact Zdc)
  have s : Ss W (vec cPfx j.Nets ns sp :: vec cRg j.Ports [] [] :: (RrA b wl e m ws :: Hs)) w := by
   have s := s.use [2, 0] rfl
   exact s
  exact ZqN hj s
 by_cases hc : ∃ x xs, ws = x :: xs ∧ x.1 = tx "port"
 rotate_left
 ·have ht : Zfx (tx "port") ws = none := by
   cases ws with
   | nil => rfl
   | cons x xs =>
    rw [show Zfx (tx "port") (x :: xs) = if x.1 = tx "port" then some xs else none from rfl, if_neg (fun h => hc ⟨x, xs, rfl, h⟩)]
  have hs : Zgf e m.Proto ws = .ok ([], ws) := by
   cases ws with
   | nil => rfl
   | cons x xs =>
    rw [ZiC, if_neg (fun h => hc ⟨x, xs, rfl, h⟩)]
  rw [hs]
  refine WP.step (ZgU s Zr2) ?_
  intro y w h
  rw [ht] at h
  obtain ⟨rfl, s⟩ := h
  exact WP.ite (fun _ => WP.ret (pass s)) (fun h => absurd (by decide) h)
 obtain ⟨x, xs, rfl, hx⟩ := hc
 clear pass
 have hs : Zgf e m.Proto (x :: xs) = if ZgW m.Proto = true then ZhH e [] xs else .error (165, x.2) := by
  rw [ZiC, if_pos hx]
 rw [hs]
 refine WP.step (ZtQ s (hx.trans Zr2.symm)) ?_
 rintro _ w ⟨rfl, ⟨rr, i⟩, d, hq, hi, hd, hdx, s⟩
 have sA := ZlE hq s
 refine WP.ite (fun h => absurd rfl h) (fun _ => WP.nilck (Zss sA (WP.step (ZoY m.Proto) ?_)))
 rintro _ _ ⟨rfl, rfl⟩
 have sA0 := sA.mk0 (A := vec cRg j.Ports [] []) (by rw [hp]; exact Zdc)
 refine WP.ite (fun h => ?_) (fun h => ?_)
 ·rw [if_neg h]
  obtain ⟨h1, h2, h3, h4, h5, h6, h7⟩ := hq
  have h50 := h5.1
  simp only at h1 h2 h3 h4 h5 h6 h7 s hi hd
  refine WP.draw' s (fun w s => WP.nilck (WP.ld (x := rr.l) s 0 rfl (o := 0) (by simp [Addr.add]) (Zcz _) (WP.nilck (WP.ld (x := rr.i) s 0 rfl (o := 1) rfl (ZbJ _) ?_))))
  have hw : IntKind.wrap .i64 (rr.i - 1) = ((i - 1 : Nat) : Int) := by
   rw [h1, Zau (by omega) (by omega)]
   omega
  rw [hw]
  refine WP.rdxp s 1 rfl ZbD (by omega) (x := d) (by rw [Int.toNat_natCast]; exact hd) rfl (ZbR _) ?_
  have hat : d.at_ = x.2 := by rw [← hdx]; rfl
  rw [hat]
  refine WP.step (Zd9 (ZlE (q := (rr, i)) ⟨h1, h2, h3, h4, h5, h6, h7⟩ s) (by decide) x.2) ?_
  intro _ w s
  unfold Zab.K1
  have s := s.mk0 (A := vec cRg j.Ports [] []) (by rw [hp]; exact Zdc)
  refine Zlu (W := W) (Hs := Hs) (b := b) (wl := wl) (e := e) (m := m) (X := .error (165, x.2)) (nt := nt) (nn := j.Nets) (ns := ns) (sp := sp) (fun ps r h => by cases h) (fun f h => by cases h; rfl) (.error (165, x.2)) (acc := []) (sp2 := []) ⟨hj, rfl⟩ (by simp) ⟨rfl, ?_⟩
  have s := s.use [2, 0, 0] rfl
  exact s
 ·have h' : ZgW m.Proto = true := Decidable.not_not.1 h
  rw [if_pos h']
  unfold Zab.K1
  refine Zlu (W := W) (Hs := Hs) (b := b) (wl := wl) (e := e) (m := m) (X := ZhH e [] xs) (nt := nt) (nn := j.Nets) (ns := ns) (sp := sp) (fun ps r h => by rw [h]; rfl) (fun f h => by rw [h]; rfl) (.ok (true, [], xs)) (acc := []) (sp2 := []) ⟨hj, rfl⟩ (by simp) ⟨rfl, rfl, by simp, rfl, ?_⟩
  have s := sA0.use [2, 0, 0] rfl
  exact s
theorem ZpR {j : Zaf} (s : Ss W (RrD b f :: Hs) w) : WP (Zab.K2 (some (pt b 0)) j) w (fun r w' => Ss W (RrD b f :: Hs) w') := by
 unfold Zab.K2
 refine WP.step (ZgV s _) ?_
 rintro _ w ⟨rfl, s⟩
 exact WP.ite (fun _ => WP.ret s) (fun h => absurd (by decide) h)
theorem Zp3 {X : PE (List Zad × List Wd)} {Z : PE (ZeT × List Wd)} {nt : Bool} (hX : ∀ ns r, X = .ok (ns, r) → Z = ZpI nt ns (Zgf e m.Proto r)) (hE : ∀ f, X = .error f → Z = .error f) {x : Bool × Zaf}
  (hx : x.2.Not = nt ∧ x.2.Nets = Sl.nil ∧ x.2.Ports = Sl.nil) (h1 : x.1 = true) (h2 : Zks e m.Kind [] ws = X) (s : Ss W (RrA b wl e m ws :: Hs) w) :
  WP (ZcI (fun s_ : (Bool × Zaf) => Zab.L2 (some (pt b 0)) s_.1 s_.2) x) w (fun r w' => ZrP W Hs b wl e m r w' Z) := by
 have s0 := (s.mk0 (A := vec cPfx x.2.Nets [] []) (by rw [hx.2.1]; exact Zdc)).use [1, 0] rfl
 refine WP.loopG (γ := Ph Zad × List Zad × List Zad) (fun g (x : Bool × Zaf) w => (x.2.Not = nt ∧ x.2.Ports = Sl.nil) ∧ g.2.1.length ≤ 17 ∧ (match g.1 with
   | .ok (more, a, ws) => x.1 = more ∧ a = g.2.1 ∧ g.2.1.length ≤ 16 ∧ (if more = true then Zks e m.Kind g.2.1 ws else .ok (g.2.1, ws)) = X ∧ Ss W (RrA b wl e m ws :: vec cPfx x.2.Nets g.2.1 g.2.2 :: Hs) w
   | .error f => X = .error f ∧ Ss W (RrD b f :: vec cPfx x.2.Nets g.2.1 g.2.2 :: Hs) w)) (fun g _ => g.1.mu) (.ok (true, [], ws), [], []) ⟨⟨hx.1, hx.2.2⟩, by simp, h1, rfl, by simp, h2, s0⟩ ?_
 clear hx s s0 h1 h2
 rintro ⟨g, acc, sp⟩ ⟨more, j⟩ w ⟨⟨hj1, hj2⟩, hacc, h⟩
 simp only at hj1 hj2 hacc h
 show WP (Zab.L2 (some (pt b 0)) more j) w _
 unfold Zab.L2
 cases g with
 | error f =>
  obtain ⟨hXf, s⟩ := h
  refine WP.step (R := fun y w' => y = false ∧ w = w') (WP.ite (fun _ => WP.nilck (errD s (fun h => WP.ret ⟨beq_eq_false_iff_ne.2 h, rfl⟩))) (fun _ => WP.ret ⟨rfl, rfl⟩)) ?_
  rintro _ _ ⟨rfl, rfl⟩
  refine WP.ite (fun h => by cases h) (fun _ => WP.step (ZpR (j := j) s) (fun r w h => WP.done ?_))
  rw [hE f hXf]
  exact (h.use [1] rfl).drop
 | ok g =>
  obtain ⟨mr, a, ws⟩ := g
  obtain ⟨h1, h2, h16, h3, s⟩ := h
  subst h1
  subst h2
  cases more with
  | false =>
   refine WP.step (R := fun y w' => y = false ∧ w = w') (WP.ite (fun h => by cases h) (fun _ => WP.ret ⟨rfl, rfl⟩)) ?_
   rintro _ _ ⟨rfl, rfl⟩
   refine WP.ite (fun h => by cases h) (fun _ => WP.step (ZoK (j := j) hj1 hj2 s) (fun r w h => WP.done ?_))
   rw [hX a ws h3.symm]
   exact h
  | true =>
   refine WP.step (R := fun y w' => y = true ∧ w = w') (WP.ite (fun _ => WP.nilck (errA s (WP.ret ⟨rfl, rfl⟩))) (fun h => absurd rfl h)) ?_
   rintro _ _ ⟨rfl, rfl⟩
   refine WP.ite (fun _ => WP.draw' s (fun w s => ?_)) (fun h => absurd rfl h)
   have hpl := (s.vec_len (i := 1) rfl).1
   rw [hpl]
   refine WP.step (Zt5 s a.length) ?_
   intro p w h
   simp only [if_true] at h3
   rw [ZnR] at h3
   cases hr : net1 e m.Kind a.length ws with
   | error f =>
    rw [hr] at h h3
    refine WP.slot' h (fun _ w s => WP.appl s 1 rfl (by simp only [List.length_singleton]; omega) (by decide) (fun q w sp3 s => ?_))
    have s : Ss W (RrD b f :: (vec cPfx q (a ++ [p]) sp3 :: Hs)) w := s
    refine WP.step (ZgV s _) ?_
    rintro _ w ⟨rfl, s⟩
    exact WP.next ⟨(.error f, a ++ [p], sp3), ⟨⟨hj1, hj2⟩, by simp only [List.length_append, List.length_singleton]; omega, h3.symm, s⟩, by simp [Ph.mu]⟩
   | ok q =>
    obtain ⟨p', r⟩ := q
    rw [hr] at h h3
    obtain ⟨hp, s⟩ := h
    simp only at hp s h3
    subst hp
    have hlen := ZqM hr
    refine WP.slot' s (fun _ w s => WP.appl s 1 rfl (by simp only [List.length_singleton]; omega) (by decide) (fun q w sp3 s => ?_))
    have s : Ss W (RrA b wl e m r :: (vec cPfx q (a ++ [p]) sp3 :: Hs)) w := s
    refine WP.step (ZgU s Zja) ?_
    intro y w h
    cases ht : Zfx ZdI r with
    | none =>
     rw [ht] at h h3
     obtain ⟨rfl, s⟩ := h
     exact WP.next ⟨(.ok (false, a ++ [p], r), a ++ [p], sp3), ⟨⟨hj1, hj2⟩, by simp only [List.length_append, List.length_singleton]; omega, rfl, rfl, by simp only [List.length_append, List.length_singleton]; omega, h3, s⟩, by simp [Ph.mu]⟩
    | some r2 =>
     rw [ht] at h h3
     obtain ⟨rfl, s⟩ := h
     have hlt := ZfS ht
     exact WP.next ⟨(.ok (true, a ++ [p], r2), a ++ [p], sp3), ⟨⟨hj1, hj2⟩, by simp only [List.length_append, List.length_singleton]; omega, rfl, rfl, by simp only [List.length_append, List.length_singleton]; omega, h3, s⟩, by simp only [Ph.mu]; omega⟩
theorem ZqA (kind proto : Int) : ZoJ e kind proto ws = match Zfx (tx "any") ws with
  | some r => ZpI false [] (Zgf e proto r)
  | none => match Zks e kind [] ((Zfx (tx "not") ws).getD ws) with
   | .error f => .error f
   | .ok (l, r) => ZpI (Zfx (tx "not") ws).isSome l (Zgf e proto r) := by
 unfold ZoJ ZuX ZpI
 cases Zfx (tx "any") ws with
 | some r =>
  simp only
  try (cases Zgf e proto r <;> rfl)
 | none =>
  simp only
  cases Zks e kind [] ((Zfx (tx "not") ws).getD ws) with
  | error f => rfl
  | ok q =>
   simp only
   try (cases Zgf e proto q.2 <;> rfl)
theorem ZoR (s : Ss W (RrA b wl e m ws :: Hs) w) : WP (Zab (some (pt b 0))) w (fun r w' => ZrP W Hs b wl e m r w' (ZoJ e m.Kind m.Proto ws)) := by
 unfold Zab
 rw [ZqA]
 refine WP.slot' s (fun _ w s => WP.slot' s (fun _ w s => WP.step (ZgU s ZuV) ?_))
 intro y w h
 cases ht : Zfx (tx "any") ws with
 | some r =>
  rw [ht] at h
  obtain ⟨rfl, s⟩ := h
  refine WP.ite (fun h => absurd rfl h) (fun _ => ZoK (sp := []) rfl rfl ?_)
  exact (s.mk0 (A := vec cPfx Za3.Nets [] []) Zdc).use [1, 0] rfl
 | none =>
  rw [ht] at h
  obtain ⟨rfl, s⟩ := h
  refine WP.ite (fun _ => WP.step (ZgU s Zv6) ?_) (fun h => absurd (by decide) h)
  intro y w h
  have go : ∀ {w : World} {y : Bool} {r : List Wd}, Ss W (RrA b wl e m r :: Hs) w → WP (ZcI (fun s_ : (Bool × Zaf) => Zab.L2 (some (pt b 0)) s_.1 s_.2) (true, (⟨y, Za3.Nets, Za3.Ports⟩ : Zaf))) w (fun r' w' => ZrP W Hs b wl e m r' w' (match Zks e m.Kind [] r with
   | .error f => .error f
   | .ok (l, r) => ZpI y l (Zgf e m.Proto r))) := by
   intro w y r s
   exact Zp3 (X := Zks e m.Kind [] r) (nt := y) (fun ns r h => by rw [h]) (fun f h => by rw [h]) ⟨rfl, rfl, rfl⟩ rfl rfl s
  cases hn : Zfx (tx "not") ws with
  | some r =>
   rw [hn] at h
   obtain ⟨rfl, s⟩ := h
   exact go s
  | none =>
   rw [hn] at h
   obtain ⟨rfl, s⟩ := h
   exact go s
end
end Go.Proofs.YtobemldccnnblaaGreatDoor.Lx
