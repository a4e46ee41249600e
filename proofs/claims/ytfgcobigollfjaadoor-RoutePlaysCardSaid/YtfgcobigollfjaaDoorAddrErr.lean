/- Plain words, put together. -/
import Derived.Test.YtfgcobigollfjaaDoorAddrByt
import Derived.Test.YtfgcobigollfjaaDoorLxSh
import Derived.Test.YtfgcobigollfjaaDoorAddrMask
set_option linter.unusedVariables false
set_option linter.unusedSimpArgs false
namespace Go.Proofs.YtfgcobigollfjaaDoor.Lx
open Go Go.Proofs Go.RowKit
section
variable {W w : World} {Hs : List HP}
theorem Zfg {n : Int} (h : 0 ≤ n) (h' : n ≤ 255) : IntKind.wrap .u8 n = n := by
 simp [IntKind.wrap, IntKind.bits, IntKind.signed]
 omega
end
def Zdl (c : Int) : Bool := decide (48 ≤ c ∧ c ≤ 57)
def hexV (c : Int) : Int := if 48 ≤ c ∧ c ≤ 57 then c - 48 else if 97 ≤ c ∧ c ≤ 102 then c - 87 else if 65 ≤ c ∧ c ≤ 70 then c - 55 else -1
def Ze7 (c : Int) : Bool := decide (hexV c ≥ 0)
def runE (p : Int → Bool) (l : List Int) (i : Nat) : Nat := i + ((l.drop i).takeWhile p).length
abbrev Flt := Int × Nat
def Zhe (l : List Int) (i : Nat) : Flt := if i = l.length then (42, i) else (41, i)
def valD (l : List Int) : Nat := l.foldl (fun n c => 10 * n + (c - 48).toNat) 0
def numM (l : List Int) (i : Nat) (most wrong : Int) : Except Flt (Nat × Nat) :=
 if runE Zdl l i = i then .error (Zhe l i)
 else if runE Zdl l i - i > 3 ∨ (runE Zdl l i - i > 1 ∧ l.getD i 0 = 48) then .error (wrong, i)
 else if (valD ((l.drop i).take (runE Zdl l i - i)) : Int) > most then .error (wrong, i)
 else .ok (valD ((l.drop i).take (runE Zdl l i - i)), runE Zdl l i)
def sepM (l : List Int) (i : Nat) (first : Bool) : Except Flt Nat := if first = true then .ok i else if i = l.length ∨ l.getD i 0 ≠ 46 then .error (Zhe l i) else .ok (i + 1)
def Zg4 (l : List Int) : Nat → Nat → List Nat → Except Flt (List Nat × Nat)
 | 0, i, acc => .ok (acc, i)
 | k + 1, i, acc => match sepM l i acc.isEmpty with
  | .error f => .error f
  | .ok j => match numM l j 255 43 with
   | .error f => .error f
   | .ok (n, e) => Zg4 l k e (acc ++ [n])
def Ze8 (l : List Int) (i : Nat) : Except Flt (List Nat) := match Zg4 l 4 i [] with
 | .error f => .error f
 | .ok (a, e) => if e < l.length then .error (41, e) else .ok a
theorem Zd3 {s : ByteArray} {i : Nat} : sb s (i : Int) = (strI s).getD i 0 := by
 unfold sb strI
 rw [Int.toNat_natCast, List.getD, List.getD, List.getElem?_map]
 cases s.data.toList[i]? <;> rfl
theorem ZfZ {p : Int → Bool} {l : List Int} {i : Nat} (h : i ≤ l.length) : i ≤ runE p l i ∧ runE p l i ≤ l.length := by
 unfold runE
 have := (List.takeWhile_sublist p (l := l.drop i)).length_le
 rw [List.length_drop] at this
 omega
theorem Zf0 {p : Int → Bool} {l : List Int} {i k : Nat} (h1 : i ≤ k) (h2 : k ≤ runE p l i) : (k < l.length ∧ p (l.getD k 0) = true) ↔ k < runE p l i := by
 have hd : ∀ (l : List Int) (n : Nat), n ≤ (l.takeWhile p).length → ((n < l.length ∧ p (l.getD n 0) = true) ↔ n < (l.takeWhile p).length) := by
  intro l
  induction l with
  | nil => intro n hn; simp
  | cons x l ih =>
   intro n hn
   by_cases hx : p x = true
   ·simp only [List.takeWhile_cons, hx, if_true, List.length_cons] at hn ⊢
    cases n with
    | zero => simp [hx]
    | succ n =>
     have := ih n (by omega)
     simp only [List.getD_cons_succ]
     constructor
     ·rintro ⟨a, b⟩
      have := this.1 ⟨by omega, b⟩
      omega
     ·intro h
      have := this.2 (by omega)
      exact ⟨by omega, this.2⟩
   ·simp only [List.takeWhile_cons, hx, Bool.false_eq_true, if_false, List.length_nil] at hn ⊢
    have : n = 0 := by omega
    subst this
    simp [hx]
 unfold runE at h2 ⊢
 have := hd (l.drop i) (k - i) (by omega)
 have e : (l.drop i).getD (k - i) 0 = l.getD k 0 := by
  rw [List.getD, List.getD, List.getElem?_drop, show i + (k - i) = k by omega]
 rw [e, List.length_drop] at this
 constructor
 ·intro h
  have := this.1 ⟨by omega, h.2⟩
  omega
 ·intro h
  have := this.2 (by omega)
  exact ⟨by omega, this.2⟩
theorem ZfB {p : Int → Bool} {l : List Int} {i k : Nat} (h1 : i ≤ k) (h2 : k < runE p l i) : p (l.getD k 0) = true := ((Zf0 h1 (by omega)).2 h2).2
section
variable {W w : World} {Hs : List HP}
theorem Zia (l : List Int) (c : Int) : valD (l ++ [c]) = 10 * valD l + (c - 48).toNat := by
 unfold valD
 rw [List.foldl_append]
 rfl
theorem ZmH : ∀ (k : Nat) (l : List Int), l.length ≤ k → (∀ c ∈ l, Zdl c = true) → valD l < 10 ^ k := by
 intro k
 induction k with
 | zero =>
  intro l hl _
  have : l = [] := List.eq_nil_of_length_eq_zero (by omega)
  subst this
  decide
 | succ k ih =>
  intro l hl hd
  rcases List.eq_nil_or_concat l with rfl | ⟨l', c, rfl⟩
  ·exact Nat.pow_pos (by omega)
  ·rw [List.concat_eq_append] at hl hd ⊢
   rw [Zia, Nat.pow_succ]
   have h1 := ih l' (by simp at hl; omega) (fun c hc => hd c (by simp [hc]))
   have h2 := hd c (by simp)
   unfold Zdl at h2
   have h2 := of_decide_eq_true h2
   omega
theorem ZkY {l : List Int} {i n e : Nat} {most wrong : Int} (h : numM l i most wrong = .ok (n, e)) (hi : i ≤ l.length) : (n : Int) ≤ most ∧ i < e ∧ e ≤ l.length := by
 obtain ⟨r1, r2⟩ := ZfZ (p := Zdl) hi
 unfold numM at h
 split at h
 ·cases h
 ·split at h
  ·cases h
  ·split at h
   ·cases h
   ·cases h
    exact ⟨by omega, by omega, r2⟩
end
section
variable {W w : World} {R Hs : List HP} {b : Nat} {p : Option Addr} {buf : Sl} {bs sp : List Int}
end
section
variable {W w : World} {R Hs : List HP}
end
section
variable {W w : World} {Hs : List HP}
end
section
variable {W w : World} {Hs : List HP}
end
section
variable {W w : World} {Hs : List HP}
end
section
variable {W w : World} {Hs : List HP}
end
structure S6 where
 at_ : Nat
 gs : List Nat
 gap : Int
def S6.room (st : S6) : Int := if st.gap ≥ 0 then 7 - st.gs.length else 8 - st.gs.length
def hexN (l : List Int) : Nat := l.foldl (fun v c => v * 16 % 1048576 + (hexV c).toNat) 0
def ZkV : List Nat → List Nat
 | [a, b, c, d] => [256 * a + b, 256 * c + d]
 | _ => []
def Zd7 (l : List Int) (st : S6) : Except Flt (Bool × S6) :=
 if runE Ze7 l st.at_ = st.at_ then .error (Zhe l st.at_)
 else if runE Ze7 l st.at_ < l.length ∧ l.getD (runE Ze7 l st.at_) 0 = 46 ∧ (st.gs ≠ [] ∨ st.gap ≥ 0) then
  if st.room < 2 then .error (44, st.at_) else match Ze8 l st.at_ with
   | .error f => .error f
   | .ok a => .ok (true, ⟨st.at_, st.gs ++ ZkV a, st.gap⟩)
 else if st.room < 1 then .error (44, st.at_)
 else if runE Ze7 l st.at_ - st.at_ > 4 then .error (43, st.at_)
 else .ok (false, ⟨runE Ze7 l st.at_, st.gs ++ [hexN ((l.drop st.at_).take (runE Ze7 l st.at_ - st.at_))], st.gap⟩)
def ZeU (l : List Int) (i : Nat) : Prop := (l.drop i).take 2 = [58, 58]
instance (l : List Int) (i : Nat) : Decidable (ZeU l i) := inferInstanceAs (Decidable (_ = _))
def Zb8 (l : List Int) (st : S6) : Except Flt (Bool × S6) :=
 if ¬ ZeU l st.at_ then .ok (false, st)
 else if st.gap ≥ 0 ∨ st.gs.length = 8 then .error (44, st.at_)
 else .ok (true, ⟨st.at_ + 2, st.gs, st.gs.length⟩)
theorem Zib (s : ByteArray) (a b : Nat) : strI (s.extract a b) = ((strI s).drop a).take (b - a) := by
 unfold strI
 rw [ByteArray.data_extract, Array.toList_extract, List.extract_eq_take_drop, List.map_take, List.map_drop]
section
variable {W w : World} {Hs : List HP}
end
theorem ZhY {l : List Int} : ∀ (k i : Nat) (acc a : List Nat) (e : Nat), i ≤ l.length → (∀ n ∈ acc, n ≤ 255) → Zg4 l k i acc = .ok (a, e) → a.length = acc.length + k ∧ (∀ n ∈ a, n ≤ 255) ∧ i ≤ e ∧ e ≤ l.length
 | 0, i, acc, a, e, hi, hacc, h => by
  cases h
  exact ⟨rfl, hacc, Nat.le_refl _, hi⟩
 | k + 1, i, acc, a, e, hi, hacc, h => by
  unfold Zg4 at h
  cases hs : sepM l i acc.isEmpty with
  | error f => rw [hs] at h; cases h
  | ok j =>
   have hj : i ≤ j ∧ j ≤ l.length := by
    unfold sepM at hs
    split at hs
    ·cases hs; omega
    ·split at hs
     ·cases hs
     ·rename_i h2
      cases hs
      have : ¬ i = l.length := fun h' => h2 (.inl h')
      omega
   rw [hs] at h
   simp only at h
   cases hn : numM l j 255 43 with
   | error f => rw [hn] at h; cases h
   | ok x =>
    obtain ⟨n, e'⟩ := x
    rw [hn] at h
    simp only at h
    obtain ⟨o1, o2, o3⟩ := ZkY hn hj.2
    obtain ⟨p1, p2, p3, p4⟩ := ZhY k e' (acc ++ [n]) a e o3 (fun m hm => by
     rcases List.mem_append.1 hm with hm | hm
     ·exact hacc m hm
     ·rw [List.mem_singleton] at hm
      omega) h
    refine ⟨?_, p2, by omega, p4⟩
    rw [p1, List.length_append]
    simp only [List.length_cons, List.length_nil]
    omega
theorem ZfJ {l : List Int} {i : Nat} {a : List Nat} (hi : i ≤ l.length) (h : Ze8 l i = .ok a) : a.length = 4 ∧ ∀ n ∈ a, n ≤ 255 := by
 unfold Ze8 at h
 cases hf : Zg4 l 4 i [] with
 | error f => rw [hf] at h; cases h
 | ok x =>
  obtain ⟨b, e⟩ := x
  rw [hf] at h
  simp only at h
  split at h
  ·cases h
  ·cases h
   obtain ⟨p1, p2, _, _⟩ := ZhY 4 i [] _ _ hi (fun n hn => by cases hn) hf
   exact ⟨p1, p2⟩
theorem ZiC (l : List Int) (c : Int) : hexN (l ++ [c]) = hexN l * 16 % 1048576 + (hexV c).toNat := by
 unfold hexN
 rw [List.foldl_append]
 rfl
theorem Zla (c : Int) : -1 ≤ hexV c ∧ hexV c ≤ 15 := by
 unfold hexV
 split
 ·omega
 ·split
  ·omega
  ·split <;> omega
section
variable {W w : World} {Hs : List HP}
end
def Zfn (l : List Int) : Nat → Bool → S6 → Except Flt S6
 | 0, _, _ => .error (0, 0)
 | f + 1, op, st => if st.at_ = l.length ∧ op = true then .ok st else match Zd7 l st with
  | .error e => .error e
  | .ok (done, st1) => if done = true ∨ st1.at_ = l.length then (if st1.gap < 0 ∧ st1.gs.length ≠ 8 then .error (42, l.length) else .ok st1) else match Zb8 l st1 with
   | .error e => .error e
   | .ok (y, st2) => if y = true then Zfn l f true st2 else if l.getD st2.at_ 0 ≠ 58 then .error (41, st2.at_) else Zfn l f false ⟨st2.at_ + 1, st2.gs, st2.gap⟩
def ZfF (l : List Int) : Except Flt S6 := match Zb8 l ⟨0, [], -1⟩ with
 | .error e => .error e
 | .ok (_, st) => Zfn l (l.length + 1) (decide (st.gap ≥ 0)) st
structure Ok6 (l : List Int) (st : S6) : Prop where
 a : st.at_ ≤ l.length
 g : st.gs.length ≤ 8
 p1 : -1 ≤ st.gap
 p2 : st.gap ≤ st.gs.length
 p3 : 0 ≤ st.gap → st.gs.length ≤ 7
 v : ∀ x ∈ st.gs, x < 65536
theorem ZjL {l : List Int} (h : ∀ c ∈ l, Ze7 c = true) (k : Nat) (hk : l.length ≤ k) (h5 : k ≤ 4) : hexN l < 16 ^ k := by
 induction k generalizing l with
 | zero =>
  have : l = [] := List.eq_nil_of_length_eq_zero (by omega)
  subst this
  decide
 | succ k ih =>
  rcases List.eq_nil_or_concat l with rfl | ⟨l', c, rfl⟩
  ·exact Nat.pow_pos (by omega)
  ·rw [List.concat_eq_append] at h hk ⊢
   rw [ZiC, Nat.pow_succ]
   have h1 := ih (l := l') (fun c hc => h c (by simp [hc])) (by simp at hk; omega) (by omega)
   have h2 := Zla c
   have h3 : 16 ^ k ≤ 16 ^ 3 := Nat.pow_le_pow_right (by omega) (by omega)
   omega
theorem Zg0 {l : List Int} {st st1 : S6} {y : Bool} (ok : Ok6 l st) (h : Zd7 l st = .ok (y, st1)) : Ok6 l st1 ∧ st1.gap = st.gap ∧ (y = false → st.at_ < st1.at_) := by
 obtain ⟨r1, r2⟩ := ZfZ (p := Ze7) ok.a
 have hp := ok.p3
 unfold Zd7 at h
 split at h
 ·cases h
 ·rename_i hne
  split at h
  ·split at h
   ·cases h
   ·rename_i hroom
    have hlen : st.gs.length + 2 ≤ 8 ∧ (0 ≤ st.gap → st.gs.length + 2 ≤ 7) := by
     unfold S6.room at hroom
     split at hroom <;> omega
    cases hf : Ze8 l st.at_ with
    | error f => rw [hf] at h; cases h
    | ok a =>
     rw [hf] at h
     simp only [Except.ok.injEq, Prod.mk.injEq] at h
     obtain ⟨rfl, rfl⟩ := h
     obtain ⟨a4, a5⟩ := ZfJ ok.a hf
     obtain ⟨n1, n2, n3, n4, rfl⟩ : ∃ n1 n2 n3 n4, a = [n1, n2, n3, n4] := by
      match a, a4 with
      | [n1, n2, n3, n4], _ => exact ⟨n1, n2, n3, n4, rfl⟩
     have b1 := a5 n1 (by simp)
     have b2 := a5 n2 (by simp)
     have b3 := a5 n3 (by simp)
     have b4 := a5 n4 (by simp)
     refine ⟨⟨ok.a, by simp [ZkV]; omega, ok.p1, by simp [ZkV]; have := ok.p2; omega, fun h => by simp [ZkV]; have := hlen.2 h; omega, fun x hx => ?_⟩, rfl, fun h => by cases h⟩
     rcases List.mem_append.1 hx with hx | hx
     ·exact ok.v x hx
     ·simp only [ZkV, List.mem_cons, List.not_mem_nil, or_false] at hx
      omega
  ·split at h
   ·cases h
   ·rename_i hroom
    have hlen : st.gs.length + 1 ≤ 8 ∧ (0 ≤ st.gap → st.gs.length + 1 ≤ 7) := by
     unfold S6.room at hroom
     split at hroom <;> omega
    split at h
    ·cases h
    ·rename_i h4
     simp only [Except.ok.injEq, Prod.mk.injEq] at h
     obtain ⟨rfl, rfl⟩ := h
     refine ⟨⟨r2, by simp; omega, ok.p1, by simp; have := ok.p2; omega, fun h => by simp; have := hlen.2 h; omega, fun x hx => ?_⟩, rfl, fun _ => by simp only; omega⟩
     rcases List.mem_append.1 hx with hx | hx
     ·exact ok.v x hx
     ·rw [List.mem_singleton] at hx
      subst hx
      refine ZjL (k := 4) (fun c hc => ?_) (by rw [List.length_take]; omega) (by omega)
      obtain ⟨j, hj, rfl⟩ := List.mem_iff_getElem.1 hc
      rw [List.length_take, List.length_drop] at hj
      rw [List.getElem_take, List.getElem_drop]
      have := ZfB (p := Ze7) (l := l) (i := st.at_) (k := st.at_ + j) (by omega) (by omega)
      rw [List.getD, List.getElem?_eq_getElem (by omega)] at this
      exact this
theorem Zer {l : List Int} {st st1 : S6} {y : Bool} (ok : Ok6 l st) (h : Zb8 l st = .ok (y, st1)) : Ok6 l st1 ∧ (y = false → st1 = st) ∧ (y = true → st1.at_ = st.at_ + 2 ∧ 0 ≤ st1.gap) := by
 unfold Zb8 at h
 split at h
 ·simp only [Except.ok.injEq, Prod.mk.injEq] at h
  obtain ⟨rfl, rfl⟩ := h
  exact ⟨ok, fun _ => rfl, fun h => by cases h⟩
 ·rename_i hd
  split at h
  ·cases h
  ·rename_i hg
   simp only [Except.ok.injEq, Prod.mk.injEq] at h
   obtain ⟨rfl, rfl⟩ := h
   have hd := Decidable.not_not.1 hd
   unfold ZeU at hd
   have hlen := congrArg List.length hd
   rw [List.length_take, List.length_drop] at hlen
   simp only [List.length_cons, List.length_nil] at hlen
   have := ok.g
   refine ⟨⟨by simp only; omega, ok.g, by simp only; omega, by simp, fun _ => by simp only; omega, ok.v⟩, (fun h => by cases h), (fun _ => ⟨rfl, by simp⟩)⟩
section
variable {W w : World} {Hs : List HP}
end
def two (l : List Nat) : List Int := (l.map fun n => [((n / 256 : Nat) : Int), ((n % 256 : Nat) : Int)]).flatten
theorem ZhJ (n : Nat) (l : List Nat) : two (n :: l) = ((n / 256 : Nat) : Int) :: ((n % 256 : Nat) : Int) :: two l := rfl
theorem Zkx : ∀ l : List Nat, (two l).length = 2 * l.length
 | [] => rfl
 | n :: l => by rw [ZhJ, List.length_cons, List.length_cons, Zkx l, List.length_cons]; omega
theorem Zkw (v : Nat) : ∀ (l : List Nat) (j : Nat), ((two l).set (2 * j) ((v / 256 : Nat) : Int)).set (2 * j + 1) ((v % 256 : Nat) : Int) = two (l.set j v)
 | [], j => rfl
 | n :: l, 0 => rfl
 | n :: l, j + 1 => by
  rw [List.set_cons_succ, ZhJ, ZhJ, ← Zkw v l j]
  rfl
def S6.pos (st : S6) (i : Nat) : Nat := if st.gap ≥ 0 ∧ (i : Int) ≥ st.gap then i + (8 - st.gs.length) else i
def S6.words (st : S6) : Nat → List Nat
 | 0 => List.replicate 8 0
 | i + 1 => (st.words i).set (st.pos i) (st.gs.getD i 0)
theorem S6.words_len (st : S6) : ∀ i, (st.words i).length = 8
 | 0 => rfl
 | i + 1 => by rw [S6.words, List.length_set, st.words_len i]
theorem S6.bytes_len (st : S6) (i : Nat) : (two (st.words i)).length = 16 := by rw [Zkx, st.words_len]
def S6.bytes (st : S6) : Vec Int 16 := ⟨two (st.words st.gs.length), st.bytes_len _⟩
section
variable {W w : World} {Hs : List HP}
end
def Zdo (l : List Int) (q : Int) : Nat := runE (fun c => decide (c ≠ q)) l 0
theorem Zlf (l : List Int) (q : Int) : Zdo l q ≤ l.length := (ZfZ (Nat.zero_le _)).2
theorem Zle {l : List Int} {q : Int} {j : Nat} (h : j < Zdo l q) : l.getD j 0 ≠ q := of_decide_eq_true (ZfB (Nat.zero_le _) h)
theorem Zlg {l : List Int} {q : Int} (h : Zdo l q < l.length) : l.getD (Zdo l q) 0 = q := by
 have h1 := Zf0 (p := fun c => decide (c ≠ q)) (l := l) (i := 0) (k := Zdo l q) (Nat.zero_le _) (Nat.le_refl _)
 by_cases e : l.getD (Zdo l q) 0 = q
 ·exact e
 ·exact absurd (h1.1 ⟨h, decide_eq_true e⟩) (Nat.lt_irrefl _)
section
variable {W w : World} {Hs : List HP}
end
theorem ZhN {l : List Int} : ∀ (f : Nat) (op : Bool) (st r : S6), Ok6 l st → Zfn l f op st = .ok r → Ok6 l r
 | 0, _, _, _, _, h => by cases h
 | f + 1, op, st, r, ok, h => by
  unfold Zfn at h
  split at h
  ·cases h
   exact ok
  ·cases hg : Zd7 l st with
   | error e =>
    rw [hg] at h
    cases h
   | ok x =>
    obtain ⟨done, st1⟩ := x
    rw [hg] at h
    obtain ⟨k1, -, -⟩ := Zg0 ok hg
    simp only at h
    split at h
    ·split at h
     ·cases h
     ·cases h
      exact k1
    ·rename_i hn
     cases hd : Zb8 l st1 with
     | error e =>
      rw [hd] at h
      cases h
     | ok x =>
      obtain ⟨y, st2⟩ := x
      rw [hd] at h
      obtain ⟨m1, m2, m3⟩ := Zer k1 hd
      simp only at h
      split at h
      ·exact ZhN f true st2 r m1 h
      ·rename_i hy
       split at h
       ·cases h
       ·have e2 := m2 (by simpa using hy)
        have h3 := k1.a
        have h4 : st1.at_ ≠ l.length := fun h' => hn (.inr h')
        refine ZhN f false ⟨st2.at_ + 1, st2.gs, st2.gap⟩ r ⟨?_, m1.g, m1.p1, m1.p2, m1.p3, m1.v⟩ h
        show st2.at_ + 1 ≤ l.length
        rw [e2]
        omega
theorem ZlT {l : List Int} {r : S6} (h : ZfF l = .ok r) : Ok6 l r := by
 have ok0 : Ok6 l ⟨0, [], -1⟩ := ⟨by simp, by simp, by simp, by simp, fun h => by simp, fun x h => by cases h⟩
 unfold ZfF at h
 cases hd : Zb8 l ⟨0, [], -1⟩ with
 | error e =>
  rw [hd] at h
  cases h
 | ok x =>
  obtain ⟨y, st⟩ := x
  rw [hd] at h
  exact ZhN _ _ _ _ (Zer ok0 hd).1 h
def v4V (a : List Nat) : Vec Int 16 := ⟨((a.map fun n : Nat => (n : Int)) ++ List.replicate 16 0).take 16, by simp⟩
def Zfb (l : List Int) : Except Flt ZaH :=
 if l.length > 45 then .error (2, 45)
 else if Zdo l 58 < l.length then match ZfF l with
  | .error f => .error f
  | .ok st => .ok ⟨6, st.bytes⟩
 else match Ze8 l 0 with
  | .error f => .error f
  | .ok a => .ok ⟨4, v4V a⟩
theorem ZmI {l : List Nat} (h : ∀ x ∈ l, x < 65536) : Byt (two l) := by
 intro x hx
 unfold two at hx
 rw [List.mem_flatten] at hx
 obtain ⟨p, hp, hx⟩ := hx
 rw [List.mem_map] at hp
 obtain ⟨n, hn, rfl⟩ := hp
 have := h n hn
 simp only [List.mem_cons, List.not_mem_nil, or_false] at hx
 constructor <;> rcases hx with rfl | rfl <;> omega
theorem Zjs {st : S6} {l : List Int} (ok : Ok6 l st) : ∀ i, ∀ x ∈ st.words i, x < 65536
 | 0, x, hx => by
  have := List.eq_of_mem_replicate hx
  omega
 | i + 1, x, hx => by
  rcases List.mem_or_eq_of_mem_set hx with h | rfl
  ·exact Zjs ok i x h
  ·rw [List.getD]
   cases hy : st.gs[i]? with
   | none => simp
   | some y => exact ok.v y (List.mem_of_getElem? hy)
theorem Zj7 {l : List Int} {ip : ZaH} (h : Zfb l = .ok ip) : Byt ip.A.l := by
 unfold Zfb at h
 split at h
 ·cases h
 ·split at h
  ·cases hr : ZfF l with
   | error f =>
    rw [hr] at h
    cases h
   | ok st =>
    rw [hr] at h
    cases h
    exact ZmI (Zjs (ZlT hr) _)
  ·cases hr : Ze8 l 0 with
   | error f =>
    rw [hr] at h
    cases h
   | ok a =>
    rw [hr] at h
    cases h
    obtain ⟨h4, h5⟩ := ZfJ (Nat.zero_le _) hr
    intro x hx
    have hx := List.mem_of_mem_take hx
    rw [List.mem_append, List.mem_map] at hx
    rcases hx with ⟨n, hn, rfl⟩ | hx
    ·have := h5 n hn
     constructor <;> omega
    ·have := List.eq_of_mem_replicate hx
     omega
def ipM (l : List Int) : ZaH × Int × Int := match Zfb l with
 | .error f => (Zby, f.1, (f.2 : Int))
 | .ok ip => (ip, 0, 0)
def ZmP (l : List Int) : Except Flt Zar :=
 if l.length > 49 then .error (2, 49)
 else if Zdo l 47 < l.length then match Zfb (l.take (Zdo l 47)) with
  | .error f => .error f
  | .ok ip => match numM l (Zdo l 47 + 1) (Zbo ip) 45 with
   | .error f => .error f
   | .ok (n, e) => if e < l.length then .error (41, e) else if vpM ⟨ip, (n : Int)⟩ ≠ 0 then .error (46, 0) else .ok ⟨ip, (n : Int)⟩
 else .error (42, l.length)
def Zi6 (l : List Int) : Zar × Int × Int := match ZmP l with
 | .error f => (Zbg, f.1, (f.2 : Int))
 | .ok p => (p, 0, 0)
section
variable {W w : World} {Hs : List HP}
end
def Bad (l : List Int) (f : Flt) : Prop := f.1 ≠ 0 ∧ f.2 ≤ l.length
theorem ZgS {l : List Int} {i : Nat} (h : i ≤ l.length) : Bad l (Zhe l i) := by
 unfold Zhe
 split
 ·exact ⟨by simp, h⟩
 ·exact ⟨by simp, h⟩
theorem Zl0 {l : List Int} {i : Nat} {most wrong : Int} {f : Flt} (hi : i ≤ l.length) (hw : wrong ≠ 0) (h : numM l i most wrong = .error f) : Bad l f := by
 unfold numM at h
 split at h
 ·cases h
  exact ZgS hi
 ·split at h
  ·cases h
   exact ⟨hw, hi⟩
  ·split at h
   ·cases h
    exact ⟨hw, hi⟩
   ·cases h
theorem ZiE {l : List Int} : ∀ (k i : Nat) (acc : List Nat) (f : Flt), i ≤ l.length → Zg4 l k i acc = .error f → Bad l f
 | 0, _, _, _, _, h => by cases h
 | k + 1, i, acc, f, hi, h => by
  unfold Zg4 at h
  have hs : ∀ {x : Bool} {g : Flt}, sepM l i x = .error g → Bad l g := by
   intro x g h
   unfold sepM at h
   split at h
   ·cases h
   ·split at h
    ·cases h
     exact ZgS hi
    ·cases h
  have hs2 : ∀ {x : Bool} {j : Nat}, sepM l i x = .ok j → j ≤ l.length := by
   intro x j h
   unfold sepM at h
   split at h
   ·cases h
    exact hi
   ·split at h
    ·cases h
    ·cases h
     omega
  cases hj : sepM l i acc.isEmpty with
  | error g =>
   rw [hj] at h
   cases h
   exact hs hj
  | ok j =>
   rw [hj] at h
   simp only at h
   cases hn : numM l j 255 43 with
   | error g =>
    rw [hn] at h
    cases h
    exact Zl0 (hs2 hj) (by decide) hn
   | ok x =>
    rw [hn] at h
    exact ZiE k x.2 _ f (ZkY hn (hs2 hj)).2.2 h
theorem ZfK {l : List Int} {i : Nat} {f : Flt} (hi : i ≤ l.length) (h : Ze8 l i = .error f) : Bad l f := by
 unfold Ze8 at h
 cases hf : Zg4 l 4 i [] with
 | error g =>
  rw [hf] at h
  cases h
  exact ZiE _ _ _ _ hi hf
 | ok x =>
  rw [hf] at h
  simp only at h
  split at h
  ·cases h
   exact ⟨by simp, (ZhY _ _ _ _ _ hi (by simp) hf).2.2.2⟩
  ·cases h
theorem Zhv {l : List Int} {st : S6} {f : Flt} (hi : st.at_ ≤ l.length) (h : Zd7 l st = .error f) : Bad l f := by
 unfold Zd7 at h
 split at h
 ·cases h
  exact ZgS hi
 ·split at h
  ·split at h
   ·cases h
    exact ⟨by simp, hi⟩
   ·cases hf : Ze8 l st.at_ with
    | error g =>
     rw [hf] at h
     cases h
     exact ZfK hi hf
    | ok x =>
     rw [hf] at h
     cases h
  ·split at h
   ·cases h
    exact ⟨by simp, hi⟩
   ·split at h
    ·cases h
     exact ⟨by simp, hi⟩
    ·cases h
theorem Zfq {l : List Int} {st : S6} {f : Flt} (hi : st.at_ ≤ l.length) (h : Zb8 l st = .error f) : Bad l f := by
 unfold Zb8 at h
 split at h
 ·cases h
 ·split at h
  ·cases h
   exact ⟨by simp, hi⟩
  ·cases h
theorem ZgF {l : List Int} {f : Flt} : ∀ (n : Nat) (op : Bool) (st : S6), Ok6 l st → l.length + 1 ≤ n + st.at_ → Zfn l n op st = .error f → Bad l f
 | 0, _, _, ok, hn, h => by
  have := ok.a
  omega
 | n + 1, op, st, ok, hn, h => by
  unfold Zfn at h
  split at h
  ·cases h
  ·cases hg : Zd7 l st with
   | error e =>
    rw [hg] at h
    cases h
    exact Zhv ok.a hg
   | ok x =>
    obtain ⟨done, st1⟩ := x
    rw [hg] at h
    obtain ⟨k1, -, k2⟩ := Zg0 ok hg
    simp only at h
    split at h
    ·split at h
     ·cases h
      exact ⟨by simp, Nat.le_refl _⟩
     ·cases h
    ·rename_i hn'
     have k3 := k2 (by cases done <;> simp_all)
     cases hd : Zb8 l st1 with
     | error e =>
      rw [hd] at h
      cases h
      exact Zfq k1.a hd
     | ok x =>
      obtain ⟨y, st2⟩ := x
      rw [hd] at h
      obtain ⟨m1, m2, m3⟩ := Zer k1 hd
      simp only at h
      split at h
      ·rename_i hy
       have := (m3 hy).1
       exact ZgF n true st2 m1 (by omega) h
      ·rename_i hy
       have e2 := m2 (by simpa using hy)
       subst e2
       split at h
       ·cases h
        exact ⟨by simp, m1.a⟩
       ·have h3 := k1.a
        have h4 : st2.at_ ≠ l.length := fun h' => hn' (.inr h')
        exact ZgF n false ⟨st2.at_ + 1, st2.gs, st2.gap⟩ ⟨by show st2.at_ + 1 ≤ l.length; omega, m1.g, m1.p1, m1.p2, m1.p3, m1.v⟩ (by show l.length + 1 ≤ n + (st2.at_ + 1); omega) h
theorem Zig {l : List Int} {f : Flt} (h : ZfF l = .error f) : Bad l f := by
 have ok0 : Ok6 l ⟨0, [], -1⟩ := ⟨by simp, by simp, by simp, by simp, fun h => by simp, fun x h => by cases h⟩
 unfold ZfF at h
 cases hd : Zb8 l ⟨0, [], -1⟩ with
 | error e =>
  rw [hd] at h
  cases h
  exact Zfq (Nat.zero_le _) hd
 | ok x =>
  obtain ⟨y, st⟩ := x
  rw [hd] at h
  exact ZgF _ _ _ (Zer ok0 hd).1 (by omega) h
theorem Zj8 {l : List Int} {f : Flt} (h : Zfb l = .error f) : Bad l f := by
 unfold Zfb at h
 split at h
 ·cases h
  exact ⟨by simp, by omega⟩
 ·split at h
  ·cases hr : ZfF l with
   | error g =>
    rw [hr] at h
    cases h
    exact Zig hr
   | ok st =>
    rw [hr] at h
    cases h
  ·cases hr : Ze8 l 0 with
   | error g =>
    rw [hr] at h
    cases h
    exact ZfK (Nat.zero_le _) hr
   | ok a =>
    rw [hr] at h
    cases h
theorem Zi8 {l : List Int} {ip : ZaH} (h : Zfb l = .ok ip) : Zbo ip > 0 := by
 unfold Zfb at h
 split at h
 ·cases h
 ·split at h
  ·cases hr : ZfF l with
   | error g =>
    rw [hr] at h
    cases h
   | ok st =>
    rw [hr] at h
    cases h
    exact (show (0 : Int) < 128 by decide)
  ·cases hr : Ze8 l 0 with
   | error g =>
    rw [hr] at h
    cases h
   | ok a =>
    rw [hr] at h
    cases h
    obtain ⟨h4, h5⟩ := ZfJ (Nat.zero_le _) hr
    unfold Zbo
    have e : (v4V a).l.drop 4 = List.replicate 12 0 := by
     match a, h4 with
     | [a, b, c, d], _ => rfl
    rw [if_neg (show ¬ (4 : Int) = 6 by decide), if_pos ⟨rfl, e⟩]
    decide
end Go.Proofs.YtfgcobigollfjaaDoor.Lx
