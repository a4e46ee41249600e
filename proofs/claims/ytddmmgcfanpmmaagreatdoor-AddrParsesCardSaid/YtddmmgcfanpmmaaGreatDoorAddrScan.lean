/- The reading of addresses: the model (texts as lists of bytes, places in them), and digits, numbers, addresses of version 4 (package addr) of their programs in the M-world. -/
import Derived.Test.YtddmmgcfanpmmaaGreatDoorAddrNum
set_option linter.unusedVariables false
set_option linter.unusedSimpArgs false
namespace Go.Proofs.YtddmmgcfanpmmaaGreatDoor.Lx
open Go Go.Proofs Go.RowKit
def isDig (c : Int) : Bool := decide (48 ≤ c ∧ c ≤ 57)
def hexV (c : Int) : Int := if 48 ≤ c ∧ c ≤ 57 then c - 48 else if 97 ≤ c ∧ c ≤ 102 then c - 87 else if 65 ≤ c ∧ c ≤ 70 then c - 55 else -1
def isHex (c : Int) : Bool := decide (hexV c ≥ 0)
def runE (p : Int → Bool) (l : List Int) (i : Nat) : Nat := i + ((l.drop i).takeWhile p).length
abbrev Flt := Int × Nat
def missM (l : List Int) (i : Nat) : Flt := if i = l.length then (42, i) else (41, i)
def valD (l : List Int) : Nat := l.foldl (fun n c => 10 * n + (c - 48).toNat) 0
def numM (l : List Int) (i : Nat) (most wrong : Int) : Except Flt (Nat × Nat) :=
  if runE isDig l i = i then .error (missM l i)
  else if runE isDig l i - i > 3 ∨ (runE isDig l i - i > 1 ∧ l.getD i 0 = 48) then .error (wrong, i)
  else if (valD ((l.drop i).take (runE isDig l i - i)) : Int) > most then .error (wrong, i)
  else .ok (valD ((l.drop i).take (runE isDig l i - i)), runE isDig l i)
def sepM (l : List Int) (i : Nat) (first : Bool) : Except Flt Nat := if first = true then .ok i else if i = l.length ∨ l.getD i 0 ≠ 46 then .error (missM l i) else .ok (i + 1)
def fourF (l : List Int) : Nat → Nat → List Nat → Except Flt (List Nat × Nat)
  | 0, i, acc => .ok (acc, i)
  | k + 1, i, acc => match sepM l i acc.isEmpty with
    | .error f => .error f
    | .ok j => match numM l j 255 43 with
      | .error f => .error f
      | .ok (n, e) => fourF l k e (acc ++ [n])
def fourM (l : List Int) (i : Nat) : Except Flt (List Nat) := match fourF l 4 i [] with
  | .error f => .error f
  | .ok (a, e) => if e < l.length then .error (41, e) else .ok a
theorem sb_get {s : ByteArray} {i : Nat} : sb s (i : Int) = (strI s).getD i 0 := by
  unfold sb strI
  rw [Int.toNat_natCast, List.getD, List.getD, List.getElem?_map]
  cases s.data.toList[i]? <;> rfl
theorem runE_le {p : Int → Bool} {l : List Int} {i : Nat} (h : i ≤ l.length) : i ≤ runE p l i ∧ runE p l i ≤ l.length := by
  unfold runE
  have := (List.takeWhile_sublist p (l := l.drop i)).length_le
  rw [List.length_drop] at this
  omega
theorem runE_go {p : Int → Bool} {l : List Int} {i k : Nat} (h1 : i ≤ k) (h2 : k ≤ runE p l i) : (k < l.length ∧ p (l.getD k 0) = true) ↔ k < runE p l i := by
  have hd : ∀ (l : List Int) (n : Nat), n ≤ (l.takeWhile p).length → ((n < l.length ∧ p (l.getD n 0) = true) ↔ n < (l.takeWhile p).length) := by
    intro l
    induction l with
    | nil => intro n hn; simp
    | cons x l ih =>
      intro n hn
      by_cases hx : p x = true
      · simp only [List.takeWhile_cons, hx, if_true, List.length_cons] at hn ⊢
        cases n with
        | zero => simp [hx]
        | succ n =>
          have := ih n (by omega)
          simp only [List.getD_cons_succ]
          constructor
          · rintro ⟨a, b⟩
            have := this.1 ⟨by omega, b⟩
            omega
          · intro h
            have := this.2 (by omega)
            exact ⟨by omega, this.2⟩
      · simp only [List.takeWhile_cons, hx, Bool.false_eq_true, if_false, List.length_nil] at hn ⊢
        have : n = 0 := by omega
        subst this
        simp [hx]
  unfold runE at h2 ⊢
  have := hd (l.drop i) (k - i) (by omega)
  have e : (l.drop i).getD (k - i) 0 = l.getD k 0 := by
    rw [List.getD, List.getD, List.getElem?_drop, show i + (k - i) = k by omega]
  rw [e, List.length_drop] at this
  constructor
  · intro h
    have := this.1 ⟨by omega, h.2⟩
    omega
  · intro h
    have := this.2 (by omega)
    exact ⟨by omega, this.2⟩
theorem runE_all {p : Int → Bool} {l : List Int} {i k : Nat} (h1 : i ≤ k) (h2 : k < runE p l i) : p (l.getD k 0) = true := ((runE_go h1 (by omega)).2 h2).2
section
variable {W w : World} {Hs : List HP}
abbrev flt (f : Flt) : List Value := c_addr_fault.enc ⟨f.1, (f.2 : Int)⟩
theorem digit_wp (c : Int) : WP (addr_digit c) w (fun r w' => r = isDig c ∧ w = w') := by
  unfold addr_digit
  refine WP.step (R := fun r w' => r = isDig c ∧ w = w') (WP.ite (fun h => WP.ret ⟨?_, rfl⟩) (fun h => WP.ret ⟨?_, rfl⟩)) (fun r w h => WP.ret h)
  · unfold isDig
    exact decide_eq_decide.2 ⟨fun h' => ⟨h, h'⟩, fun h' => h'.2⟩
  · unfold isDig
    exact (decide_eq_false fun h' => h h'.1).symm
theorem hexa_wp (c : Int) : WP (addr_hexa c) w (fun r w' => r = hexV c ∧ w = w') := by
  unfold addr_hexa
  refine WP.step (digit_wp c) ?_
  rintro _ _ ⟨rfl, rfl⟩
  unfold isDig hexV
  refine WP.ite (fun h => WP.ret ⟨?_, rfl⟩) (fun h => ?_)
  · have h := of_decide_eq_true h
    rw [if_pos h, wrap_u8 (by omega) (by omega), wrap_i64 (by omega) (by omega)]
  have h1 : ¬ (48 ≤ c ∧ c ≤ 57) := fun h' => h (decide_eq_true h')
  rw [if_neg h1]
  refine WP.step (R := fun y w' => y = decide (97 ≤ c ∧ c ≤ 102) ∧ w = w') (WP.ite (fun h => WP.ret ⟨decide_eq_decide.2 ⟨fun h' => ⟨h, h'⟩, fun h' => h'.2⟩, rfl⟩) (fun h => WP.ret ⟨(decide_eq_false fun h' => h h'.1).symm, rfl⟩)) ?_
  rintro _ _ ⟨rfl, rfl⟩
  refine WP.ite (fun h => WP.ret ⟨?_, rfl⟩) (fun h => ?_)
  · have h := of_decide_eq_true h
    rw [if_pos h, wrap_u8 (by omega) (by omega), wrap_i64 (n := c - 97) (by omega) (by omega), wrap_i64 (by omega) (by omega)]
    omega
  have h2 : ¬ (97 ≤ c ∧ c ≤ 102) := fun h' => h (decide_eq_true h')
  rw [if_neg h2]
  refine WP.step (R := fun y w' => y = decide (65 ≤ c ∧ c ≤ 70) ∧ w = w') (WP.ite (fun h => WP.ret ⟨decide_eq_decide.2 ⟨fun h' => ⟨h, h'⟩, fun h' => h'.2⟩, rfl⟩) (fun h => WP.ret ⟨(decide_eq_false fun h' => h h'.1).symm, rfl⟩)) ?_
  rintro _ _ ⟨rfl, rfl⟩
  refine WP.ite (fun h => WP.ret ⟨?_, rfl⟩) (fun h => WP.ret ⟨?_, rfl⟩)
  · have h := of_decide_eq_true h
    rw [if_pos h, wrap_u8 (by omega) (by omega), wrap_i64 (n := c - 65) (by omega) (by omega), wrap_i64 (by omega) (by omega)]
    omega
  · rw [if_neg fun h' => h (decide_eq_true h')]
theorem missing_wp (s : Ss W Hs w) (t : ByteArray) (i : Nat) : WP (addr_missing t (i : Int)) w (fun r w' => ∃ b, r = some (pt b 0) ∧ Ss W (pts true (pt b 0) (flt (missM (strI t) i)) :: Hs) w') := by
  unfold addr_missing missM
  rw [strI_len]
  refine WP.ite (fun h => WP.newv s (fun b w s => WP.ret ⟨b, rfl, ?_⟩)) (fun h => WP.newv s (fun b w s => WP.ret ⟨b, rfl, ?_⟩))
  · rw [if_pos (by omega)]
    exact s
  · rw [if_neg (by omega)]
    exact s
theorem valD_snoc (l : List Int) (c : Int) : valD (l ++ [c]) = 10 * valD l + (c - 48).toNat := by
  unfold valD
  rw [List.foldl_append]
  rfl
theorem valD_lt : ∀ (k : Nat) (l : List Int), l.length ≤ k → (∀ c ∈ l, isDig c = true) → valD l < 10 ^ k := by
  intro k
  induction k with
  | zero =>
    intro l hl _
    have : l = [] := List.eq_nil_of_length_eq_zero (by omega)
    subst this
    decide
  | succ k ih =>
    intro l hl hd
    rcases List.eq_nil_or_concat l with rfl | ⟨l', c, rfl⟩
    · exact Nat.pow_pos (by omega)
    · rw [List.concat_eq_append] at hl hd ⊢
      rw [valD_snoc, Nat.pow_succ]
      have h1 := ih l' (by simp at hl; omega) (fun c hc => hd c (by simp [hc]))
      have h2 := hd c (by simp)
      unfold isDig at h2
      have h2 := of_decide_eq_true h2
      omega
def NumA (W : World) (Hs : List HP) (x : Except Flt (Nat × Nat)) (r : Int × Int × Option Addr) (w : World) : Prop :=
  match x with
  | .ok (n, e) => r = ((n : Int), (e : Int), none) ∧ Ss W Hs w
  | .error f => ∃ b, r = (0, 0, some (pt b 0)) ∧ Ss W (pts true (pt b 0) (flt f) :: Hs) w
theorem number_wp (s : Ss W Hs w) (t : ByteArray) (ht : t.size ≤ 1000) (i : Nat) (hi : i ≤ t.size) (most wrong : Int) : WP (addr_number t (i : Int) most wrong) w (NumA W Hs (numM (strI t) i most wrong)) := by
  unfold addr_number
  have hl := strI_len t
  obtain ⟨r1, r2⟩ := runE_le (p := isDig) (l := strI t) (i := i) (by omega)
  refine WP.loopG (γ := Nat) (fun k (p : Int) w => p = (k : Int) ∧ i ≤ k ∧ k ≤ runE isDig (strI t) i ∧ Ss W Hs w) (fun k _ => t.size - k) i ⟨rfl, Nat.le_refl _, r1, s⟩ ?_
  clear s
  rintro k _ w ⟨rfl, k1, k2, s⟩
  show WP (addr_number.L2 t (i : Int) most wrong (k : Int)) w _
  unfold addr_number.L2
  have hgo := runE_go k1 k2
  rw [hl] at hgo
  refine WP.step (R := fun y w' => y = decide (k < runE isDig (strI t) i) ∧ w = w') (WP.ite (fun h => WP.chk ⟨by omega, by omega⟩ (WP.step (digit_wp _) ?_)) (fun h => WP.ret ⟨?_, rfl⟩)) ?_
  · rintro _ _ ⟨rfl, rfl⟩
    refine WP.ret ⟨?_, rfl⟩
    rw [sb_get, Bool.eq_iff_iff, decide_eq_true_iff, ← hgo]
    exact ⟨fun h' => ⟨by omega, h'⟩, fun h' => h'.2⟩
  · refine (decide_eq_false fun h' => ?_).symm
    have := hgo.2 h'
    omega
  rintro _ _ ⟨rfl, rfl⟩
  refine WP.ite (fun h => WP.next ⟨k + 1, ⟨?_, by omega, by have := of_decide_eq_true h; omega, s⟩, by have := of_decide_eq_true h; omega⟩) (fun h => ?_)
  · rw [wrap_i64 (by omega) (by omega)]
    simp
  have hk : k = runE isDig (strI t) i := by
    have : ¬ k < runE isDig (strI t) i := fun h' => h (decide_eq_true h')
    omega
  refine WP.step ?_ (fun r w h => WP.done h)
  unfold addr_number.K1 numM
  rw [← hk]
  refine WP.ite (fun h => ?_) (fun h => ?_)
  · rw [if_pos (by omega)]
    refine WP.step (missing_wp s t i) ?_
    rintro _ w ⟨b, rfl, s⟩
    exact WP.ret ⟨b, rfl, s⟩
  have hne : ¬ k = i := by omega
  rw [if_neg hne]
  have ew : IntKind.wrap .i64 ((k : Int) - (i : Int)) = ((k - i : Nat) : Int) := by
    rw [wrap_i64 (by omega) (by omega)]
    omega
  rw [ew]
  refine WP.step (R := fun y w' => y = decide (k - i > 3 ∨ (k - i > 1 ∧ (strI t).getD i 0 = 48)) ∧ w = w') (WP.ite (fun h => WP.ret ⟨?_, rfl⟩) (fun h => ?_)) ?_
  · exact (decide_eq_true (.inl (by omega))).symm
  · refine WP.step (R := fun y w' => y = decide (k - i > 3 ∨ (k - i > 1 ∧ (strI t).getD i 0 = 48)) ∧ w = w') (WP.ite (fun h1 => WP.chk ⟨by omega, by omega⟩ (WP.ret ⟨?_, rfl⟩)) (fun h1 => WP.ret ⟨?_, rfl⟩)) (fun r w h => WP.ret h)
    · rw [sb_get, Bool.eq_iff_iff, decide_eq_true_iff, beq_iff_eq]
      exact ⟨fun h' => .inr ⟨by omega, h'⟩, fun h' => h'.resolve_left (by omega) |>.2⟩
    · exact (decide_eq_false fun h' => by omega).symm
  rintro _ _ ⟨rfl, rfl⟩
  refine WP.ite (fun h => ?_) (fun h => ?_)
  · rw [if_pos (of_decide_eq_true h)]
    exact WP.newv s (fun b w s => WP.ret ⟨b, rfl, s⟩)
  have h3 : ¬ (k - i > 3 ∨ (k - i > 1 ∧ (strI t).getD i 0 = 48)) := fun h' => h (decide_eq_true h')
  rw [if_neg h3]
  have hdig : ∀ n, ∀ c ∈ ((strI t).drop i).take n, n ≤ k - i → isDig c = true := by
    intro n c hc hn
    obtain ⟨j, hj, rfl⟩ := List.mem_iff_getElem.1 hc
    rw [List.length_take, List.length_drop] at hj
    rw [List.getElem_take, List.getElem_drop]
    have := runE_all (p := isDig) (l := strI t) (i := i) (k := i + j) (by omega) (by omega)
    rw [List.getD, List.getElem?_eq_getElem (by omega)] at this
    exact this
  refine WP.loopG (γ := Nat) (fun j (p : Int × Int) w => p = ((valD (((strI t).drop i).take (j - i)) : Int), (j : Int)) ∧ i ≤ j ∧ j ≤ k ∧ Ss W Hs w) (fun j _ => k - j) i ⟨by simp [valD], Nat.le_refl _, k1, s⟩ ?_
  clear s
  rintro j _ w ⟨rfl, j1, j2, s⟩
  show WP (addr_number.L1 t (i : Int) most wrong (k : Int) (valD (((strI t).drop i).take (j - i)) : Int) (j : Int)) w _
  unfold addr_number.L1
  have hlt := valD_lt 3 (((strI t).drop i).take (j - i)) (by rw [List.length_take]; omega) (fun c hc => hdig (j - i) c hc (by omega))
  refine WP.ite (fun h => WP.chk ⟨by omega, by omega⟩ (WP.next ⟨j + 1, ⟨?_, by omega, by omega, s⟩, by omega⟩)) (fun h => ?_)
  · have hd := runE_all (p := isDig) (l := strI t) (i := i) (k := j) j1 (by omega)
    have htk : ((strI t).drop i).take (j + 1 - i) = ((strI t).drop i).take (j - i) ++ [(strI t).getD j 0] := by
      rw [show j + 1 - i = (j - i) + 1 by omega, List.take_add_one, List.getElem?_drop, show i + (j - i) = j by omega, List.getD, List.getElem?_eq_getElem (by omega)]
      rfl
    rw [sb_get, htk, valD_snoc]
    unfold isDig at hd
    have hd := of_decide_eq_true hd
    generalize (strI t).getD j 0 = c at hd
    rw [wrap_u8 (by omega) (by omega), wrap_i64 (n := c - 48) (by omega) (by omega), wrap_i64 (n := 10 * _) (by omega) (by omega), wrap_i64 (n := 10 * _ + _) (by omega) (by omega), wrap_i64 (n := (j : Int) + 1) (by omega) (by omega)]
    refine Prod.ext ?_ ?_
    · simp only
      omega
    · simp
  · have hj : j = k := by omega
    subst hj
    refine WP.ite (fun h => ?_) (fun h => ?_)
    · rw [if_pos h]
      exact WP.newv s (fun b w s => WP.done ⟨b, rfl, s⟩)
    · rw [if_neg h]
      exact WP.done ⟨rfl, s⟩
theorem numM_ok {l : List Int} {i n e : Nat} {most wrong : Int} (h : numM l i most wrong = .ok (n, e)) (hi : i ≤ l.length) : (n : Int) ≤ most ∧ i < e ∧ e ≤ l.length := by
  obtain ⟨r1, r2⟩ := runE_le (p := isDig) hi
  unfold numM at h
  split at h
  · cases h
  · split at h
    · cases h
    · split at h
      · cases h
      · cases h
        exact ⟨by omega, by omega, r2⟩
def FourA (W : World) (Hs : List HP) (x : Except Flt (List Nat)) (r : Vec Int 4 × Option Addr) (w : World) : Prop :=
  match x with
  | .ok a => r.1.l = a.map (fun n : Nat => (n : Int)) ∧ r.2 = none ∧ Ss W Hs w
  | .error f => ∃ b, r.2 = some (pt b 0) ∧ Ss W (pts true (pt b 0) (flt f) :: Hs) w
theorem four_wp (s : Ss W Hs w) (t : ByteArray) (ht : t.size ≤ 1000) (i : Nat) (hi : i ≤ t.size) : WP (addr_four t (i : Int)) w (FourA W Hs (fourM (strI t) i)) := by
  unfold addr_four
  have hl := strI_len t
  refine WP.slot' s (fun _ w s => WP.slot' s (fun _ w s => ?_))
  refine WP.loopG (γ := Nat × Nat × List Nat) (fun g (p : Int × Int × Vec Int 4 × Vec Int 4) w => p.1 = (g.2.1 : Int) ∧ p.2.1 = (g.2.2.length : Int) ∧ g.1 + g.2.2.length = 4 ∧ g.2.1 ≤ t.size ∧ p.2.2.1.l = g.2.2.map (fun n : Nat => (n : Int)) ++ List.replicate g.1 0 ∧ (∀ n ∈ g.2.2, n ≤ 255) ∧ fourF (strI t) g.1 g.2.1 g.2.2 = fourF (strI t) 4 i [] ∧ Ss W Hs w) (fun g _ => g.1) (4, i, []) ⟨rfl, rfl, rfl, hi, rfl, by simp, rfl, s⟩ ?_
  clear s
  rintro ⟨k, j, acc⟩ ⟨_, _, v, v2⟩ w ⟨rfl, rfl, hk, hj, hv, hn, hF, s⟩
  simp only at hk hj hv hn hF s
  show WP (addr_four.L1 t (j : Int) (acc.length : Int) v v2) w _
  unfold addr_four.L1
  cases k with
  | zero =>
    refine WP.ite (fun h => absurd h (by omega)) (fun _ => ?_)
    refine WP.step ?_ (fun r w h => WP.done h)
    unfold addr_four.K1
    have e1 : fourM (strI t) i = if j < (strI t).length then .error (41, j) else .ok acc := by
      unfold fourM
      rw [← hF]
      rfl
    rw [e1, hl]
    refine WP.ite (fun h => ?_) (fun h => ?_)
    · rw [if_pos (by omega)]
      exact WP.newv s (fun b w s => WP.ret ⟨b, rfl, s⟩)
    · rw [if_neg (by omega)]
      exact WP.ret ⟨by simpa using hv, rfl, s⟩
  | succ k =>
    have hfin : ∀ {f : Flt} {b : Nat} {w : World} {v : Vec Int 4}, fourF (strI t) (k + 1) j acc = .error f → Ss W (pts true (pt b 0) (flt f) :: Hs) w → FourA W Hs (fourM (strI t) i) (v, some (pt b 0)) w := by
      intro f b w v hf s
      rw [hF] at hf
      unfold fourM FourA
      rw [hf]
      exact ⟨b, rfl, s⟩
    have K2 : ∀ {w : World} (j' : Nat), j' ≤ t.size → sepM (strI t) j acc.isEmpty = .ok j' → Ss W Hs w → WP (addr_four.K2 t (acc.length : Int) v v2 (j' : Int)) w (WP.Rd (fun p w => ∃ g : Nat × Nat × List Nat, (p.1 = (g.2.1 : Int) ∧ p.2.1 = (g.2.2.length : Int) ∧ g.1 + g.2.2.length = 4 ∧ g.2.1 ≤ t.size ∧ p.2.2.1.l = g.2.2.map (fun n : Nat => (n : Int)) ++ List.replicate g.1 0 ∧ (∀ n ∈ g.2.2, n ≤ 255) ∧ fourF (strI t) g.1 g.2.1 g.2.2 = fourF (strI t) 4 i [] ∧ Ss W Hs w) ∧ g.1 < k + 1) (FourA W Hs (fourM (strI t) i))) := by
      intro w j' hj' hsep s
      unfold addr_four.K2
      refine WP.step (number_wp s t ht j' hj' 255 43) ?_
      intro r w hr
      cases hnum : numM (strI t) j' 255 43 with
      | error f =>
        rw [hnum] at hr
        obtain ⟨b, rfl, s⟩ := hr
        refine WP.ite (fun _ => WP.done ?_) (fun h => absurd (by simp) h)
        refine hfin ?_ s
        unfold fourF
        rw [hsep]
        simp only [hnum]
      | ok x =>
        obtain ⟨n, e⟩ := x
        rw [hnum] at hr
        obtain ⟨rfl, s⟩ := hr
        obtain ⟨o1, o2, o3⟩ := numM_ok hnum (by omega)
        refine WP.ite (fun h => absurd rfl h) (fun _ => WP.chk ⟨by omega, by omega⟩ (WP.next ⟨(k, e, acc ++ [n]), ⟨rfl, ?_, ?_, by simp only; omega, ?_, ?_, ?_, s⟩, by simp only; omega⟩))
        · simp only
          rw [wrap_i64 (by omega) (by omega)]
          simp
        · simp only [List.length_append, List.length_cons, List.length_nil]
          omega
        · simp only
          rw [wrap_u8 (by omega) (by omega)]
          show v.l.set (Int.toNat (acc.length : Int)) (n : Int) = _
          rw [Int.toNat_natCast, hv, List.set_append_right _ _ (by rw [List.length_map]; exact Nat.le_refl _), List.length_map, Nat.sub_self, List.replicate_succ, List.set_cons_zero]
          simp
        · intro x hx
          rcases List.mem_append.1 hx with hx | hx
          · exact hn x hx
          · rw [List.mem_singleton] at hx
            omega
        · simp only
          rw [← hF]
          conv => rhs; unfold fourF
          rw [hsep]
          simp only [hnum]
    refine WP.ite (fun _ => ?_) (fun h => absurd (by omega) h)
    refine WP.ite (fun h0 => ?_) (fun h0 => ?_)
    · have he : acc.isEmpty = false := by
        cases acc with
        | nil => simp at h0
        | cons x r => rfl
      refine WP.step (R := fun y w' => y = decide (j = (strI t).length ∨ (strI t).getD j 0 ≠ 46) ∧ w = w') (WP.ite (fun h => WP.ret ⟨(decide_eq_true (.inl (by omega))).symm, rfl⟩) (fun h => WP.chk ⟨by omega, by omega⟩ (WP.ret ⟨?_, rfl⟩))) ?_
      · rw [sb_get, Bool.eq_iff_iff, decide_eq_true_iff, bne_iff_ne]
        exact ⟨fun h' => .inr h', fun h' => h'.resolve_left (by omega)⟩
      rintro _ _ ⟨rfl, rfl⟩
      refine WP.ite (fun h => WP.draw' s (fun w s => WP.step (missing_wp s t j) ?_)) (fun h => ?_)
      · rintro _ w ⟨b, rfl, s⟩
        refine WP.done (hfin ?_ s)
        unfold fourF sepM
        rw [he, if_neg (by simp), if_pos (of_decide_eq_true h)]
      · have hc : ¬ (j = (strI t).length ∨ (strI t).getD j 0 ≠ 46) := fun h' => h (decide_eq_true h')
        have ew : IntKind.wrap .i64 ((j : Int) + 1) = ((j + 1 : Nat) : Int) := by
          rw [wrap_i64 (by omega) (by omega)]
          simp
        rw [ew]
        refine K2 (j + 1) (by omega) ?_ s
        unfold sepM
        rw [he, if_neg (by simp), if_neg hc]
    · have he : acc.isEmpty = true := by
        cases acc with
        | nil => rfl
        | cons x r => simp at h0
      refine K2 j hj ?_ s
      unfold sepM
      rw [he, if_pos rfl]
end
end Go.Proofs.YtddmmgcfanpmmaaGreatDoor.Lx
