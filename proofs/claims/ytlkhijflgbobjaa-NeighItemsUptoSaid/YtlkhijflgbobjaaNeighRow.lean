/- The caller's book of neighbours: rows in their order; where one stands; a new one in its place. -/
import Derived.Test.YtlkhijflgbobjaaNeighOut
import Derived.Test.YtlkhijflgbobjaaNeighLess2
set_option linter.unusedVariables false
set_option linter.unusedSimpArgs false
namespace Go.Proofs.Ytlkhijflgbobjaa.Lx
open Go Go.Proofs Go.RowKit
abbrev cRow := c_weirlaw15_Row
def rkey (r : weirlaw15_Row) : neigh_key := ⟨r.Port, r.IP⟩
def rfind (l : List weirlaw15_Row) (k : neigh_key) : Option Nat := l.findIdx? (fun r => decide (rkey r = k))
def rAt (l : List weirlaw15_Row) (k : neigh_key) : Nat := (l.takeWhile (fun r => klt (rkey r) k)).length
def rnew (k : neigh_key) : weirlaw15_Row := ⟨k.port, k.ip, Sl.nil, 0, 0⟩
def rins (l : List weirlaw15_Row) (k : neigh_key) : List weirlaw15_Row := l.take (rAt l k) ++ rnew k :: l.drop (rAt l k)
def rows (l : List weirlaw15_Row) (k : neigh_key) : List weirlaw15_Row × Nat := match rfind l k with
  | some i => (l, i)
  | none => (rins l k, rAt l k)
abbrev Rsort (l : List weirlaw15_Row) : Prop := l.Pairwise fun a b => klt (rkey a) (rkey b) = true
theorem rfind_some {l : List weirlaw15_Row} {k : neigh_key} {i : Nat} (h : rfind l k = some i) : ∃ e, l[i]? = some e ∧ rkey e = k := by
  obtain ⟨h1, h2, _⟩ := List.findIdx?_eq_some_iff_getElem.1 h
  exact ⟨l[i], List.getElem?_eq_getElem h1, of_decide_eq_true h2⟩
theorem rfind_none {l : List weirlaw15_Row} {k : neigh_key} (h : rfind l k = none) : ∀ e ∈ l, rkey e ≠ k := fun e he => of_decide_eq_false (List.findIdx?_eq_none_iff.1 h e he)
theorem rfind_first {l : List weirlaw15_Row} {k : neigh_key} {i : Nat} {e : weirlaw15_Row} (h : ∀ j, j < i → ∀ e, l[j]? = some e → rkey e ≠ k) (he : l[i]? = some e) (hk : rkey e = k) : rfind l k = some i := by
  obtain ⟨hi1, hi2⟩ := List.getElem?_eq_some_iff.1 he
  refine List.findIdx?_eq_some_iff_getElem.2 ⟨hi1, ?_, fun j hj => ?_⟩
  · rw [hi2]; exact decide_eq_true hk
  · have := h j hj _ (List.getElem?_eq_getElem (by omega))
    simpa using this
theorem rfind_no {l : List weirlaw15_Row} {k : neigh_key} (h : ∀ j, j < l.length → ∀ e, l[j]? = some e → rkey e ≠ k) : rfind l k = none := by
  refine List.findIdx?_eq_none_iff.2 fun e he => ?_
  obtain ⟨j, hj⟩ := List.getElem?_of_mem he
  exact decide_eq_false (h j (List.getElem?_eq_some_iff.1 hj).1 e hj)
theorem rAt_le (l : List weirlaw15_Row) (k : neigh_key) : rAt l k ≤ l.length := (List.takeWhile_sublist _).length_le
theorem rAt_of {l : List weirlaw15_Row} {k : neigh_key} {i : Nat} (h : ∀ j, j < i → ∀ e, l[j]? = some e → klt (rkey e) k = true) (hi : i ≤ l.length) (hs : ∀ e, l[i]? = some e → klt (rkey e) k = false) : rAt l k = i := by
  unfold rAt
  induction l generalizing i with
  | nil =>
    simp only [List.length_nil] at hi
    simp
    omega
  | cons a l ih =>
    rw [List.takeWhile_cons]
    cases i with
    | zero =>
      rw [hs a rfl]
      simp
    | succ i =>
      rw [h 0 (by omega) a rfl, if_pos rfl, List.length_cons]
      rw [ih (i := i) (fun j hj e he => h (j + 1) (by omega) e he) (by simpa using hi) (fun e he => hs e he)]
theorem rAt_take (l : List weirlaw15_Row) (k : neigh_key) : l.take (rAt l k) = l.takeWhile (fun r => klt (rkey r) k) ∧ l.drop (rAt l k) = l.dropWhile (fun r => klt (rkey r) k) := by
  have h := List.takeWhile_append_dropWhile (p := fun r : weirlaw15_Row => klt (rkey r) k) (l := l)
  unfold rAt
  generalize hn : (l.takeWhile fun r => klt (rkey r) k).length = n
  constructor
  · calc l.take n = (l.takeWhile (fun r => klt (rkey r) k) ++ l.dropWhile (fun r => klt (rkey r) k)).take n := by rw [h]
      _ = _ := List.take_left' hn
  · calc l.drop n = (l.takeWhile (fun r => klt (rkey r) k) ++ l.dropWhile (fun r => klt (rkey r) k)).drop n := by rw [h]
      _ = _ := List.drop_left' hn
theorem rdrop_ge {l : List weirlaw15_Row} {k : neigh_key} (s : Rsort l) (hk : ∀ e ∈ l, rkey e ≠ k) : ∀ e ∈ l.dropWhile (fun r => klt (rkey r) k), klt k (rkey e) = true := by
  induction l with
  | nil => simp
  | cons a l ih =>
    have s := List.pairwise_cons.1 s
    intro e he
    rw [List.dropWhile_cons] at he
    split at he
    · exact ih s.2 (fun x hx => hk x (by simp [hx])) e he
    · rename_i hn
      have ha : klt k (rkey a) = true := by
        cases h : klt k (rkey a) with
        | true => rfl
        | false => exact absurd (klt_total _ _ (by simpa using hn) h) (hk a (by simp))
      rcases List.mem_cons.1 he with rfl | he
      · exact ha
      · exact klt_trans _ _ _ ha (s.1 e he)
theorem rins_sorted {l : List weirlaw15_Row} {k : neigh_key} (s : Rsort l) (hk : ∀ e ∈ l, rkey e ≠ k) : Rsort (rins l k) := by
  unfold rins
  obtain ⟨h1, h2⟩ := rAt_take l k
  have hge := rdrop_ge s hk
  rw [← h2] at hge
  have hlt : ∀ x ∈ l.take (rAt l k), klt (rkey x) k = true := by
    rw [h1]
    intro x hx
    exact List.all_eq_true.1 List.all_takeWhile x hx
  have s' := s
  rw [← List.take_append_drop (rAt l k) l] at s'
  have s' := List.pairwise_append.1 s'
  refine List.pairwise_append.2 ⟨s'.1, List.pairwise_cons.2 ⟨fun x hx => hge x hx, s'.2.1⟩, fun x hx y hy => ?_⟩
  rcases List.mem_cons.1 hy with rfl | hy
  · exact hlt x hx
  · exact s'.2.2 x hx y hy
theorem rins_at (l : List weirlaw15_Row) (k : neigh_key) : (rins l k)[rAt l k]? = some (rnew k) := by
  have := rAt_le l k
  unfold rins
  rw [List.getElem?_append_right (by rw [List.length_take]; omega), List.length_take, Nat.min_eq_left this, Nat.sub_self]
  rfl
theorem rins_mem {l : List weirlaw15_Row} {k : neigh_key} {x : weirlaw15_Row} : x ∈ rins l k ↔ x ∈ l ∨ x = rnew k := by
  unfold rins
  conv => rhs; rw [← List.take_append_drop (rAt l k) l]
  simp only [List.mem_append, List.mem_cons]
  constructor
  · rintro (h | h | h)
    · exact .inl (.inl h)
    · exact .inr h
    · exact .inl (.inr h)
  · rintro ((h | h) | h)
    · exact .inl h
    · exact .inr (.inr h)
    · exact .inr (.inl h)
theorem rsort_inj {l : List weirlaw15_Row} (s : Rsort l) {i j : Nat} {x y : weirlaw15_Row} (hx : l[i]? = some x) (hy : l[j]? = some y) (h : rkey x = rkey y) : i = j ∧ x = y := by
  have s := List.pairwise_iff_getElem.1 s
  have hi := List.getElem?_eq_some_iff.1 hx
  have hj := List.getElem?_eq_some_iff.1 hy
  rcases Nat.lt_trichotomy i j with hlt | rfl | hlt
  · have := s i j hi.1 hj.1 hlt
    rw [hi.2, hj.2, h, klt_irrefl] at this
    cases this
  · rw [hx] at hy
    cases hy
    exact ⟨rfl, rfl⟩
  · have := s j i hj.1 hi.1 hlt
    rw [hi.2, hj.2, h, klt_irrefl] at this
    cases this
theorem rset_sorted {l : List weirlaw15_Row} (s : Rsort l) {i : Nat} {x y : weirlaw15_Row} (hx : l[i]? = some x) (h : rkey y = rkey x) : Rsort (l.set i y) := by
  have h1 : (l.map rkey).Pairwise fun a b => klt a b = true := by rw [List.pairwise_map]; exact s
  have h2 : (l.set i y).map rkey = l.map rkey := by
    rw [List.map_set, h]
    exact set_eq (by rw [List.getElem?_map, hx]; rfl)
  rw [← h2, List.pairwise_map] at h1
  exact h1
theorem sorted_ext {α : Type} {R : α → α → Prop} (irr : ∀ x, ¬ R x x) (asy : ∀ x y, R x y → ¬ R y x) {l m : List α} (hl : l.Pairwise R) (hm : m.Pairwise R) (h : ∀ x, x ∈ l ↔ x ∈ m) : l = m := by
  have n1 : l.Nodup := hl.imp (fun {a b} h (e : a = b) => irr a (by rw [← e] at h; exact h))
  have n2 : m.Nodup := hm.imp (fun {a b} h (e : a = b) => irr a (by rw [← e] at h; exact h))
  exact List.Perm.eq_of_pairwise (fun a b _ _ h1 h2 => absurd h2 (asy _ _ h1)) hl hm ((List.perm_ext_iff_of_nodup n1 n2).2 h)
section
variable {W w : World} {Hs : List HP} {A : HP} {sl : Sl} {l : List weirlaw15_Row}
def rI (o : Option Nat) : Int := match o with | some i => (i : Int) | none => -1
theorem rplace_wp {j : Nat} (s : Ss W Hs w) (e : nth Hs j = some A) (rd : Rdb A cRow sl l) (hn : l.length ≤ 3000000000000) (port : Int) (ip : api_IP) : WP (weirlaw15_place sl port ip) w (fun x w' => x = rI (rfind l ⟨port, ip⟩) ∧ Ss W Hs w') := by
  unfold weirlaw15_place
  have hl := (s.rd_len e rd).1
  refine WP.slot' s (fun _ w s => ?_)
  refine WP.loopG (γ := Nat) (fun i x w => x = (i : Int) ∧ i ≤ l.length ∧ (∀ j, j < i → ∀ e, l[j]? = some e → rkey e ≠ ⟨port, ip⟩) ∧ Ss W Hs w) (fun i _ => l.length - i) 0 ⟨rfl, by omega, fun j hj => absurd hj (by omega), s⟩ ?_
  clear s
  rintro i _ w ⟨rfl, hi, he, s⟩
  show WP (weirlaw15_place.L1 sl port ip (i : Int)) w _
  unfold weirlaw15_place.L1
  refine WP.ite (fun h => ?_) (fun h => WP.done ?_)
  · have hi2 : i < l.length := by omega
    have hx := List.getElem?_eq_getElem hi2
    generalize l[i] = x at hx
    refine WP.draw' s (fun w s => ?_)
    refine WP.rdxp0 s j e rd (by omega) (x := x) (by rw [Int.toNat_natCast]; exact hx) rfl (At_weirlaw15_Row_Port _) ?_
    refine WP.step (R := fun y w' => (y = true ↔ rkey x = ⟨port, ip⟩) ∧ w = w') (WP.ite (fun hp => ?_) (fun hp => WP.ret ⟨?_, rfl⟩)) ?_
    · refine WP.rdxp s j e rd (by omega) (x := x) (by rw [Int.toNat_natCast]; exact hx) rfl (At_weirlaw15_Row_IP _) (WP.ret ⟨?_, rfl⟩)
      rw [eqv_true]
      unfold rkey
      rw [hp]
      constructor
      · intro h; rw [h]
      · intro h; exact (neigh_key.mk.inj h).2
    · constructor
      · intro h; cases h
      · intro h; exact absurd (neigh_key.mk.inj h).1 hp
    rintro y _ ⟨hy, rfl⟩
    refine WP.ite (fun hh => WP.done ⟨?_, s⟩) (fun hh => WP.next ?_)
    · rw [rfind_first he hx (hy.1 hh)]
      rfl
    · refine ⟨i + 1, ⟨by rw [wrap_i64 (by omega) (by omega)]; simp, by omega, fun j hj e' he' => ?_, s⟩, by omega⟩
      by_cases ej : j = i
      · subst ej
        rw [hx] at he'
        cases he'
        exact fun hk => hh (hy.2 hk)
      · exact he j (by omega) e' he'
  · rw [rfind_no (fun j hj => he j (by omega))]
    exact ⟨rfl, s⟩
theorem row_wp {sp : List weirlaw15_Row} (s : Ss W (vec cRow sl l sp :: Hs) w) (hn : l.length + 1 ≤ 3000000000000) (port : Int) (ip : api_IP) : WP (weirlaw15_row sl port ip) w (fun x w' => x.2 = ((rows l ⟨port, ip⟩).2 : Int) ∧ ∃ sp', Ss W (vec cRow x.1 (rows l ⟨port, ip⟩).1 sp' :: Hs) w') := by
  unfold weirlaw15_row rows
  have hl := (s.vec_len (i := 0) rfl).1
  refine WP.slot' s (fun _ w s => WP.step (rplace_wp s (j := 0) rfl vec_rdb (by omega) port ip) ?_)
  rintro _ w ⟨rfl, s⟩
  cases hf : rfind l ⟨port, ip⟩ with
  | some i => exact WP.ite (fun _ => WP.ret ⟨rfl, sp, s⟩) (fun h => absurd h (by simp only [rI]; omega))
  | none =>
    refine WP.ite (fun h => absurd h (by simp only [rI]; omega)) (fun _ => ?_)
    simp only
    refine WP.loopG (γ := Nat) (fun i v w => v = (i : Int) ∧ i ≤ l.length ∧ (∀ j, j < i → ∀ e, l[j]? = some e → klt (rkey e) ⟨port, ip⟩ = true) ∧ Ss W (vec cRow sl l sp :: Hs) w) (fun i _ => l.length - i) 0 ⟨rfl, by omega, fun j hj => absurd hj (by omega), s⟩ ?_
    clear s
    rintro i _ w ⟨rfl, hi, he, s⟩
    show WP (weirlaw15_row.L1 sl port ip (i : Int)) w _
    unfold weirlaw15_row.L1
    refine WP.draw' s (fun w s => ?_)
    refine WP.step (R := fun y w' => (y = true → i < l.length ∧ ∀ e, l[i]? = some e → klt (rkey e) ⟨port, ip⟩ = true) ∧ (y = false → ∀ e, l[i]? = some e → klt (rkey e) ⟨port, ip⟩ = false) ∧ Ss W (vec cRow sl l sp :: Hs) w') (WP.ite (fun h => ?_) (fun h => WP.ret ⟨(fun h => by cases h), fun _ e he => ?_, s⟩)) ?_
    · have hi2 : i < l.length := by omega
      have hx := List.getElem?_eq_getElem hi2
      generalize l[i] = x at hx
      rw [hx]
      refine WP.rdxp0 s 0 rfl vec_rdb (by omega) (x := x) (by rw [Int.toNat_natCast]; exact hx) rfl (At_weirlaw15_Row_Port _) ?_
      refine WP.rdxp s 0 rfl vec_rdb (by omega) (x := x) (by rw [Int.toNat_natCast]; exact hx) rfl (At_weirlaw15_Row_IP _) ?_
      refine WP.step (lawLess_wp s _ _ _ _) ?_
      rintro y w ⟨rfl, s⟩
      refine WP.ret ⟨fun h => ⟨hi2, fun e he => ?_⟩, fun h e he => ?_, s⟩
      · cases he; exact h
      · cases he; exact h
    · have := (List.getElem?_eq_some_iff.1 he).1
      omega
    rintro y w ⟨h1, h0, s⟩
    refine WP.ite (fun hy => WP.next ?_) (fun hy => ?_)
    · obtain ⟨q1, q2⟩ := h1 hy
      refine ⟨i + 1, ⟨by rw [wrap_i64 (by omega) (by omega)]; simp, by omega, fun j hj e' he' => ?_, s⟩, by omega⟩
      by_cases ej : j = i
      · subst ej; exact q2 e' he'
      · exact he j (by omega) e' he'
    · have hat := rAt_of he hi (h0 (by simpa using hy))
      unfold rins
      rw [hat]
      refine WP.step (R := fun x w' => x.2 = (i : Int) ∧ ∃ sp', Ss W (vec cRow x.1 (l.take i ++ rnew ⟨port, ip⟩ :: l.drop i) sp' :: Hs) w') ?_ (fun r w h => WP.done h)
      unfold weirlaw15_row.K1
      have hcap : sl.len ≤ sl.cap := by
        obtain ⟨h1, h2, _⟩ := s.vec_len (i := 0) rfl
        omega
      have r1 : Rdb (vec cRow sl l sp) cRow ⟨sl.a, i, sl.cap⟩ (l.take i) := vec_rdb.take (by omega)
      have r2 := (vec_rdb (c := cRow) (s := sl) (xs := l) (sp := sp)).drop (k := i) (by omega) hcap
      refine WP.cutpre (by omega) (by omega) ?_
      rw [Int.toNat_natCast]
      refine WP.appS s 0 rfl r1 (by decide) (WP.appl0W s (by rw [List.length_take]; omega) (by decide) (fun r w sp1 s => WP.slot' s (fun _ w s => ?_)))
      refine WP.applW s 0 rfl (by rw [List.length_take, List.length_singleton]; omega) (by decide) (fun r w sp1 s => ?_)
      refine WP.cutsuf (by omega) (by omega) hcap ?_
      rw [Int.toNat_natCast]
      refine WP.appS s 1 rfl r2 (by decide) (WP.applW s 0 rfl (by rw [List.length_append, List.length_take, List.length_drop, List.length_singleton]; omega) (by decide) (fun r w sp1 s => WP.ret ⟨rfl, sp1, ?_⟩))
      have s2 := s.use [1] (s := [_]) (r := _ :: Hs) rfl
      have e1 : l.take i ++ rnew ⟨port, ip⟩ :: l.drop i = l.take i ++ [rnew ⟨port, ip⟩] ++ l.drop i := by rw [List.append_assoc]; rfl
      rw [e1]
      exact s2.drop
end
end Go.Proofs.Ytlkhijflgbobjaa.Lx
