/- Plain words, put together. -/
import Derived.Test.YtpmhinidiplhiaaDoorAddrParse4
import Derived.Test.YtpmhinidiplhiaaDoorAddrPrint3
set_option linter.unusedVariables false
set_option linter.unusedSimpArgs false
namespace Go.Proofs.YtpmhinidiplhiaaDoor.Lx
open Go Go.Proofs Go.RowKit
theorem Zk7 : ∀ k : _root_.Fin 16, hexV (hexd k.val) = (k.val : Int) := by decide +kernel
theorem Zhn {k : Nat} (h : k < 16) : hexV (hexd k) = (k : Int) := Zk7 ⟨k, h⟩
theorem ZhS {k : Nat} (h : k < 16) : ZdV (hexd k) = true := by
 unfold ZdV
 rw [Zhn h]
 exact decide_eq_true (by omega)
theorem ZeZ : ∀ k : _root_.Fin 1000, (dec3 k.val).all ZcM = true ∧ valD (dec3 k.val) = k.val ∧ (dec3 k.val).length ≤ 3 ∧ 0 < (dec3 k.val).length ∧ (1 < (dec3 k.val).length → (dec3 k.val).getD 0 0 ≠ 48) := by decide +kernel
theorem ZlO {p : Int → Bool} {pre mid post : List Int} (h : ∀ c ∈ mid, p c = true) (hp : ∀ c r, post = c :: r → p c = false) : runE p (pre ++ (mid ++ post)) pre.length = pre.length + mid.length := by
 unfold runE
 rw [List.drop_left, List.takeWhile_append_of_pos h]
 cases post with
 | nil => simp
 | cons c r =>
  rw [List.takeWhile_cons_of_neg (by rw [hp c r rfl]; simp)]
  simp
theorem ZmZ {pre post : List Int} {n : Nat} {most wrong : Int} (hn : n < 1000) (hm : (n : Int) ≤ most) (hp : ∀ c r, post = c :: r → ZcM c = false) :
  numM (pre ++ (dec3 n ++ post)) pre.length most wrong = .ok (n, pre.length + (dec3 n).length) := by
 obtain ⟨t1, t2, t3, t4, t5⟩ := ZeZ ⟨n, hn⟩
 simp only at t1 t2 t3 t4 t5
 have hr : runE ZcM (pre ++ (dec3 n ++ post)) pre.length = pre.length + (dec3 n).length := ZlO (List.all_eq_true.1 t1) hp
 have ht : ((pre ++ (dec3 n ++ post)).drop pre.length).take (pre.length + (dec3 n).length - pre.length) = dec3 n := by
  rw [List.drop_left, Nat.add_sub_cancel_left, List.take_left]
 have hg : (pre ++ (dec3 n ++ post)).getD pre.length 0 = (dec3 n).getD 0 0 := by
  rw [List.getD, List.getD, List.getElem?_append_right (Nat.le_refl _), Nat.sub_self, List.getElem?_append_left t4]
 unfold numM
 rw [hr, if_neg (by omega), ht, hg, t2, if_neg (by
  intro h
  rcases h with h | ⟨h1, h2⟩
  ·omega
  ·exact t5 (by omega) h2), if_neg (by omega)]
def dots (xs : List Nat) : List Int := xs.flatMap fun x => 46 :: dec3 x
theorem Zfn (x : Nat) (r : List Nat) : dots (x :: r) = 46 :: (dec3 x ++ dots r) := by simp [dots]
theorem Zmw {xs : List Nat} : ∀ c r, dots xs = c :: r → ZcM c = false := by
 intro c r h
 cases xs with
 | nil => cases h
 | cons x r' =>
  rw [Zfn] at h
  cases h
  decide
theorem Zkp : ∀ (xs : List Nat) (pre : List Int) (acc : List Nat), acc ≠ [] → (∀ x ∈ xs, x ≤ 255) → ZeJ (pre ++ dots xs) xs.length pre.length acc = .ok (acc ++ xs, (pre ++ dots xs).length)
 | [], pre, acc, _, _ => by simp [ZeJ, dots]
 | x :: r, pre, acc, ha, hx => by
  have hx0 := hx x (by simp)
  rw [Zfn]
  have e1 : pre ++ 46 :: (dec3 x ++ dots r) = (pre ++ [46]) ++ (dec3 x ++ dots r) := by simp
  have e2 : (pre ++ [46]) ++ (dec3 x ++ dots r) = (pre ++ [46] ++ dec3 x) ++ dots r := by simp
  have hs : sepM (pre ++ 46 :: (dec3 x ++ dots r)) pre.length acc.isEmpty = .ok (pre.length + 1) := by
   unfold sepM
   rw [if_neg (by cases acc with | nil => exact absurd rfl ha | cons => simp), if_neg]
   intro h
   rcases h with h | h
   ·simp at h
   ·simp [List.getD] at h
  have hn := ZmZ (pre := pre ++ [46]) (n := x) (post := dots r) (most := 255) (wrong := 43) (by omega) (by omega) Zmw
  have hlen : (pre ++ [46]).length = pre.length + 1 := by simp
  rw [hlen] at hn
  show ZeJ _ (r.length + 1) _ _ = _
  unfold ZeJ
  rw [hs]
  simp only
  rw [e1, hn]
  simp only
  rw [e2, show pre.length + 1 + (dec3 x).length = (pre ++ [46] ++ dec3 x).length by (simp; omega), Zkp r (pre ++ [46] ++ dec3 x) (acc ++ [x]) (by simp) (fun y hy => hx y (by simp [hy]))]
  simp
theorem ZnS {pre : List Int} {a : Nat} {r : List Nat} (hr : r.length = 3) (ha : a ≤ 255) (hx : ∀ x ∈ r, x ≤ 255) : Ze5 (pre ++ (dec3 a ++ dots r)) pre.length = .ok (a :: r) := by
 have hn := ZmZ (pre := pre) (n := a) (post := dots r) (most := 255) (wrong := 43) (by omega) (by omega) Zmw
 have h := Zkp r (pre ++ dec3 a) [a] (by simp) hx
 have e2 : pre ++ (dec3 a ++ dots r) = (pre ++ dec3 a) ++ dots r := by simp
 have hf : ZeJ (pre ++ (dec3 a ++ dots r)) 4 pre.length [] = .ok (a :: r, (pre ++ (dec3 a ++ dots r)).length) := by
  show ZeJ _ (3 + 1) _ _ = _
  unfold ZeJ
  rw [show sepM (pre ++ (dec3 a ++ dots r)) pre.length ([] : List Nat).isEmpty = .ok pre.length from rfl]
  simp only
  rw [hn]
  simp only
  rw [e2, show pre.length + (dec3 a).length = (pre ++ dec3 a).length by simp, ← hr]
  exact h
 unfold Ze5
 rw [hf]
 simp only
 rw [if_neg (Nat.lt_irrefl _)]
theorem Zni (a : Int) (r : List Int) : dotM (a :: r) = dec3 a.toNat ++ dots (r.map Int.toNat) := by
 simp [dotM, Zej, dots, List.flatMap_map]
theorem ZgZ {l : List Int} {q : Int} (h : ∀ c ∈ l, c ≠ q) : Za5 l q = l.length := by
 unfold Za5
 have := ZlO (p := fun c => decide (c ≠ q)) (pre := []) (mid := l) (post := []) (fun c hc => decide_eq_true (h c hc)) (by intro c r hh; cases hh)
 simpa using this
theorem Zna {c : Int} (h : ZcM c = true) : 48 ≤ c ∧ c ≤ 57 := of_decide_eq_true h
theorem Zhw {n : Nat} (h : n < 1000) {c : Int} (hc : c ∈ dec3 n) : 48 ≤ c ∧ c ≤ 57 := Zna (List.all_eq_true.1 (ZeZ ⟨n, h⟩).1 c hc)
theorem Zlh {n : Nat} (h : n < 1000) : (dec3 n).length ≤ 3 := (ZeZ ⟨n, h⟩).2.2.1
theorem ZnZ {xs : List Nat} (h : ∀ x ∈ xs, x ≤ 255) {c : Int} (hc : c ∈ dots xs) : c = 46 ∨ (48 ≤ c ∧ c ≤ 57) := by
 unfold dots at hc
 obtain ⟨x, hx, hc⟩ := List.mem_flatMap.1 hc
 have := h x hx
 rcases List.mem_cons.1 hc with hc | hc
 ·exact .inl hc
 ·exact .inr (Zhw (by omega) hc)
theorem Zld : ∀ {xs : List Nat}, (∀ x ∈ xs, x ≤ 255) → (dots xs).length ≤ 4 * xs.length
 | [], _ => by simp [dots]
 | x :: r, h => by
  rw [Zfn]
  have h1 := Zld (xs := r) (fun y hy => h y (by simp [hy]))
  have h2 := Zlh (n := x) (by have := h x (by simp); omega)
  simp only [List.length_cons, List.length_append]
  omega
theorem Zl0 {a : Nat} {r : List Nat} (hr : r.length = 3) (ha : a ≤ 255) (hx : ∀ x ∈ r, x ≤ 255) : ZcF (dec3 a ++ dots r) = .ok ⟨4, v4V (a :: r)⟩ := by
 have h1 := Zld hx
 have h2 := Zlh (n := a) (by omega)
 have hf : Za5 (dec3 a ++ dots r) 58 = (dec3 a ++ dots r).length := ZgZ fun c hc => by
  rcases List.mem_append.1 hc with hc | hc
  ·have := Zhw (by omega) hc
   omega
  ·rcases ZnZ hx hc with h | h <;> omega
 have h3 := ZnS (pre := []) hr ha hx
 unfold ZcF
 rw [if_neg (by rw [List.length_append]; omega), hf, if_neg (Nat.lt_irrefl _)]
 rw [show Ze5 (dec3 a ++ dots r) 0 = .ok (a :: r) from h3]
theorem ZtN {ip : Za1} (hb : Byt ip.A.l) (hv : ip.V = 4) (hs : ip.A.l.drop 4 = List.replicate 12 0) : ZcF (dotM (ip.A.l.take 4)) = .ok ip := by
 obtain ⟨V, l, hl⟩ := ip
 simp only at hv hb hs
 subst hv
 match l, hl with
 | a :: b :: c :: d :: r, hl =>
  have hs : r = List.replicate 12 0 := hs
  subst hs
  have ha := hb a (by simp)
  have hb' := hb b (by simp)
  have hc := hb c (by simp)
  have hd := hb d (by simp)
  show ZcF (dotM [a, b, c, d]) = _
  rw [Zni, Zl0 rfl (by omega) (by
   intro x hx
   simp only [List.map_cons, List.map_nil, List.mem_cons, List.not_mem_nil, or_false] at hx
   rcases hx with rfl | rfl | rfl <;> omega)]
  have e : v4V (a.toNat :: [b, c, d].map Int.toNat) = (⟨a :: b :: c :: d :: List.replicate 12 0, hl⟩ : Vec Int 16) := by
   refine Vec.eq ?_
   show [((a.toNat : Nat) : Int), ((b.toNat : Nat) : Int), ((c.toNat : Nat) : Int), ((d.toNat : Nat) : Int), 0, 0, 0, 0, 0, 0, 0, 0, 0, 0, 0, 0] = _
   rw [Int.toNat_of_nonneg ha.1, Int.toNat_of_nonneg hb'.1, Int.toNat_of_nonneg hc.1, Int.toNat_of_nonneg hd.1]
   rfl
  rw [e]
theorem Zp0 : ∀ (f n : Nat), n < 16 ^ (f + 1) → n < 65536 → (∀ c ∈ hexL f n, ZdV c = true) ∧ hexN (hexL f n) = n ∧ 0 < (hexL f n).length ∧ (hexL f n).length ≤ f + 1
 | 0, n, h, _ => by
  have h : n < 16 := by simpa using h
  have e : hexL 0 n = [hexd n] := by
   unfold hexL
   rw [Nat.mod_eq_of_lt h]
  rw [e]
  refine ⟨fun c hc => ?_, ?_, by simp, by simp⟩
  ·rw [List.mem_singleton] at hc
   subst hc
   exact ZhS h
  ·show 0 * 16 % 1048576 + (hexV (hexd n)).toNat = n
   rw [Zhn h]
   simp
 | f + 1, n, h, h5 => by
  unfold hexL
  split
  ·rename_i h
   refine ⟨fun c hc => ?_, ?_, by simp, by simp⟩
   ·rw [List.mem_singleton] at hc
    subst hc
    exact ZhS h
   ·show 0 * 16 % 1048576 + (hexV (hexd n)).toNat = n
    rw [Zhn h]
    simp
  ·obtain ⟨i1, i2, i3, i4⟩ := Zp0 f (n / 16) (by rw [Nat.pow_succ] at h; omega) (by omega)
   refine ⟨fun c hc => ?_, ?_, by simp, by simp; omega⟩
   ·rcases List.mem_append.1 hc with hc | hc
    ·exact i1 c hc
    ·rw [List.mem_singleton] at hc
     subst hc
     exact ZhS (by omega)
   ·rw [Zho, i2, Zhn (by omega)]
    omega
theorem ZhU {n : Nat} (h : n < 65536) : (∀ c ∈ hex4 n, ZdV c = true) ∧ hexN (hex4 n) = n ∧ 0 < (hex4 n).length ∧ (hex4 n).length ≤ 4 := Zp0 3 n (by simpa using h) h
theorem Zjk {pre mid post : List Int} {n : Nat} {gs : List Nat} {gap : Int} (hx : ∀ c ∈ mid, ZdV c = true) (h0 : 0 < mid.length) (h4 : mid.length ≤ 4) (hn : hexN mid = n) (hp : ∀ c r, post = c :: r → ZdV c = false ∧ c ≠ 46) (hr : 1 ≤ (S6.mk pre.length gs gap).room) :
  ZeI (pre ++ (mid ++ post)) ⟨pre.length, gs, gap⟩ = .ok (false, ⟨pre.length + mid.length, gs ++ [n], gap⟩) := by
 have hru : runE ZdV (pre ++ (mid ++ post)) pre.length = pre.length + mid.length := ZlO hx (fun c r h => (hp c r h).1)
 have ht : ((pre ++ (mid ++ post)).drop pre.length).take (pre.length + mid.length - pre.length) = mid := by
  rw [List.drop_left, Nat.add_sub_cancel_left, List.take_left]
 unfold ZeI
 simp only
 rw [hru, if_neg (by omega), if_neg ?_, if_neg (by omega), if_neg (by omega), ht, hn]
 rintro ⟨h1, h2, -⟩
 cases post with
 | nil => simp at h1
 | cons c r =>
  refine (hp c r rfl).2 ?_
  rw [List.getD, ← List.append_assoc, List.getElem?_append_right (by simp), show pre.length + mid.length - (pre ++ mid).length = 0 by simp] at h2
  exact h2
def cols (gs : List Nat) : List Int := gs.flatMap fun g => 58 :: hex4 g
theorem Zqh (g : Nat) (r : List Nat) : colM (g :: r) = hex4 g ++ cols r := by simp [colM, Zej, cols, List.flatMap_map]
theorem Zmx {r' : List Int} : ∀ c r, 58 :: r' = c :: r → ZdV c = false ∧ c ≠ 46 := by
 intro c r h
 cases h
 decide
structure Grp (mid : List Int) (n : Nat) : Prop where
 x : ∀ c ∈ mid, ZdV c = true
 p : 0 < mid.length
 q : mid.length ≤ 4
 v : hexN mid = n
theorem Zri {n : Nat} (h : n < 65536) : Grp (hex4 n) n := ⟨(ZhU h).1, (ZhU h).2.2.1, (ZhU h).2.2.2, (ZhU h).2.1⟩
theorem Zpl {pre mid : List Int} {n f : Nat} {op : Bool} {gs : List Nat} {gap : Int} (g : Grp mid n) (hr : 1 ≤ (S6.mk pre.length gs gap).room) (hg : ¬ (gap < 0 ∧ gs.length + 1 ≠ 8)) :
  Zc9 (pre ++ mid) (f + 1) op ⟨pre.length, gs, gap⟩ = .ok ⟨(pre ++ mid).length, gs ++ [n], gap⟩ := by
 have h := Zjk (pre := pre) (post := []) (gs := gs) (gap := gap) g.x g.p g.q g.v (by intro c r h; cases h) hr
 rw [List.append_nil] at h
 have hp := g.p
 unfold Zc9
 rw [if_neg (fun h' => by have := h'.1; simp only [List.length_append] at this; omega), h]
 simp only
 rw [if_pos (by simp), if_neg (by simpa using hg)]
 simp
theorem Zi2 {pre mid post : List Int} {n f : Nat} {op : Bool} {gs : List Nat} {gap : Int} (g : Grp mid n) (hr : 1 ≤ (S6.mk pre.length gs gap).room) (hp : ∀ c r, post = c :: r → c ≠ 58) :
  Zc9 (pre ++ (mid ++ 58 :: post)) (f + 1) op ⟨pre.length, gs, gap⟩ = Zc9 (pre ++ (mid ++ 58 :: post)) f false ⟨(pre ++ (mid ++ [58])).length, gs ++ [n], gap⟩ := by
 have h := Zjk (pre := pre) (post := 58 :: post) (gs := gs) (gap := gap) g.x g.p g.q g.v Zmx hr
 have h0 := g.p
 have e1 : (pre ++ (mid ++ 58 :: post)).drop (pre.length + mid.length) = 58 :: post := by
  rw [← List.append_assoc, ← List.length_append, List.drop_left]
 have hd : Zce (pre ++ (mid ++ 58 :: post)) ⟨pre.length + mid.length, gs ++ [n], gap⟩ = .ok (false, ⟨pre.length + mid.length, gs ++ [n], gap⟩) := by
  unfold Zce
  rw [if_pos]
  unfold Zix
  simp only
  rw [e1]
  intro h'
  cases post with
  | nil => simp at h'
  | cons c r =>
   simp at h'
   exact hp c r rfl h'
 rw [Zfh (by simp) h (by simp) hd, if_neg (by simp), if_neg]
 ·simp only [List.length_append, List.length_cons, List.length_nil]
  rw [show pre.length + mid.length + 1 = pre.length + (mid.length + (0 + 1)) by omega]
 ·intro h'
  refine h' ?_
  rw [List.getD, ← List.append_assoc, List.getElem?_append_right (by simp), show pre.length + mid.length - (pre ++ mid).length = 0 by simp]
  rfl
theorem ZqW {pre mid post : List Int} {n f : Nat} {op : Bool} {gs : List Nat} {gap : Int} (g : Grp mid n) (hr : 1 ≤ (S6.mk pre.length gs gap).room) (h0 : gap < 0) (h8 : gs.length + 1 ≠ 8) :
  Zc9 (pre ++ (mid ++ 58 :: 58 :: post)) (f + 1) op ⟨pre.length, gs, gap⟩ = Zc9 (pre ++ (mid ++ 58 :: 58 :: post)) f true ⟨(pre ++ (mid ++ [58, 58])).length, gs ++ [n], ((gs.length + 1 : Nat) : Int)⟩ := by
 have h := Zjk (pre := pre) (post := 58 :: 58 :: post) (gs := gs) (gap := gap) g.x g.p g.q g.v Zmx hr
 have hm := g.p
 have e1 : (pre ++ (mid ++ 58 :: 58 :: post)).drop (pre.length + mid.length) = 58 :: 58 :: post := by
  rw [← List.append_assoc, ← List.length_append, List.drop_left]
 have hd : Zce (pre ++ (mid ++ 58 :: 58 :: post)) ⟨pre.length + mid.length, gs ++ [n], gap⟩ = .ok (true, ⟨pre.length + mid.length + 2, gs ++ [n], ((gs.length + 1 : Nat) : Int)⟩) := by
  unfold Zce
  rw [if_neg, if_neg]
  ·simp
  ·simp only [List.length_append, List.length_cons, List.length_nil]
   omega
  ·unfold Zix
   simp only
   rw [e1]
   simp
 rw [Zfh (by simp) h (by simp) hd, if_pos rfl]
 simp only [List.length_append, List.length_cons, List.length_nil]
 rw [show pre.length + mid.length + 2 = pre.length + (mid.length + (0 + 1 + 1)) by omega]
def Zdb (ms : List (List Int)) : List Int := ms.flatMap fun m => 58 :: m
theorem Zd6 (m : List Int) (ms : List (List Int)) : Zdb (m :: ms) = 58 :: (m ++ Zdb ms) := by simp [Zdb]
theorem ZnQ {mid : List Int} {n : Nat} (g : Grp mid n) {post : List Int} : ∀ c r, mid ++ post = c :: r → c ≠ 58 := by
 intro c r h hc
 have h0 := g.p
 cases mid with
 | nil => simp at h0
 | cons d ds =>
  cases h
  have := g.x c (by simp)
  rw [hc] at this
  exact absurd this (by decide)
inductive Grps : List (List Int) → List Nat → Prop
 | nil : Grps [] []
 | cons {m : List Int} {n : Nat} {ms : List (List Int)} {ns : List Nat} (g : Grp m n) (h : Grps ms ns) : Grps (m :: ms) (n :: ns)
theorem ZkU : ∀ (ms : List (List Int)) (ns : List Nat) (m : List Int) (n f : Nat) (op : Bool) (pre : List Int) (gs : List Nat) (gap : Int), Grp m n → Grps ms ns → ms.length < f → (gap < 0 → gs.length + 1 + ns.length = 8) → (0 ≤ gap → gs.length + 1 + ns.length ≤ 7) →
  Zc9 (pre ++ (m ++ Zdb ms)) f op ⟨pre.length, gs, gap⟩ = .ok ⟨(pre ++ (m ++ Zdb ms)).length, gs ++ n :: ns, gap⟩
 | [], ns, m, n, f, op, pre, gs, gap, g, h, hf, h8, h7 => by
  cases h
  obtain ⟨f, rfl⟩ : ∃ k, f = k + 1 := ⟨f - 1, by simp at hf; omega⟩
  have e : m ++ Zdb [] = m := by simp [Zdb]
  rw [e]
  simp only [List.length_nil] at h8 h7
  refine Zpl g ?_ (fun h => h.2 (h8 h.1))
  unfold S6.room
  simp only
  split <;> omega
 | m2 :: ms, _, m, n, f, op, pre, gs, gap, g, h, hf, h8, h7 => by
  cases h with
  | cons g2 h =>
   rename_i n2 ns
   simp only [List.length_cons] at hf h8 h7
   obtain ⟨f, rfl⟩ : ∃ k, f = k + 1 := ⟨f - 1, by omega⟩
   rw [Zd6]
   rw [Zi2 g (by unfold S6.room; simp only; split <;> omega) (ZnQ g2)]
   have e1 : pre ++ (m ++ 58 :: (m2 ++ Zdb ms)) = (pre ++ (m ++ [58])) ++ (m2 ++ Zdb ms) := by simp
   rw [e1, ZkU ms ns m2 n2 f false _ (gs ++ [n]) gap g2 h (by omega) (by intro h; have := h8 h; simp only [List.length_append, List.length_cons, List.length_nil]; omega) (by intro h; have := h7 h; simp only [List.length_append, List.length_cons, List.length_nil]; omega)]
   simp
theorem ZlQ : ∀ (ms : List (List Int)) (ns : List Nat) (m : List Int) (n f : Nat) (op : Bool) (pre post : List Int) (gs : List Nat) (gap : Int), Grp m n → Grps ms ns → ms.length < f → gap < 0 → gs.length + 1 + ns.length ≤ 7 →
  Zc9 (pre ++ (m ++ (Zdb ms ++ 58 :: 58 :: post))) f op ⟨pre.length, gs, gap⟩ = Zc9 (pre ++ (m ++ (Zdb ms ++ 58 :: 58 :: post))) (f - (ms.length + 1)) true ⟨(pre ++ (m ++ (Zdb ms ++ [58, 58]))).length, gs ++ n :: ns, ((gs.length + 1 + ns.length : Nat) : Int)⟩
 | [], ns, m, n, f, op, pre, post, gs, gap, g, h, hf, h0, h7 => by
  cases h
  obtain ⟨f, rfl⟩ : ∃ k, f = k + 1 := ⟨f - 1, by simp at hf; omega⟩
  simp only [List.length_nil] at h7
  show Zc9 (pre ++ (m ++ 58 :: 58 :: post)) (f + 1) op ⟨pre.length, gs, gap⟩ = _
  rw [ZqW g (by unfold S6.room; simp only; split <;> omega) h0 (by omega)]
  rfl
 | m2 :: ms, _, m, n, f, op, pre, post, gs, gap, g, h, hf, h0, h7 => by
  cases h with
  | cons g2 h =>
   rename_i n2 ns
   simp only [List.length_cons] at hf h7
   obtain ⟨f, rfl⟩ : ∃ k, f = k + 1 := ⟨f - 1, by omega⟩
   have e0 : Zdb (m2 :: ms) ++ 58 :: 58 :: post = 58 :: (m2 ++ (Zdb ms ++ 58 :: 58 :: post)) := by
    rw [Zd6]
    simp
   rw [e0, Zi2 g (by unfold S6.room; simp only; split <;> omega) (ZnQ g2)]
   have e1 : pre ++ (m ++ 58 :: (m2 ++ (Zdb ms ++ 58 :: 58 :: post))) = (pre ++ (m ++ [58])) ++ (m2 ++ (Zdb ms ++ 58 :: 58 :: post)) := by simp
   rw [e1, ZlQ ms ns m2 n2 f false _ post (gs ++ [n]) gap g2 h (by omega) h0 (by simp only [List.length_append, List.length_cons, List.length_nil]; omega)]
   have e2 : (pre ++ (m ++ [58]) ++ (m2 ++ (Zdb ms ++ [58, 58]))).length = (pre ++ (m ++ (Zdb (m2 :: ms) ++ [58, 58]))).length := by
    rw [Zd6]
    simp
   have e3 : (gs ++ [n]).length + 1 + ns.length = gs.length + 1 + (n2 :: ns).length := by
    simp only [List.length_append, List.length_cons, List.length_nil]
    omega
   rw [e2, e3]
   simp
theorem Grps.len {ms : List (List Int)} {ns : List Nat} (h : Grps ms ns) : ms.length = ns.length := by
 induction h with
 | nil => rfl
 | cons _ _ ih => simp [ih]
def Zda : List (List Int) → List Int
 | [] => []
 | m :: ms => m ++ Zdb ms
theorem ZiP {ms : List (List Int)} {ns : List Nat} (h : Grps ms ns) : 2 * ms.length ≤ (Zdb ms).length := by
 induction h with
 | nil => simp
 | @cons m n ms ns g h ih =>
  have := g.p
  rw [Zd6]
  simp only [List.length_cons, List.length_append]
  omega
theorem Zmu {l : List Int} (h : ∀ c r, l = c :: r → c ≠ 58) (gap : Int) : Zce l ⟨0, [], gap⟩ = .ok (false, ⟨0, [], gap⟩) := by
 unfold Zce
 rw [if_pos]
 unfold Zix
 intro h'
 cases l with
 | nil => simp at h'
 | cons c r =>
  simp at h'
  exact h c r rfl h'.1
theorem Zos {ms : List (List Int)} {ns : List Nat} (h : Grps ms ns) (h8 : ns.length = 8) : Zfy (Zda ms) = .ok ⟨(Zda ms).length, ns, -1⟩ := by
 cases h with
 | nil => cases h8
 | @cons m n ms ns g h =>
  have hl := ZiP h
  have h0 := g.p
  simp only [List.length_cons] at h8
  show Zfy (m ++ Zdb ms) = _
  unfold Zfy
  rw [Zmu (ZnQ g)]
  simp only
  exact ZkU ms ns m n _ _ [] [] (-1) g h (by simp only [List.length_append]; omega) (fun _ => by simp; omega) (fun h => absurd h (by omega))
theorem Zpn {ms ks : List (List Int)} {ns qs : List Nat} (h : Grps ms ns) (h' : Grps ks qs) (h7 : ns.length + qs.length ≤ 7) : ∃ e, Zfy (Zda ms ++ 58 :: 58 :: Zda ks) = .ok ⟨e, ns ++ qs, (ns.length : Int)⟩ := by
 -- behind the gap
 have tail : ∀ (pre : List Int) (f : Nat), ks.length < f → Zc9 (pre ++ Zda ks) f true ⟨pre.length, ns, (ns.length : Int)⟩ = .ok ⟨(pre ++ Zda ks).length, ns ++ qs, (ns.length : Int)⟩ := by
  intro pre f hf
  cases h' with
  | nil =>
   obtain ⟨f, rfl⟩ : ∃ k, f = k + 1 := ⟨f - 1, by simp at hf; omega⟩
   unfold Zc9
   rw [if_pos (by simp [Zda])]
   simp [Zda]
  | @cons k q ks qs g h' =>
   simp only [List.length_cons] at hf h7
   exact ZkU ks qs k q f true pre ns _ g h' (by omega) (fun h => absurd h (by omega)) (fun _ => by omega)
 have hk : 2 * ks.length ≤ (Zda ks).length + 1 := by
  cases h' with
  | nil => simp
  | @cons k q ks qs g h' =>
   have := ZiP h'
   have := g.p
   show 2 * (ks.length + 1) ≤ (k ++ Zdb ks).length + 1
   rw [List.length_append]
   omega
 cases h with
 | nil =>
  refine ⟨(58 :: 58 :: Zda ks).length, ?_⟩
  show Zfy (58 :: 58 :: Zda ks) = _
  have hd : Zce (58 :: 58 :: Zda ks) ⟨0, [], -1⟩ = .ok (true, ⟨2, [], 0⟩) := by
   unfold Zce
   rw [if_neg (by unfold Zix; simp), if_neg (by simp)]
   rfl
  unfold Zfy
  rw [hd]
  exact tail [58, 58] _ (by simp only [List.length_cons]; omega)
 | @cons m n ms ns g h =>
  have hl := ZiP h
  have h0 := g.p
  simp only [List.length_cons] at h7
  have e1 : Zda (m :: ms) ++ 58 :: 58 :: Zda ks = m ++ (Zdb ms ++ 58 :: 58 :: Zda ks) := by simp [Zda]
  have e2 : m ++ (Zdb ms ++ 58 :: 58 :: Zda ks) = (m ++ (Zdb ms ++ [58, 58])) ++ Zda ks := by simp
  refine ⟨((m ++ (Zdb ms ++ [58, 58])) ++ Zda ks).length, ?_⟩
  rw [e1]
  unfold Zfy
  rw [Zmu (ZnQ g)]
  simp only
  have h1 := ZlQ ms ns m n ((m ++ (Zdb ms ++ 58 :: 58 :: Zda ks)).length + 1) (decide ((-1 : Int) ≥ 0)) [] (Zda ks) [] (-1) g h (by simp only [List.length_append]; omega) (by omega) (by simp; omega)
  refine h1.trans ?_
  have e3 : (([] : List Nat).length + 1 + ns.length) = (n :: ns).length := by simp; omega
  rw [e3]
  simp only [List.nil_append]
  rw [e2]
  exact tail _ _ (by simp only [List.length_append, List.length_cons, List.length_nil]; omega)
def wAt (gs : List Nat) (a z i j : Nat) : Nat := if j < a then (if j < i then gs.getD j 0 else 0) else if a + z ≤ j then (if j - z < i then gs.getD (j - z) 0 else 0) else 0
theorem ZkF {st : S6} {a z : Nat} (ha : a ≤ st.gs.length) (hz : st.gs.length + z = 8) (hp : ∀ k, k < st.gs.length → st.pos k = if k < a then k else k + z) : ∀ i, i ≤ st.gs.length → st.words i = (List.range 8).map (wAt st.gs a z i)
 | 0, _ => by
  apply List.ext_getElem?
  intro j
  show (List.replicate 8 0)[j]? = _
  rw [List.getElem?_map]
  by_cases hj : j < 8
  ·rw [List.getElem?_range hj, List.getElem?_replicate, if_pos hj]
   show some 0 = some _
   unfold wAt
   simp
  ·rw [List.getElem?_eq_none (by simp; omega), List.getElem?_eq_none (by simp; omega)]
   rfl
 | i + 1, hi => by
  have ih := ZkF ha hz hp i (by omega)
  have hpi := hp i (by omega)
  have hp8 : st.pos i < 8 := by
   rw [hpi]
   split <;> omega
  show (st.words i).set (st.pos i) (st.gs.getD i 0) = _
  rw [ih]
  apply List.ext_getElem?
  intro j
  by_cases ej : j = st.pos i
  ·rw [ej, List.getElem?_set_self (by simp; omega), List.getElem?_map, List.getElem?_range hp8]
   show some _ = some _
   congr 1
   rw [hpi]
   unfold wAt
   by_cases h1 : i < a
   ·rw [if_pos h1, if_pos h1, if_pos (by omega)]
   ·rw [if_neg h1, if_neg (by omega), if_pos (by omega), if_pos (by omega), show i + z - z = i by omega]
  ·rw [List.getElem?_set_ne (fun h => ej h.symm), List.getElem?_map, List.getElem?_map]
   by_cases hj : j < 8
   ·rw [List.getElem?_range hj]
    show some _ = some _
    congr 1
    rw [hpi] at ej
    unfold wAt
    by_cases h1 : j < a
    ·rw [if_pos h1, if_pos h1]
     by_cases h2 : j < i
     ·rw [if_pos h2, if_pos (show j < i + 1 by omega)]
     ·have h3 : j ≠ i := by
       intro h
       apply ej
       rw [if_pos (by omega)]
       exact h
      rw [if_neg h2, if_neg (show ¬ j < i + 1 by omega)]
    ·rw [if_neg h1, if_neg h1]
     by_cases h2 : a + z ≤ j
     ·rw [if_pos h2, if_pos h2]
      by_cases h3 : j - z < i
      ·rw [if_pos h3, if_pos (show j - z < i + 1 by omega)]
      ·have h4 : j - z ≠ i := by
        intro h
        apply ej
        rw [if_neg (by omega)]
        omega
       rw [if_neg h3, if_neg (show ¬ j - z < i + 1 by omega)]
     ·rw [if_neg h2, if_neg h2]
   ·rw [List.getElem?_eq_none (by simp; omega)]
    rfl
theorem Zoe {st : S6} (hg : st.gap < 0) (h8 : st.gs.length = 8) : st.words st.gs.length = st.gs := by
 rw [ZkF (a := 8) (z := 0) (by omega) (by omega) (fun k hk => by unfold S6.pos; rw [if_neg (by omega), if_pos (by omega)]) _ (Nat.le_refl _)]
 apply List.ext_getElem?
 intro j
 rw [List.getElem?_map]
 by_cases hj : j < 8
 ·rw [List.getElem?_range hj, List.getElem?_eq_getElem (by omega)]
  show some _ = some _
  unfold wAt
  rw [if_pos hj, if_pos (by omega), List.getD, List.getElem?_eq_getElem (by omega)]
  rfl
 ·rw [List.getElem?_eq_none (by simp; omega), List.getElem?_eq_none (by omega)]
  rfl
theorem Zlx {e : Nat} {ns qs : List Nat} (h7 : ns.length + qs.length ≤ 7) : (S6.mk e (ns ++ qs) (ns.length : Int)).words (ns ++ qs).length = ns ++ (List.replicate (8 - (ns.length + qs.length)) 0 ++ qs) := by
 have hl : (ns ++ qs).length = ns.length + qs.length := List.length_append
 rw [ZkF (st := S6.mk e (ns ++ qs) (ns.length : Int)) (a := ns.length) (z := 8 - (ns.length + qs.length)) (by simp only; omega) (by simp only; omega) (fun k hk => by
  unfold S6.pos
  simp only
  by_cases h : k < ns.length
  ·rw [if_pos h, if_neg (by omega)]
  ·rw [if_neg h, if_pos (by omega), hl]) _ (Nat.le_refl _)]
 apply List.ext_getElem?
 intro j
 rw [List.getElem?_map]
 by_cases hj : j < 8
 ·rw [List.getElem?_range hj]
  show some (wAt (ns ++ qs) _ _ (ns ++ qs).length j) = _
  unfold wAt
  by_cases h1 : j < ns.length
  ·rw [if_pos h1, if_pos (by omega), List.getD, List.getElem?_append_left h1, List.getElem?_append_left h1, List.getElem?_eq_getElem h1]
   rfl
  ·rw [if_neg h1, List.getElem?_append_right (by omega)]
   by_cases h2 : ns.length + (8 - (ns.length + qs.length)) ≤ j
   ·rw [if_pos h2, if_pos (by omega), List.getD, List.getElem?_append_right (by omega), List.getElem?_append_right (by simp; omega)]
    have e1 : j - (8 - (ns.length + qs.length)) - ns.length = j - ns.length - (List.replicate (8 - (ns.length + qs.length)) 0).length := by
     rw [List.length_replicate]
     omega
    rw [e1, List.getElem?_eq_getElem (by simp; omega)]
    rfl
   ·rw [if_neg h2, List.getElem?_append_left (by simp; omega), List.getElem?_replicate, if_pos (by omega)]
 ·rw [List.getElem?_eq_none (by simp; omega), List.getElem?_eq_none (by simp; omega)]
  rfl
theorem ZbP {x y : Int} (hx : 0 ≤ x ∧ x ≤ 255) (hy : 0 ≤ y ∧ y ≤ 255) : (((256 * x.toNat + y.toNat) / 256 : Nat) : Int) = x ∧ (((256 * x.toNat + y.toNat) % 256 : Nat) : Int) = y := by
 constructor <;> omega
theorem Znt {a : List Int} (hb : Byt a) (hl : a.length = 16) : two (grps a) = a := by
 match a, hl with
 | [a0, a1, a2, a3, a4, a5, a6, a7, a8, a9, a10, a11, a12, a13, a14, a15], _ =>
  show [(((256 * a0.toNat + a1.toNat) / 256 : Nat) : Int), (((256 * a0.toNat + a1.toNat) % 256 : Nat) : Int), (((256 * a2.toNat + a3.toNat) / 256 : Nat) : Int), (((256 * a2.toNat + a3.toNat) % 256 : Nat) : Int), (((256 * a4.toNat + a5.toNat) / 256 : Nat) : Int), (((256 * a4.toNat + a5.toNat) % 256 : Nat) : Int), (((256 * a6.toNat + a7.toNat) / 256 : Nat) : Int), (((256 * a6.toNat + a7.toNat) % 256 : Nat) : Int), (((256 * a8.toNat + a9.toNat) / 256 : Nat) : Int), (((256 * a8.toNat + a9.toNat) % 256 : Nat) : Int), (((256 * a10.toNat + a11.toNat) / 256 : Nat) : Int), (((256 * a10.toNat + a11.toNat) % 256 : Nat) : Int), (((256 * a12.toNat + a13.toNat) / 256 : Nat) : Int), (((256 * a12.toNat + a13.toNat) % 256 : Nat) : Int), (((256 * a14.toNat + a15.toNat) / 256 : Nat) : Int), (((256 * a14.toNat + a15.toNat) % 256 : Nat) : Int)] = [a0, a1, a2, a3, a4, a5, a6, a7, a8, a9, a10, a11, a12, a13, a14, a15]
  rw [(ZbP (hb a0 (by simp)) (hb a1 (by simp))).1, (ZbP (hb a0 (by simp)) (hb a1 (by simp))).2, (ZbP (hb a2 (by simp)) (hb a3 (by simp))).1, (ZbP (hb a2 (by simp)) (hb a3 (by simp))).2, (ZbP (hb a4 (by simp)) (hb a5 (by simp))).1, (ZbP (hb a4 (by simp)) (hb a5 (by simp))).2, (ZbP (hb a6 (by simp)) (hb a7 (by simp))).1, (ZbP (hb a6 (by simp)) (hb a7 (by simp))).2, (ZbP (hb a8 (by simp)) (hb a9 (by simp))).1, (ZbP (hb a8 (by simp)) (hb a9 (by simp))).2, (ZbP (hb a10 (by simp)) (hb a11 (by simp))).1, (ZbP (hb a10 (by simp)) (hb a11 (by simp))).2, (ZbP (hb a12 (by simp)) (hb a13 (by simp))).1, (ZbP (hb a12 (by simp)) (hb a13 (by simp))).2, (ZbP (hb a14 (by simp)) (hb a15 (by simp))).1, (ZbP (hb a14 (by simp)) (hb a15 (by simp))).2]
theorem ZoW (g : List Nat) : g.take (zrun g) = List.replicate (zrun g) 0 := by
 unfold zrun
 rw [List.eq_replicate_iff]
 refine ⟨by rw [List.length_take]; have := ZmI g; unfold zrun at this; omega, fun b hb => ?_⟩
 have h1 : g.take (g.takeWhile (· == 0)).length = g.takeWhile (· == 0) := by
  conv => lhs; arg 2; rw [← List.takeWhile_append_dropWhile (p := (· == 0)) (l := g)]
  rw [List.take_left]
 rw [h1] at hb
 have := List.all_eq_true.1 (List.all_takeWhile (p := (· == 0)) (l := g)) b hb
 simpa using this
theorem Zma {g : List Nat} : ∀ i, 0 ≤ (ZdA g i).1 → (ZdA g i).2 = zrun (g.drop (ZdA g i).1.toNat) ∧ 2 ≤ (ZdA g i).2 ∨ (ZdA g i).1 < 0
 | 0, h => by simp [ZdA] at h
 | i + 1, h => by
  unfold ZdA at h ⊢
  split
  ·rename_i hz
   left
   simp only [Int.toNat_natCast]
   refine ⟨trivial, ?_⟩
   have : 1 ≤ (ZdA g i).2 := by
    clear h hz
    induction i with
    | zero => simp [ZdA]
    | succ i ih =>
     unfold ZdA
     split
     ·simp only
      omega
     ·exact ih
   omega
  ·rename_i hz
   rw [if_neg hz] at h
   exact Zma i h
theorem ZgY : ∀ {gs : List Nat}, (∀ x ∈ gs, x < 65536) → Grps (gs.map hex4) gs
 | [], _ => .nil
 | g :: r, h => .cons (Zri (h g (by simp))) (ZgY (fun x hx => h x (by simp [hx])))
theorem ZhZ (gs : List Nat) : colM gs = Zda (gs.map hex4) := by
 cases gs with
 | nil => rfl
 | cons g r =>
  rw [Zqh]
  show _ = hex4 g ++ Zdb (r.map hex4)
  simp [cols, Zdb, List.flatMap_map]
theorem ZqI {ms : List (List Int)} {ns : List Nat} (h : Grps ms ns) : (Zdb ms).length ≤ 5 * ms.length := by
 induction h with
 | nil => simp [Zdb]
 | @cons m n ms ns g h ih =>
  have := g.q
  rw [Zd6]
  simp only [List.length_cons, List.length_append]
  omega
theorem ZkD {ms : List (List Int)} {ns : List Nat} (h : Grps ms ns) : (Zda ms).length ≤ 5 * ms.length := by
 cases h with
 | nil => simp [Zda]
 | @cons m n ms ns g h =>
  have h1 := ZqI h
  have := g.q
  show (m ++ Zdb ms).length ≤ _
  simp only [List.length_cons, List.length_append]
  omega
theorem ZhW {l : List Int} {q : Int} (h : q ∈ l) : Za5 l q < l.length := by
 have h1 := Zmn l q
 refine Nat.lt_of_le_of_ne h1 fun e => ?_
 obtain ⟨j, hj, hq⟩ := List.getElem_of_mem h
 have h2 := Zmm (l := l) (q := q) (j := j) (by omega)
 rw [List.getD, List.getElem?_eq_getElem hj] at h2
 exact h2 hq
theorem Zoy {ms : List (List Int)} {ns : List Nat} (h : Grps ms ns) (h8 : ns.length = 8) : ∃ ip : Za1, ZcF (Zda ms) = .ok ip ∧ ip.V = 6 ∧ ip.A.l = two ns := by
 have hl := h.len
 have h1 := ZkD h
 have hm : (58 : Int) ∈ Zda ms := by
  cases h with
  | nil => cases h8
  | cons g h =>
   cases h with
   | nil => cases h8
   | cons g2 h =>
    show _ ∈ _ ++ Zdb (_ :: _)
    rw [Zd6]
    simp
 unfold ZcF
 rw [if_neg (by omega), if_pos (ZhW hm), Zos h h8]
 refine ⟨_, rfl, rfl, ?_⟩
 show two (S6.words _ _) = _
 rw [Zoe (by simp only; omega) h8]
theorem ZpC {ms ks : List (List Int)} {ns qs : List Nat} (h : Grps ms ns) (h' : Grps ks qs) (h7 : ns.length + qs.length ≤ 7) : ∃ ip : Za1, ZcF (Zda ms ++ 58 :: 58 :: Zda ks) = .ok ip ∧ ip.V = 6 ∧ ip.A.l = two (ns ++ (List.replicate (8 - (ns.length + qs.length)) 0 ++ qs)) := by
 have hl := h.len
 have hl' := h'.len
 have h1 := ZkD h
 have h2 := ZkD h'
 have hm : (58 : Int) ∈ Zda ms ++ 58 :: 58 :: Zda ks := by simp
 obtain ⟨e, he⟩ := Zpn h h' h7
 unfold ZcF
 rw [if_neg (by simp only [List.length_append, List.length_cons]; omega), if_pos (ZhW hm), he]
 refine ⟨_, rfl, rfl, ?_⟩
 show two (S6.words _ _) = _
 rw [Zlx h7]
theorem Zsm {x ip : Za1} (hv : x.V = ip.V) (ha : x.A.l = ip.A.l) : x = ip := by
 obtain ⟨V, A⟩ := x
 obtain ⟨V', A'⟩ := ip
 have hv : V = V' := hv
 have ha : A = A' := Vec.eq ha
 rw [hv, ha]
theorem ZtM {ip : Za1} (hb : Byt ip.A.l) (hv : ip.V = 6) (hm : ip.A.l.take 12 ≠ [0, 0, 0, 0, 0, 0, 0, 0, 0, 0, 255, 255]) : ZcF (prIP ip) = .ok ip := by
 have hlt := Zji hb
 have h8 := ZiH ip.A.l
 unfold prIP
 rw [if_neg (by omega), if_neg hm]
 by_cases hg : (ZdI (grps ip.A.l)).1 < 0
 ·rw [if_pos hg, ZhZ]
  obtain ⟨x, h1, h2, h3⟩ := Zoy (ZgY hlt) h8
  rw [h1]
  rw [Znt hb ip.A.h] at h3
  rw [Zsm (h2.trans hv.symm) h3]
 ·rw [if_neg hg]
  have hinv := Zhl h8 8 (Nat.le_refl _)
  have hrun := Zma (g := grps ip.A.l) 8 (by unfold ZdI at hg; omega)
  unfold ZdI at hg ⊢
  generalize ZdA (grps ip.A.l) 8 = q at hg hinv hrun ⊢
  obtain ⟨s, k⟩ := q
  simp only at hg hinv hrun ⊢
  obtain ⟨hk, h2⟩ : k = zrun ((grps ip.A.l).drop s.toNat) ∧ 2 ≤ k := by
   rcases hrun with h | h
   ·exact h
   ·exact absurd h hg
  have ht : ((grps ip.A.l).drop s.toNat).take k = List.replicate k 0 := by
   rw [hk]
   exact ZoW _
  have e1 : grps ip.A.l = (grps ip.A.l).take s.toNat ++ (List.replicate k 0 ++ (grps ip.A.l).drop (s.toNat + k)) := by
   rw [← ht, ← List.drop_drop, List.take_append_drop, List.take_append_drop]
  have g1 := ZgY (gs := (grps ip.A.l).take s.toNat) (fun x hx => hlt x (List.mem_of_mem_take hx))
  have g2 := ZgY (gs := (grps ip.A.l).drop (s.toNat + k)) (fun x hx => hlt x (List.mem_of_mem_drop hx))
  have l1 : ((grps ip.A.l).take s.toNat).length = s.toNat := by
   rw [List.length_take]
   omega
  have l2 : ((grps ip.A.l).drop (s.toNat + k)).length = 8 - (s.toNat + k) := by rw [List.length_drop, h8]
  obtain ⟨x, p1, p2, p3⟩ := ZpC g1 g2 (by omega)
  rw [l1, l2, show 8 - (s.toNat + (8 - (s.toNat + k))) = k by omega, ← e1, Znt hb ip.A.h] at p3
  rw [ZhZ, ZhZ]
  have e2 : Zda (((grps ip.A.l).take s.toNat).map hex4) ++ [58, 58] ++ Zda (((grps ip.A.l).drop (s.toNat + k)).map hex4) = Zda (((grps ip.A.l).take s.toNat).map hex4) ++ 58 :: 58 :: Zda (((grps ip.A.l).drop (s.toNat + k)).map hex4) := by simp
  rw [e2, p1, Zsm (p2.trans hv.symm) p3]
theorem Zss {c : Int} (h : 48 ≤ c ∧ c ≤ 57) : ZdV c = true := by
 unfold ZdV hexV
 rw [if_pos h]
 exact decide_eq_true (by omega)
theorem Zpm {pre : List Int} {a : Nat} {r : List Nat} {f : Nat} {op : Bool} {gs : List Nat} {gap : Int} (hr : r.length = 3) (ha : a ≤ 255) (hx : ∀ x ∈ r, x ≤ 255) (hgs : gs ≠ [] ∨ gap ≥ 0) (hroom : 2 ≤ (S6.mk pre.length gs gap).room) (hfin : ¬ (gap < 0 ∧ (gs ++ ZfD (a :: r)).length ≠ 8)) :
  Zc9 (pre ++ (dec3 a ++ dots r)) (f + 1) op ⟨pre.length, gs, gap⟩ = .ok ⟨pre.length, gs ++ ZfD (a :: r), gap⟩ := by
 have h3 := ZeZ ⟨a, by omega⟩
 have h4 : 0 < (dec3 a).length := h3.2.2.2.1
 obtain ⟨b, r', rfl⟩ : ∃ b r', r = b :: r' := by
  cases r with
  | nil => cases hr
  | cons b r' => exact ⟨b, r', rfl⟩
 have hru : runE ZdV (pre ++ (dec3 a ++ dots (b :: r'))) pre.length = pre.length + (dec3 a).length := ZlO (fun c hc => Zss (Zhw (by omega) hc)) (by
  intro c r h
  rw [Zfn] at h
  cases h
  decide)
 have hlen : pre.length + (dec3 a).length < (pre ++ (dec3 a ++ dots (b :: r'))).length := by
  rw [Zfn]
  simp only [List.length_append, List.length_cons]
  omega
 have hdot : (pre ++ (dec3 a ++ dots (b :: r'))).getD (pre.length + (dec3 a).length) 0 = 46 := by
  rw [List.getD, ← List.append_assoc, List.getElem?_append_right (by simp), show pre.length + (dec3 a).length - (pre ++ dec3 a).length = 0 by simp, Zfn]
  rfl
 have hg : ZeI (pre ++ (dec3 a ++ dots (b :: r'))) ⟨pre.length, gs, gap⟩ = .ok (true, ⟨pre.length, gs ++ ZfD (a :: b :: r'), gap⟩) := by
  unfold ZeI
  simp only
  rw [hru, if_neg (by omega), if_pos ⟨hlen, hdot, hgs⟩, if_neg (by omega), ZnS hr ha hx]
 unfold Zc9
 rw [if_neg (fun h => by have := h.1; simp only at this; omega), hg]
 simp only
 rw [if_pos (.inl trivial), if_neg hfin]
theorem Zov : Grp [102, 102, 102, 102] 65535 := ⟨by decide, by decide, by decide, by decide⟩
theorem ZlS {a : Nat} {r : List Nat} (hr : r.length = 3) (ha : a ≤ 255) (hx : ∀ x ∈ r, x ≤ 255) : ∃ e, Zfy ([58, 58, 102, 102, 102, 102, 58] ++ (dec3 a ++ dots r)) = .ok ⟨e, 65535 :: ZfD (a :: r), 0⟩ := by
 refine ⟨7, ?_⟩
 have hd : Zce ([58, 58, 102, 102, 102, 102, 58] ++ (dec3 a ++ dots r)) ⟨0, [], -1⟩ = .ok (true, ⟨2, [], 0⟩) := by
  unfold Zce
  rw [if_neg (by unfold Zix; simp), if_neg (by simp)]
  rfl
 have h1 : ∀ c s, dec3 a ++ dots r = c :: s → c ≠ 58 := by
  intro c s h
  have h3 := ZeZ ⟨a, by omega⟩
  have h4 : 0 < (dec3 a).length := h3.2.2.2.1
  cases hd3 : dec3 a with
  | nil => rw [hd3] at h4; cases h4
  | cons x y =>
   rw [hd3] at h
   cases h
   have := Zhw (n := a) (by omega) (c := c) (by rw [hd3]; simp)
   omega
 have hp4 : (ZfD (a :: r)).length = 2 := by
  match r, hr with
  | [b, c, d], _ => rfl
 unfold Zfy
 rw [hd]
 simp only
 have h2 := Zi2 (pre := [58, 58]) (post := dec3 a ++ dots r) (f := ([58, 58, 102, 102, 102, 102, 58] ++ (dec3 a ++ dots r)).length) (op := decide ((0 : Int) ≥ 0)) (gs := []) (gap := 0) Zov (by decide) h1
 refine h2.trans ?_
 have h3 := Zpm (pre := [58, 58, 102, 102, 102, 102, 58]) (f := (dec3 a ++ dots r).length + 6) (op := false) (gs := [65535]) (gap := 0) hr ha hx (.inr (by omega)) (by decide) (fun h => absurd h.1 (by omega))
 have e : ([58, 58, 102, 102, 102, 102, 58] ++ (dec3 a ++ dots r)).length = (dec3 a ++ dots r).length + 6 + 1 := by
  simp only [List.length_append, List.length_cons, List.length_nil]
  omega
 rw [e]
 exact h3
theorem ZpE {a b c d : Int} (ha : 0 ≤ a ∧ a ≤ 255) (hb : 0 ≤ b ∧ b ≤ 255) (hc : 0 ≤ c ∧ c ≤ 255) (hd : 0 ≤ d ∧ d ≤ 255) : two (ZfD [a.toNat, b.toNat, c.toNat, d.toNat]) = [a, b, c, d] := by
 show [(((256 * a.toNat + b.toNat) / 256 : Nat) : Int), (((256 * a.toNat + b.toNat) % 256 : Nat) : Int), (((256 * c.toNat + d.toNat) / 256 : Nat) : Int), (((256 * c.toNat + d.toNat) % 256 : Nat) : Int)] = _
 rw [(ZbP ha hb).1, (ZbP ha hb).2, (ZbP hc hd).1, (ZbP hc hd).2]
theorem Znl {ip : Za1} (hb : Byt ip.A.l) (hv : ip.V = 6) (hm : ip.A.l.take 12 = [0, 0, 0, 0, 0, 0, 0, 0, 0, 0, 255, 255]) : ZcF (prIP ip) = .ok ip := by
 have hl := ip.A.h
 have e0 : ip.A.l = [0, 0, 0, 0, 0, 0, 0, 0, 0, 0, 255, 255] ++ ip.A.l.drop 12 := by rw [← hm, List.take_append_drop]
 have hld : (ip.A.l.drop 12).length = 4 := by rw [List.length_drop, hl]
 have hbd : Byt (ip.A.l.drop 12) := fun x hx => hb x (List.mem_of_mem_drop hx)
 unfold prIP
 rw [if_neg (by omega), if_pos hm]
 generalize hD : ip.A.l.drop 12 = D at e0 hld hbd
 match D, hld with
 | [a, b, c, d], _ =>
  have ha := hbd a (by simp)
  have hb' := hbd b (by simp)
  have hc := hbd c (by simp)
  have hd := hbd d (by simp)
  have hx : ∀ x ∈ [b, c, d].map Int.toNat, x ≤ 255 := by
   intro x hx
   simp only [List.map_cons, List.map_nil, List.mem_cons, List.not_mem_nil, or_false] at hx
   rcases hx with rfl | rfl | rfl <;> omega
  obtain ⟨e, he⟩ := ZlS (a := a.toNat) (r := [b, c, d].map Int.toNat) rfl (by omega) hx
  have h1 := Zld hx
  have h2 := Zlh (n := a.toNat) (by omega)
  simp only [List.length_map, List.length_cons, List.length_nil] at h1
  rw [Zni]
  unfold ZcF
  rw [if_neg (by simp only [List.length_append, List.length_cons, List.length_nil]; omega), if_pos (ZhW (by simp)), he]
  have hw : (S6.mk e (65535 :: ZfD (a.toNat :: [b, c, d].map Int.toNat)) 0).words (65535 :: ZfD (a.toNat :: [b, c, d].map Int.toNat)).length = [0, 0, 0, 0, 0] ++ (65535 :: ZfD [a.toNat, b.toNat, c.toNat, d.toNat]) := Zlx (e := e) (ns := []) (qs := 65535 :: ZfD (a.toNat :: [b, c, d].map Int.toNat)) (by simp [ZfD])
  show Except.ok (Za1.mk 6 (S6.mk e (65535 :: ZfD (a.toNat :: [b, c, d].map Int.toNat)) 0).bytes) = _
  have hA : (S6.mk e (65535 :: ZfD (a.toNat :: [b, c, d].map Int.toNat)) 0).bytes.l = ip.A.l := by
   show two (S6.words _ _) = _
   rw [hw, e0]
   show [0, 0, 0, 0, 0, 0, 0, 0, 0, 0, 255, 255] ++ two (ZfD [a.toNat, b.toNat, c.toNat, d.toNat]) = _
   rw [ZpE ha hb' hc hd]
  exact congrArg Except.ok (Zsm hv.symm hA)
theorem ZiW {ip : Za1} (h : ZdH ip > 0) : ip.V = 6 ∨ (ip.V = 4 ∧ ip.A.l.drop 4 = List.replicate 12 0) := by
 unfold ZdH at h
 split at h
 ·left
  assumption
 ·split at h
  ·right
   assumption
  ·omega
theorem Znc {ip : Za1} (hb : Byt ip.A.l) (h : ZdH ip > 0) : ZcF (prIP ip) = .ok ip := by
 rcases ZiW h with h | ⟨h, h2⟩
 ·by_cases hm : ip.A.l.take 12 = [0, 0, 0, 0, 0, 0, 0, 0, 0, 0, 255, 255]
  ·exact Znl hb h hm
  ·exact ZtM hb h hm
 ·have e : prIP ip = dotM (ip.A.l.take 4) := by
   unfold prIP
   rw [if_pos h]
  rw [e]
  exact ZtN hb h h2
theorem Zkt {pre post : List Int} {q : Int} (h : ∀ c ∈ pre, c ≠ q) : Za5 (pre ++ q :: post) q = pre.length := by
 have := ZlO (p := fun c => decide (c ≠ q)) (pre := []) (mid := pre) (post := q :: post) (fun c hc => decide_eq_true (h c hc)) (by
  intro c r hh
  cases hh
  simp)
 unfold Za5
 simpa using this
theorem ZrL {c : Int} (h : ZdV c = true) : c ≠ 47 := by
 rintro rfl
 exact absurd h (by decide)
theorem ZqJ {ms : List (List Int)} {ns : List Nat} (h : Grps ms ns) : ∀ c ∈ Zdb ms, c ≠ 47 := by
 induction h with
 | nil => intro c hc; cases hc
 | @cons m n ms ns g h ih =>
  intro c hc
  rw [Zd6] at hc
  rcases List.mem_cons.1 hc with rfl | hc
  ·decide
  ·rcases List.mem_append.1 hc with hc | hc
   ·exact ZrL (g.x c hc)
   ·exact ih c hc
theorem ZkE {ms : List (List Int)} {ns : List Nat} (h : Grps ms ns) : ∀ c ∈ Zda ms, c ≠ 47 := by
 cases h with
 | nil => intro c hc; cases hc
 | @cons m n ms ns g h =>
  intro c hc
  rcases List.mem_append.1 (show c ∈ m ++ Zdb ms from hc) with hc | hc
  ·exact ZrL (g.x c hc)
  ·exact ZqJ h c hc
theorem Zqf {a : List Int} (hb : Byt a) : ∀ c ∈ dotM a, c ≠ 47 := by
 intro c hc
 cases a with
 | nil => cases hc
 | cons x r =>
  rw [Zni] at hc
  rcases List.mem_append.1 hc with hc | hc
  ·have h1 := (hb x (by simp)).2
   have := Zhw (n := x.toNat) (by omega) hc
   omega
  ·rcases ZnZ (fun y hy => by
    obtain ⟨z, hz, rfl⟩ := List.mem_map.1 hy
    have := (hb z (by simp [hz])).2
    omega) hc with h | h <;> omega
theorem Zpy {ip : Za1} (hb : Byt ip.A.l) : ∀ c ∈ prIP ip, c ≠ 47 := by
 have hlt := Zji hb
 unfold prIP
 split
 ·exact Zqf (fun x hx => hb x (List.mem_of_mem_take hx))
 ·split
  ·intro c hc
   rcases List.mem_append.1 hc with hc | hc
   ·simp only [List.mem_cons, List.not_mem_nil, or_false] at hc
    omega
   ·exact Zqf (fun x hx => hb x (List.mem_of_mem_drop hx)) c hc
  ·split
   ·rw [ZhZ]
    exact ZkE (ZgY hlt)
   ·intro c hc
    rw [ZhZ, ZhZ] at hc
    rcases List.mem_append.1 hc with hc | hc
    ·rcases List.mem_append.1 hc with hc | hc
     ·exact ZkE (ZgY (fun x hx => hlt x (List.mem_of_mem_take hx))) c hc
     ·simp only [List.mem_cons, List.not_mem_nil, or_false] at hc
      omega
    ·exact ZkE (ZgY (fun x hx => hlt x (List.mem_of_mem_drop hx))) c hc
theorem Zoz {l : List Int} {ip : Za1} (h : ZcF l = .ok ip) : l.length ≤ 45 := by
 unfold ZcF at h
 split at h
 ·cases h
 ·omega
theorem Zpw {p : Zak} (hb : Byt p.IP.A.l) (h : vpM p = 0) : Ziu (prIP p.IP ++ 47 :: dec3 p.Len.toNat) = .ok p := by
 obtain ⟨h1, h2, h3, h4⟩ := ZhH h
 have h5 := Zfx p.IP
 have hb0 := Znc hb (by omega)
 have hlen := Zoz hb0
 have hd := Zlh (n := p.Len.toNat) (by omega)
 have hf := Zkt (post := dec3 p.Len.toNat) (Zpy hb)
 unfold Ziu
 rw [if_neg (by simp only [List.length_append, List.length_cons]; omega), hf, if_pos (by simp), List.take_left, hb0]
 simp only
 have hn := ZmZ (pre := prIP p.IP ++ [47]) (n := p.Len.toNat) (post := []) (most := ZdH p.IP) (wrong := 45) (by omega) (by omega) (by intro c r hh; cases hh)
 have e1 : prIP p.IP ++ [47] ++ (dec3 p.Len.toNat ++ []) = prIP p.IP ++ 47 :: dec3 p.Len.toNat := by simp
 have e2 : (prIP p.IP ++ [47]).length = (prIP p.IP).length + 1 := by simp
 rw [e1, e2] at hn
 rw [hn]
 simp only
 have e3 : (⟨p.IP, ((p.Len.toNat : Nat) : Int)⟩ : Zak) = p := by
  rw [Int.toNat_of_nonneg h2]
 rw [if_neg (by simp; omega), e3, if_neg (fun hh => hh h)]
end Go.Proofs.YtpmhinidiplhiaaDoor.Lx
