/- The evenness of fair queues: of two classes that are ready, what was served of one and the other, by their quanta, with their deficits and with whose quantum comes next, makes a sum that no turn changes; its bounds. -/
import Derived.Test.YtgddbpmfendaeaaQueueTok
set_option linter.unusedVariables false
set_option linter.unusedSimpArgs false
namespace Go.Proofs.Ytgddbpmfendaeaa.Lx
open Go Go.Proofs Go.RowKit

/-- from place P on, round and round: how far class i is -/
def dn (n P i : Nat) : Nat := if P ≤ i then i - P else i + n - P
namespace QM
def P (m : QM) : Nat := if m.given then m.at_ + 1 else m.at_
def dd (m : QM) (i : Nat) : Int := (m.cl.getD i default).d
def psi (m : QM) (i j : Nat) (Qi Qj : Int) : Int := (if dn m.n m.P i < dn m.n m.P j then Qi * Qj else 0) + m.dd i * Qj - m.dd j * Qi
theorem dd_at {m : QM} {i : Nat} {k : Cl} (h : m.cl[i]? = some k) : m.dd i = k.d := by unfold dd; rw [List.getD, h]; rfl
theorem dd_set {m : QM} {k : Cl} {i : Nat} (h : m.at_ < m.n) : (m.setc k).dd i = if i = m.at_ then k.d else m.dd i := by
  split
  · rename_i e
    subst e
    exact dd_at (setc_own h)
  · rename_i e
    unfold dd
    rw [List.getD, List.getD, setc_get e]
theorem dd_cur {m : QM} (h : m.at_ < m.n) : m.dd m.at_ = m.cur.d := dd_at (cur_at h)
theorem gives_given {m : QM} : m.gives.given = true := by
  unfold gives
  split
  · assumption
  · rfl
end QM
theorem mul_shift (a q r : Int) : (a + q) * r = q * r + a * r := by rw [Int.add_mul, Int.add_comm]
theorem psi_gives {m : QM} {i j : Nat} {Qi Qj : Int} (h0 : m.at_ < m.n) (hi : i < m.n) (hj : j < m.n) (hij : i ≠ j) (hQi : i = m.at_ → Qi = m.cur.c.Quantum) (hQj : j = m.at_ → Qj = m.cur.c.Quantum) : m.gives.psi i j Qi Qj = m.psi i j Qi Qj := by
  cases hg : m.given with
  | true => unfold QM.gives; rw [if_pos hg]
  | false =>
    have e : m.gives = { m.setc { m.cur with d := m.cur.d + m.cur.c.Quantum } with given := true } := by unfold QM.gives; rw [if_neg (by rw [hg]; simp)]
    have hd : ∀ t, m.gives.dd t = if t = m.at_ then m.cur.d + m.cur.c.Quantum else m.dd t := fun t => by
      have := QM.dd_set (m := m) (k := { m.cur with d := m.cur.d + m.cur.c.Quantum }) (i := t) h0
      rw [e]
      exact this
    have hP : m.gives.P = m.at_ + 1 := by rw [e]; rfl
    have hP0 : m.P = m.at_ := by unfold QM.P; rw [hg]; rfl
    unfold QM.psi
    rw [hd i, hd j, hP, hP0, QM.gives_n]
    have hc := QM.dd_cur h0
    by_cases e1 : i = m.at_
    · have e2 : ¬ j = m.at_ := fun h => hij (e1.trans h.symm)
      rw [if_pos e1, if_neg e2, ← hQi e1, e1, hc]
      have n1 : ¬ dn m.n (m.at_ + 1) m.at_ < dn m.n (m.at_ + 1) j := by unfold dn; (repeat' split) <;> omega
      have n2 : dn m.n m.at_ m.at_ < dn m.n m.at_ j := by unfold dn; (repeat' split) <;> omega
      rw [if_neg n1, if_pos n2, mul_shift]
      omega
    · by_cases e2 : j = m.at_
      · rw [if_neg e1, if_pos e2, ← hQj e2, e2, hc]
        have n1 : dn m.n (m.at_ + 1) i < dn m.n (m.at_ + 1) m.at_ := by unfold dn; (repeat' split) <;> omega
        have n2 : ¬ dn m.n m.at_ i < dn m.n m.at_ m.at_ := by unfold dn; (repeat' split) <;> omega
        rw [if_pos n1, if_neg n2, mul_shift, Int.mul_comm Qj Qi]
        omega
      · rw [if_neg e1, if_neg e2]
        have n1 : dn m.n (m.at_ + 1) i < dn m.n (m.at_ + 1) j ↔ dn m.n m.at_ i < dn m.n m.at_ j := by unfold dn; (repeat' split) <;> omega
        simp only [n1]
theorem psi_onward {m : QM} {i j : Nat} {Qi Qj : Int} (h0 : m.at_ < m.n) (hi : i < m.n) (hj : j < m.n) (hr : i = m.at_ ∨ j = m.at_ → m.cur.rdy = true ∧ m.given = true) : m.onward.psi i j Qi Qj = m.psi i j Qi Qj := by
  have hd : ∀ t, (t = m.at_ → m.cur.rdy = true) → m.onward.dd t = m.dd t := by
    intro t ht
    by_cases e : t = m.at_
    · have h1 := QM.onward_own h0
      rw [if_neg (by rw [ht e]; simp)] at h1
      rw [e, QM.dd_at h1, QM.dd_cur h0]
    · unfold QM.dd
      rw [List.getD, List.getD, QM.onward_get e]
  have hP : m.onward.P = (m.at_ + 1) % m.n := rfl
  unfold QM.psi
  rw [hd i (fun e => (hr (.inl e)).1), hd j (fun e => (hr (.inr e)).1), hP, QM.onward_n]
  have hm := QM.mod_next h0
  have n1 : dn m.n ((m.at_ + 1) % m.n) i < dn m.n ((m.at_ + 1) % m.n) j ↔ dn m.n m.P i < dn m.n m.P j := by
    rw [hm]
    have h1 : ∀ t, t < m.n → dn m.n (if m.at_ + 1 = m.n then 0 else m.at_ + 1) t = dn m.n (m.at_ + 1) t := by
      intro t ht
      unfold dn
      (repeat' split) <;> omega
    rw [h1 i hi, h1 j hj]
    unfold QM.P
    cases hg : m.given with
    | true => simp
    | false =>
      have e1 : i ≠ m.at_ := fun e => by have := (hr (.inl e)).2; rw [hg] at this; cases this
      have e2 : j ≠ m.at_ := fun e => by have := (hr (.inr e)).2; rw [hg] at this; cases this
      simp only [Bool.false_eq_true, if_false]
      unfold dn
      (repeat' split) <;> omega
  simp only [n1]
theorem psi_turns {m m' : QM} (h : QM.Turns m m') : ∀ {i j : Nat} {ki kj : Cl}, m.Ok → m.cl[i]? = some ki → m.cl[j]? = some kj → ki.rdy = true → kj.rdy = true → i ≠ j → m'.psi i j ki.c.Quantum kj.c.Quantum = m.psi i j ki.c.Quantum kj.c.Quantum := by
  have key : ∀ {m : QM} {i : Nat} {k : Cl}, m.at_ < m.n → m.cl[i]? = some k → i = m.at_ → k = m.cur := by
    intro m i k h0 hk e
    rw [e, QM.cur_at h0] at hk
    exact (Option.some.inj hk).symm
  have mv : ∀ {m m2 : QM} {i : Nat} {k : Cl}, m2.cl.map (fun k => (k.rdy, k.c)) = m.cl.map (fun k => (k.rdy, k.c)) → m.cl[i]? = some k → ∃ k2, m2.cl[i]? = some k2 ∧ k2.rdy = k.rdy ∧ k2.c = k.c := by
    intro m m2 i k h hk
    have := congrArg (fun l => l[i]?) h
    simp only [List.getElem?_map, hk, Option.map_some] at this
    cases hc : m2.cl[i]? with
    | none => rw [hc] at this; cases this
    | some k2 =>
      rw [hc] at this
      simp only [Option.map_some, Option.some.injEq, Prod.mk.injEq] at this
      exact ⟨k2, rfl, this⟩
  induction h with
  | take hr hd =>
    intro i j ki kj ok hi hj ri rj hij
    exact psi_gives ok.n0 (List.getElem?_eq_some_iff.1 hi).1 (List.getElem?_eq_some_iff.1 hj).1 hij (fun e => by rw [key ok.n0 hi e]) (fun e => by rw [key ok.n0 hj e])
  | pass1 hr hd h ih =>
    intro i j ki kj ok hi hj ri rj hij
    have okg := ok.gives hr
    have oko := okg.onward (fun _ => by omega)
    have hi' := (List.getElem?_eq_some_iff.1 hi).1
    have hj' := (List.getElem?_eq_some_iff.1 hj).1
    obtain ⟨gi, gi1, gi2, gi3⟩ := mv (map_gives (fun k => (k.rdy, k.c)) (fun _ _ => rfl) ok.n0) hi
    obtain ⟨gj, gj1, gj2, gj3⟩ := mv (map_gives (fun k => (k.rdy, k.c)) (fun _ _ => rfl) ok.n0) hj
    obtain ⟨oi, oi1, oi2, oi3⟩ := mv (map_onward (fun k => (k.rdy, k.c)) (fun _ _ => rfl) okg.n0) gi1
    obtain ⟨oj, oj1, oj2, oj3⟩ := mv (map_onward (fun k => (k.rdy, k.c)) (fun _ _ => rfl) okg.n0) gj1
    have h1 := ih oko oi1 oj1 (by rw [oi2, gi2]; exact ri) (by rw [oj2, gj2]; exact rj) hij
    rw [oi3, gi3, oj3, gj3] at h1
    rw [h1, psi_onward okg.n0 (by rw [QM.gives_n]; exact hi') (by rw [QM.gives_n]; exact hj') (fun e => ⟨?_, QM.gives_given⟩)]
    · exact psi_gives ok.n0 hi' hj' hij (fun e => by rw [key ok.n0 hi e]) (fun e => by rw [key ok.n0 hj e])
    · rcases e with e | e
      · exact (key okg.n0 gi1 e) ▸ (gi2.trans ri)
      · exact (key okg.n0 gj1 e) ▸ (gj2.trans rj)
  | pass0 hr h ih =>
    intro i j ki kj ok hi hj ri rj hij
    have oko := ok.onward (fun h => by rw [hr] at h; cases h)
    have hi' := (List.getElem?_eq_some_iff.1 hi).1
    have hj' := (List.getElem?_eq_some_iff.1 hj).1
    obtain ⟨oi, oi1, oi2, oi3⟩ := mv (map_onward (fun k => (k.rdy, k.c)) (fun _ _ => rfl) ok.n0) hi
    obtain ⟨oj, oj1, oj2, oj3⟩ := mv (map_onward (fun k => (k.rdy, k.c)) (fun _ _ => rfl) ok.n0) hj
    have h1 := ih oko oi1 oj1 (by rw [oi2]; exact ri) (by rw [oj2]; exact rj) hij
    rw [oi3, oj3] at h1
    rw [h1]
    refine psi_onward ok.n0 hi' hj' (fun e => ?_)
    rcases e with e | e
    · have := key ok.n0 hi e
      rw [← this, ri] at hr
      cases hr
    · have := key ok.n0 hj e
      rw [← this, rj] at hr
      cases hr
/-- what a Pop does to the sum -/
theorem psi_pop {m m2 : QM} {y c : Int} (h : Pops m (y, c, true) m2) (ok : m.Ok) {i j : Nat} {ki kj : Cl} (hi : m.cl[i]? = some ki) (hj : m.cl[j]? = some kj) (ri : ki.rdy = true) (rj : kj.rdy = true) (hij : i ≠ j)
    {x : queue_item} {q' : List queue_item} (hq : m.qs[c.toNat]? = some (x :: q')) (hne : q' ≠ [] ∨ (c ≠ i ∧ c ≠ j)) : m2.psi i j ki.c.Quantum kj.c.Quantum = m.psi i j ki.c.Quantum kj.c.Quantum - (if c = i then x.size * kj.c.Quantum else 0) + (if c = j then x.size * ki.c.Quantum else 0) := by
  cases h with
  | item h ht hx =>
    rename_i m' x2 q2
    have h1 := psi_turns ht ok hi hj ri rj hij
    obtain ⟨ok', hn, hr, hd⟩ := ht.ok ok
    have e := Turns.qs ht ok
    have hc := QM.cur_at ok'.n0
    rw [Int.toNat_natCast, ← e, qs_get hc, hx] at hq
    cases hq
    have hhd : m'.cur.hd = x.size := by unfold Cl.hd; rw [hx]
    have htl : m'.cur.q.tail = q' := by rw [hx]; rfl
    rw [← h1]
    have hdt : ∀ t, m'.take.dd t = if t = m'.at_ then (if q' = [] then 0 else m'.cur.d - x.size) else m'.dd t := fun t => by
      have := QM.dd_set (m := m') (k := { m'.cur with q := m'.cur.q.tail, tok := if m'.cur.c.Rate > 0 then m'.cur.tok - m'.cur.hd else m'.cur.tok, d := if m'.cur.q.tail = [] then 0 else m'.cur.d - m'.cur.hd }) (i := t) ok'.n0
      rw [hhd, htl] at this
      unfold QM.take
      simp only
      rw [hhd, htl]
      exact this
    have hP : m'.take.P = m'.P := rfl
    have hcd := QM.dd_cur ok'.n0
    unfold QM.psi
    rw [hdt i, hdt j, hP, take_n, hn]
    by_cases e1 : i = m'.at_
    · have e2 : ¬ j = m'.at_ := fun h => hij (e1.trans h.symm)
      have f1 : ((m'.at_ : Nat) : Int) = (i : Int) := by rw [e1]
      have f2 : ¬ ((m'.at_ : Nat) : Int) = (j : Int) := fun h => e2 (by omega)
      have g : q' ≠ [] := by
        rcases hne with h | h
        · exact h
        · exact absurd f1 h.1
      rw [if_pos e1, if_neg e2, if_neg g, if_pos f1, if_neg f2, Int.sub_mul, e1, hcd]
      omega
    · by_cases e2 : j = m'.at_
      · have f1 : ¬ ((m'.at_ : Nat) : Int) = (i : Int) := fun h => e1 (by omega)
        have f2 : ((m'.at_ : Nat) : Int) = (j : Int) := by rw [e2]
        have g : q' ≠ [] := by
          rcases hne with h | h
          · exact h
          · exact absurd f2 h.2
        rw [if_neg e1, if_pos e2, if_neg g, if_neg f1, if_pos f2, Int.sub_mul, e2, hcd]
        omega
      · have f1 : ¬ ((m'.at_ : Nat) : Int) = (i : Int) := fun h => e1 (by omega)
        have f2 : ¬ ((m'.at_ : Nat) : Int) = (j : Int) := fun h => e2 (by omega)
        rw [if_neg e1, if_neg e2, if_neg f1, if_neg f2]
        omega
/-! ### bounds -/
def DD (m : QM) : Prop := ∀ k ∈ m.cl, k.d ≤ 65535 + k.c.Quantum
theorem DD.gives {m : QM} (h : DD m) (ok : m.Ok) : DD m.gives := by
  unfold QM.gives
  split
  · exact h
  · rename_i hg
    intro k hk
    have hlow := ok.low m.at_ _ (QM.cur_at ok.n0) (.inr (by simpa using hg))
    rcases List.mem_or_eq_of_mem_set hk with hk | rfl
    · exact h k hk
    · simp only
      omega
theorem DD.onward {m : QM} (h : DD m) (ok : m.Ok) : DD m.onward := by
  unfold QM.onward
  simp only
  split
  · intro k hk
    have hc := h _ (QM.cur_mem ok.n0)
    rcases List.mem_or_eq_of_mem_set hk with hk | rfl
    · exact h k hk
    · simp only
      omega
  · exact h
theorem DD.turns {m m' : QM} (t : QM.Turns m m') (ok : m.Ok) (h : DD m) : DD m' := by
  induction t with
  | take hr hd => exact h.gives ok
  | pass1 hr hd t ih =>
    have okg := ok.gives hr
    exact ih (okg.onward (fun _ => by omega)) ((h.gives ok).onward okg)
  | pass0 hr t ih => exact ih (ok.onward (fun h => by rw [hr] at h; cases h)) (h.onward ok)
theorem DD.pop {m m2 : QM} {r : Int × Int × Bool} (p : Pops m r m2) (ok : m.Ok) (h : DD m) : DD m2 := by
  cases p with
  | none _ => exact h
  | item h' ht hx =>
    rename_i m' x2 q2
    obtain ⟨ok', hn, hr, hd⟩ := ht.ok ok
    have h2 := DD.turns ht ok h
    have hc := h2 _ (QM.cur_mem ok'.n0)
    have okc := ok'.cl _ (QM.cur_mem ok'.n0)
    have hh := okc.hd
    have hq := (okClass_iff.1 okc.c).1
    unfold QM.take
    intro k hk
    rcases List.mem_or_eq_of_mem_set hk with hk | rfl
    · exact h2 k hk
    · simp only
      split <;> omega
theorem DD.of {m m2 : QM} (h : DD m) (e : m2.cl.map (fun k => (k.d, k.c)) = m.cl.map (fun k => (k.d, k.c))) : DD m2 := by
  intro k hk
  have : (k.d, k.c) ∈ m2.cl.map (fun k => (k.d, k.c)) := List.mem_map.2 ⟨k, hk, rfl⟩
  rw [e] at this
  obtain ⟨k', hk', e'⟩ := List.mem_map.1 this
  have := h k' hk'
  have e1 : k'.d = k.d := congrArg Prod.fst e'
  have e2 : k'.c = k.c := congrArg Prod.snd e'
  rw [← e1, ← e2]
  exact this
theorem push_dc (m : QM) (a b c : Int) : (m.push a b c).1.cl.map (fun k => (k.d, k.c)) = m.cl.map (fun k => (k.d, k.c)) ∧ (m.push a b c).1.at_ = m.at_ ∧ (m.push a b c).1.given = m.given := by
  unfold QM.push
  split
  · exact ⟨rfl, rfl, rfl⟩
  · split
    · exact ⟨rfl, rfl, rfl⟩
    · simp only
      split
      · exact ⟨rfl, rfl, rfl⟩
      · refine ⟨?_, rfl, rfl⟩
        simp only [List.map_set]
        refine set_eq ?_
        rw [List.getElem?_map, getD_get (z := default) (by unfold QM.n at *; omega)]
        rfl
theorem tick_dc (m : QM) : m.tick.cl.map (fun k => (k.d, k.c)) = m.cl.map (fun k => (k.d, k.c)) ∧ m.tick.at_ = m.at_ ∧ m.tick.given = m.given := by
  refine ⟨?_, rfl, rfl⟩
  unfold QM.tick
  simp only [List.map_map]
  congr 1
  funext k
  simp only [Function.comp]
  split <;> rfl
theorem psi_of {m m2 : QM} (e : m2.cl.map (fun k => (k.d, k.c)) = m.cl.map (fun k => (k.d, k.c)) ∧ m2.at_ = m.at_ ∧ m2.given = m.given) (i j : Nat) (Qi Qj : Int) : m2.psi i j Qi Qj = m.psi i j Qi Qj := by
  obtain ⟨e1, e2, e3⟩ := e
  have hn : m2.n = m.n := by
    have := congrArg List.length e1
    simpa [QM.n] using this
  have hd : ∀ t, m2.dd t = m.dd t := by
    intro t
    have := congrArg (fun l => l[t]?) e1
    simp only [List.getElem?_map] at this
    unfold QM.dd
    rw [List.getD, List.getD]
    cases h1 : m2.cl[t]? with
    | none =>
      cases h2 : m.cl[t]? with
      | none => rfl
      | some k => rw [h1, h2] at this; cases this
    | some k1 =>
      cases h2 : m.cl[t]? with
      | none => rw [h1, h2] at this; cases this
      | some k =>
        rw [h1, h2] at this
        simp only [Option.map_some, Option.some.injEq] at this
        exact congrArg Prod.fst this
  unfold QM.psi QM.P
  rw [hd, hd, hn, e2, e3]
theorem psi_hi {m : QM} (ok : m.Ok) (h : DD m) {i j : Nat} {ki kj : Cl} (hi : m.cl[i]? = some ki) (hj : m.cl[j]? = some kj) (hij : i ≠ j) : m.psi i j ki.c.Quantum kj.c.Quantum ≤ ki.c.Quantum * kj.c.Quantum + 65535 * kj.c.Quantum := by
  have oki := ok.cl ki (List.mem_of_getElem? hi)
  have okj := ok.cl kj (List.mem_of_getElem? hj)
  have hqi := okClass_iff.1 oki.c
  have hqj := okClass_iff.1 okj.c
  have h1 : 0 ≤ kj.d * ki.c.Quantum := Int.mul_nonneg okj.d0 (by omega)
  have hi' := (List.getElem?_eq_some_iff.1 hi).1
  have hj' := (List.getElem?_eq_some_iff.1 hj).1
  have h0 := ok.n0
  unfold QM.psi
  rw [QM.dd_at hi, QM.dd_at hj]
  by_cases e : i = m.at_ ∧ m.given = true
  · have n1 : ¬ dn m.n m.P i < dn m.n m.P j := by
      unfold QM.P
      rw [e.2, e.1]
      simp only [if_true]
      unfold QM.n at *
      unfold dn
      (repeat' split) <;> omega
    rw [if_neg n1]
    have h2 : ki.d * kj.c.Quantum ≤ (65535 + ki.c.Quantum) * kj.c.Quantum := Int.mul_le_mul_of_nonneg_right (h ki (List.mem_of_getElem? hi)) (by omega)
    rw [Int.add_mul] at h2
    omega
  · have hlow := ok.low i ki hi (by
      by_cases e1 : i = m.at_
      · exact .inr (by cases hg : m.given with | false => rfl | true => exact absurd ⟨e1, hg⟩ e)
      · exact .inl e1)
    have h2 : ki.d * kj.c.Quantum ≤ 65535 * kj.c.Quantum := Int.mul_le_mul_of_nonneg_right hlow (by omega)
    have h3 : 0 ≤ ki.c.Quantum * kj.c.Quantum := Int.mul_nonneg (by omega) (by omega)
    split <;> omega
theorem psi_lo {m : QM} (ok : m.Ok) (h : DD m) {i j : Nat} {ki kj : Cl} (hi : m.cl[i]? = some ki) (hj : m.cl[j]? = some kj) (hij : i ≠ j) : -(65535 * ki.c.Quantum) ≤ m.psi i j ki.c.Quantum kj.c.Quantum := by
  have oki := ok.cl ki (List.mem_of_getElem? hi)
  have okj := ok.cl kj (List.mem_of_getElem? hj)
  have hqi := okClass_iff.1 oki.c
  have hqj := okClass_iff.1 okj.c
  have h1 : 0 ≤ ki.d * kj.c.Quantum := Int.mul_nonneg oki.d0 (by omega)
  have hi' := (List.getElem?_eq_some_iff.1 hi).1
  have hj' := (List.getElem?_eq_some_iff.1 hj).1
  have h0 := ok.n0
  unfold QM.psi
  rw [QM.dd_at hi, QM.dd_at hj]
  by_cases e : j = m.at_ ∧ m.given = true
  · have n1 : dn m.n m.P i < dn m.n m.P j := by
      unfold QM.P
      rw [e.2, e.1]
      simp only [if_true]
      unfold QM.n at *
      unfold dn
      (repeat' split) <;> omega
    rw [if_pos n1]
    have h2 : kj.d * ki.c.Quantum ≤ (65535 + kj.c.Quantum) * ki.c.Quantum := Int.mul_le_mul_of_nonneg_right (h kj (List.mem_of_getElem? hj)) (by omega)
    rw [Int.add_mul, Int.mul_comm kj.c.Quantum ki.c.Quantum] at h2
    omega
  · have hlow := ok.low j kj hj (by
      by_cases e1 : j = m.at_
      · exact .inr (by cases hg : m.given with | false => rfl | true => exact absurd ⟨e1, hg⟩ e)
      · exact .inl e1)
    have h2 : kj.d * ki.c.Quantum ≤ 65535 * ki.c.Quantum := Int.mul_le_mul_of_nonneg_right hlow (by omega)
    have h3 : 0 ≤ ki.c.Quantum * kj.c.Quantum := Int.mul_nonneg (by omega) (by omega)
    split <;> omega
theorem newQ_DD (xs : List api_Class) (h : newOk xs = true) : DD (newQ xs) := by
  intro k hk
  have := (okClass_iff.1 ((newQ_ok h).cl k hk).c).1
  obtain ⟨c, _, rfl⟩ := List.mem_map.1 hk
  have this : 64 ≤ c.Quantum := this
  show (0 : Int) ≤ 65535 + c.Quantum
  omega
theorem c_get {m : QM} {ys : List api_Class} (h : m.cl.map (·.c) = ys) {i : Nat} {k : Cl} (hk : m.cl[i]? = some k) : ys[i]? = some k.c := by rw [← h, List.getElem?_map, hk]; rfl
theorem c_len {m : QM} {ys : List api_Class} (h : m.cl.map (·.c) = ys) : ys.length = m.n := by rw [← h]; unfold QM.n; simp
theorem newQ_psi {xs : List api_Class} {m : QM} (ok : m.Ok) (d : DD m) (hc : m.cl.map (·.c) = xs) (n : Nat) : ∀ (i j : Nat) (ci cj : api_Class), i ≠ j → xs[i]? = some ci → xs[j]? = some cj → (List.replicate n (0 : Int)).getD i 0 * cj.Quantum - (List.replicate n (0 : Int)).getD j 0 * ci.Quantum + m.psi i j ci.Quantum cj.Quantum ≤ ci.Quantum * cj.Quantum + 65535 * cj.Quantum := by
  intro i j ci cj hij hi hj
  have z : ∀ t : Nat, (List.replicate n (0 : Int)).getD t 0 = 0 := by
    intro t
    rw [List.getD, List.getElem?_replicate]
    split <;> rfl
  have hn := c_len hc
  have hi' := (List.getElem?_eq_some_iff.1 hi).1
  have hj' := (List.getElem?_eq_some_iff.1 hj).1
  have hka := getD_get (z := default) (l := m.cl) (i := i) (by unfold QM.n at hn; omega)
  have hkb := getD_get (z := default) (l := m.cl) (i := j) (by unfold QM.n at hn; omega)
  generalize m.cl.getD i default = ka at hka
  generalize m.cl.getD j default = kb at hkb
  have eca : ka.c = ci := by have := c_get hc hka; rw [hi] at this; exact (Option.some.inj this).symm
  have ecb : kb.c = cj := by have := c_get hc hkb; rw [hj] at this; exact (Option.some.inj this).symm
  have h2 := psi_hi ok d hka hkb hij
  rw [eca, ecb] at h2
  rw [z, z, Int.zero_mul, Int.zero_mul]
  omega
end Go.Proofs.Ytgddbpmfendaeaa.Lx
