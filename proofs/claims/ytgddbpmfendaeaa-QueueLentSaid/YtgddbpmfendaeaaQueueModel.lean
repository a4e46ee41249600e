/- Fair queues as plain values: classes with what waits, their deficits and tokens, the turn; what a turn does, and that it ends. -/
import Derived.Test.YtgddbpmfendaeaaLxT
set_option linter.unusedVariables false
set_option linter.unusedSimpArgs false
namespace Go.Proofs.Ytgddbpmfendaeaa.Lx
open Go Go.Proofs

structure Cl where
  c : api_Class
  q : List queue_item
  d : Int
  tok : Int
instance : Inhabited Cl := ⟨⟨default, [], 0, 0⟩⟩
structure QM where
  cl : List Cl
  at_ : Nat
  given : Bool
def rdy (c : api_Class) (tok : Int) : List queue_item → Bool
  | [] => false
  | x :: _ => c.Rate == 0 || decide (tok ≥ x.size)
def Cl.rdy (k : Cl) : Bool := Lx.rdy k.c k.tok k.q
def Cl.hd (k : Cl) : Int := match k.q with | [] => 0 | x :: _ => x.size
def sizes (q : List queue_item) : Int := (q.map (·.size)).sum
namespace QM
def n (m : QM) : Nat := m.cl.length
def cur (m : QM) : Cl := m.cl.getD m.at_ default
def setc (m : QM) (k : Cl) : QM := { m with cl := m.cl.set m.at_ k }
/-- its quantum, if it has not been given to the class at the pointer -/
def gives (m : QM) : QM := if m.given then m else { m.setc { m.cur with d := m.cur.d + m.cur.c.Quantum } with given := true }
/-- a class that is held up keeps at most its head's size; the pointer goes on -/
def onward (m : QM) : QM :=
  let m1 := if m.cur.q ≠ [] ∧ m.cur.rdy = false then m.setc { m.cur with d := min m.cur.d m.cur.hd } else m
  { m1 with at_ := (m.at_ + 1) % m.n, given := false }
/-- the moves of a Pop, up to the turn in which an item goes -/
inductive Turns : QM → QM → Prop
  | take {m : QM} (hr : m.cur.rdy = true) (hd : m.gives.cur.hd ≤ m.gives.cur.d) : Turns m m.gives
  | pass1 {m m' : QM} (hr : m.cur.rdy = true) (hd : ¬ m.gives.cur.hd ≤ m.gives.cur.d) (h : Turns m.gives.onward m') : Turns m m'
  | pass0 {m m' : QM} (hr : m.cur.rdy = false) (h : Turns m.onward m') : Turns m m'
def some_ (m : QM) : Bool := m.cl.any Cl.rdy
/-- the item goes -/
def take (m : QM) : QM :=
  let s := m.cur.hd
  let q := m.cur.q.tail
  m.setc { m.cur with q := q, tok := if m.cur.c.Rate > 0 then m.cur.tok - s else m.cur.tok, d := if q = [] then 0 else m.cur.d - s }
end QM
def okClass (c : api_Class) : Bool := decide (64 ≤ c.Quantum ∧ c.Quantum ≤ 65535 ∧ 1 ≤ c.Items ∧ c.Items ≤ 4096 ∧ 1 ≤ c.Bytes ∧ c.Bytes ≤ 67108864 ∧ 0 ≤ c.Rate ∧ c.Rate ≤ 67108864 ∧ (c.Rate = 0 ∨ (65535 ≤ c.Burst ∧ c.Burst ≤ 268435456)))
/-- what a class of a queue always is -/
structure Cl.Ok (k : Cl) : Prop where
  c : okClass k.c = true
  len : (k.q.length : Int) ≤ k.c.Items
  bytes : sizes k.q ≤ k.c.Bytes
  size : ∀ x ∈ k.q, 1 ≤ x.size ∧ x.size ≤ 65535
  d0 : 0 ≤ k.d
  d1 : k.d ≤ 131070
  tok : k.c.Rate > 0 → 0 ≤ k.tok ∧ k.tok ≤ k.c.Burst
  none : k.q = [] → k.d ≤ 65535
structure QM.Ok (m : QM) : Prop where
  n0 : m.at_ < m.n
  n8 : m.n ≤ 8
  cl : ∀ k ∈ m.cl, k.Ok
  low : ∀ (i : Nat) (k : Cl), m.cl[i]? = some k → (i ≠ m.at_ ∨ m.given = false) → k.d ≤ 65535
theorem okClass_iff {c : api_Class} : okClass c = true ↔ (64 ≤ c.Quantum ∧ c.Quantum ≤ 65535 ∧ 1 ≤ c.Items ∧ c.Items ≤ 4096 ∧ 1 ≤ c.Bytes ∧ c.Bytes ≤ 67108864 ∧ 0 ≤ c.Rate ∧ c.Rate ≤ 67108864 ∧ (c.Rate = 0 ∨ (65535 ≤ c.Burst ∧ c.Burst ≤ 268435456))) := by
  unfold okClass
  rw [decide_eq_true_iff]
namespace QM
theorem cur_at {m : QM} (h : m.at_ < m.n) : m.cl[m.at_]? = some m.cur := by
  unfold cur
  rw [List.getD, List.getElem?_eq_getElem h]
  rfl
theorem cur_mem {m : QM} (h : m.at_ < m.n) : m.cur ∈ m.cl := List.mem_of_getElem? (cur_at h)
theorem setc_n {m : QM} {k : Cl} : (m.setc k).n = m.n := by simp [setc, n]
theorem setc_cur {m : QM} {k : Cl} (h : m.at_ < m.n) : (m.setc k).cur = k := by
  unfold cur setc
  simp only
  rw [List.getD, List.getElem?_set_self h]
  rfl
theorem setc_own {m : QM} {k : Cl} (h : m.at_ < m.n) : (m.setc k).cl[m.at_]? = some k := by
  unfold setc
  exact List.getElem?_set_self h
theorem setc_get {m : QM} {k : Cl} {i : Nat} (h : i ≠ m.at_) : (m.setc k).cl[i]? = m.cl[i]? := by
  unfold setc
  simp only
  rw [List.getElem?_set_ne (fun e => h e.symm)]
theorem gives_n {m : QM} : m.gives.n = m.n := by
  unfold gives
  split
  · rfl
  · exact setc_n
theorem gives_at {m : QM} : m.gives.at_ = m.at_ := by
  unfold gives
  split <;> rfl
theorem gives_cur {m : QM} (h : m.at_ < m.n) : m.gives.cur = { m.cur with d := if m.given then m.cur.d else m.cur.d + m.cur.c.Quantum } := by
  unfold gives
  split
  · rfl
  · exact setc_cur h
theorem onward_n {m : QM} : m.onward.n = m.n := by
  unfold onward
  simp only
  split
  · exact setc_n
  · rfl
/-- every class that is not the one at the pointer stays; that one too, but for its deficit -/
theorem gives_get {m : QM} {i : Nat} (h : i ≠ m.at_) : m.gives.cl[i]? = m.cl[i]? := by
  unfold gives
  split
  · rfl
  · exact setc_get h
theorem onward_get {m : QM} {i : Nat} (h : i ≠ m.at_) : m.onward.cl[i]? = m.cl[i]? := by
  unfold onward
  simp only
  split
  · exact setc_get h
  · rfl
theorem onward_own {m : QM} (h : m.at_ < m.n) : m.onward.cl[m.at_]? = some (if m.cur.q ≠ [] ∧ m.cur.rdy = false then { m.cur with d := min m.cur.d m.cur.hd } else m.cur) := by
  unfold onward
  simp only
  split
  · rw [show (m.setc { m.cur with d := min m.cur.d m.cur.hd }).cl[m.at_]? = (m.setc { m.cur with d := min m.cur.d m.cur.hd }).cl[(m.setc { m.cur with d := min m.cur.d m.cur.hd }).at_]? from rfl, cur_at (by rw [setc_n]; exact h), setc_cur h]
  · exact cur_at h
/-- ready stays ready: no move turns what waits or the tokens -/
theorem rdy_d {k : Cl} {d : Int} : ({ k with d := d } : Cl).rdy = k.rdy := rfl
end QM
theorem Cl.Ok.hd {k : Cl} (h : k.Ok) : 0 ≤ k.hd ∧ k.hd ≤ 65535 := by
  unfold Cl.hd
  split
  · omega
  · rename_i x l e
    have := h.size x (by rw [e]; simp)
    omega
theorem QM.Ok.gives {m : QM} (h : m.Ok) (hr : m.cur.rdy = true) : m.gives.Ok := by
  have h0 := h.n0
  have hc := h.cl _ (QM.cur_mem h0)
  have hq := okClass_iff.1 hc.c
  unfold QM.gives
  split
  · exact h
  · rename_i hg
    have hlow := h.low m.at_ _ (QM.cur_at h0) (.inr (by simpa using hg))
    refine ⟨by rw [show ({ m.setc { m.cur with d := m.cur.d + m.cur.c.Quantum } with given := true } : QM).n = m.n from QM.setc_n]; exact h0, by rw [show ({ m.setc { m.cur with d := m.cur.d + m.cur.c.Quantum } with given := true } : QM).n = m.n from QM.setc_n]; exact h.n8, fun k hk => ?_, fun i k hi ho => ?_⟩
    · rcases List.mem_or_eq_of_mem_set hk with hk | rfl
      · exact h.cl k hk
      · exact ⟨hc.c, hc.len, hc.bytes, hc.size, by have := hc.d0; simp only; omega, by simp only; omega, hc.tok, fun e => by
          have : m.cur.q = [] := e
          unfold Cl.rdy at hr
          rw [this] at hr
          cases hr⟩
    · rcases ho with ho | ho
      · have e : i ≠ m.at_ := ho
        have hi' : (m.setc { m.cur with d := m.cur.d + m.cur.c.Quantum }).cl[i]? = some k := hi
        rw [QM.setc_get e] at hi'
        exact h.low i k hi' (.inl e)
      · cases ho
theorem QM.Ok.onward {m : QM} (h : m.Ok) (hd : m.cur.rdy = true → m.cur.d < m.cur.hd) : m.onward.Ok := by
  have h0 := h.n0
  have hc := h.cl _ (QM.cur_mem h0)
  have hh := hc.hd
  have key : ∀ (i : Nat) (k : Cl), m.onward.cl[i]? = some k → k.Ok ∧ k.d ≤ 65535 := by
    intro i k hi
    by_cases e : i = m.at_
    · subst e
      rw [QM.onward_own h0] at hi
      cases hi
      split
      · refine ⟨⟨hc.c, hc.len, hc.bytes, hc.size, ?_, ?_, hc.tok, ?_⟩, ?_⟩
        · have := hc.d0; simp only; omega
        · have := hc.d1; simp only; omega
        · simp only; omega
        · simp only; omega
      · rename_i hn
        refine ⟨hc, ?_⟩
        cases hr : m.cur.rdy with
        | true => have := hd hr; omega
        | false =>
          by_cases hq : m.cur.q = []
          · exact hc.none hq
          · exact absurd ⟨hq, hr⟩ hn
    · rw [QM.onward_get e] at hi
      exact ⟨h.cl k (List.mem_of_getElem? hi), h.low i k hi (.inl e)⟩
  refine ⟨?_, by rw [QM.onward_n]; exact h.n8, fun k hk => ?_, fun i k hi _ => (key i k hi).2⟩
  · rw [QM.onward_n]
    exact Nat.mod_lt _ (by omega)
  · obtain ⟨i, hi⟩ := List.getElem?_of_mem hk
    exact (key i k hi).1
namespace QM
/-- how far the pointer is from class j -/
def dist (m : QM) (j : Nat) : Nat := if m.at_ = j then (if m.given then m.n else 0) else if j < m.at_ then j + m.n - m.at_ else j - m.at_
theorem mod_next {a n : Nat} (h : a < n) : (a + 1) % n = if a + 1 = n then 0 else a + 1 := by
  split
  · rename_i e
    rw [e, Nat.mod_self]
  · rw [Nat.mod_eq_of_lt (by omega)]
theorem dist_next {m : QM} {j : Nat} (h : m.at_ < m.n) (hj : j < m.n) (hne : m.at_ ≠ j) {m2 : QM} (ha : m2.at_ = (m.at_ + 1) % m.n) (hn : m2.n = m.n) (hg : m2.given = false) : m2.dist j < m.dist j := by
  unfold dist
  rw [ha, hn, hg, mod_next h]
  rw [if_neg hne]
  simp only [Bool.false_eq_true, if_false]
  (repeat' split) <;> omega
theorem dist_wrap {m : QM} {j : Nat} (hj : j < m.n) (he : m.at_ = j) {m2 : QM} (ha : m2.at_ = (m.at_ + 1) % m.n) (hn : m2.n = m.n) (hg : m2.given = false) : m2.dist j < m.n := by
  unfold dist
  rw [ha, hn, hg, mod_next (by omega), he]
  simp only [Bool.false_eq_true, if_false]
  (repeat' split) <;> omega
theorem turns_of : ∀ (N : Nat) (m : QM) (j : Nat) (k : Cl), m.Ok → m.cl[j]? = some k → k.rdy = true → (k.hd - k.d).toNat * (m.n + 1) + m.dist j < N → ∃ m', Turns m m'
  | 0, _, _, _, _, _, _, h => absurd h (by omega)
  | N + 1, m, j, k, ok, hk, hr, hN => by
    have h0 := ok.n0
    have hj : j < m.n := (List.getElem?_eq_some_iff.1 hk).1
    by_cases e : m.at_ = j
    · subst e
      have hcur : m.cur = k := by
        have := cur_at h0
        rw [hk] at this
        exact (Option.some.inj this).symm
      have hr' : m.cur.rdy = true := by rw [hcur]; exact hr
      by_cases hd : m.gives.cur.hd ≤ m.gives.cur.d
      · exact ⟨_, .take hr' hd⟩
      · have okg := ok.gives hr'
        have hgc := gives_cur h0
        have okk := ok.cl _ (cur_mem h0)
        have hQ := (okClass_iff.1 okk.c).1
        have hhd : m.gives.cur.hd = k.hd := by rw [hgc, hcur]; rfl
        have oko := okg.onward (fun _ => by omega)
        have hown : m.gives.onward.cl[m.at_]? = some m.gives.cur := by
          have := onward_own (m := m.gives) (by rw [gives_at, gives_n]; exact h0)
          rw [gives_at] at this
          rw [this, if_neg]
          rintro ⟨_, hx⟩
          rw [hgc] at hx
          rw [show ({ m.cur with d := if m.given then m.cur.d else m.cur.d + m.cur.c.Quantum } : Cl).rdy = m.cur.rdy from rfl, hr'] at hx
          cases hx
        have hdist : m.gives.onward.dist m.at_ < m.n := dist_wrap hj rfl (by show (m.gives.at_ + 1) % m.gives.n = _; rw [gives_at, gives_n]) (by rw [onward_n, gives_n]) rfl
        have hgr : m.gives.cur.rdy = true := by rw [hgc]; exact hr'
        obtain ⟨m', hm'⟩ := turns_of N m.gives.onward m.at_ m.gives.cur oko hown hgr (by
          rw [onward_n, gives_n, hhd]
          have hgd : m.gives.cur.d = if m.given then k.d else k.d + k.c.Quantum := by rw [hgc, hcur]
          rw [hcur] at hQ
          unfold dist at hN
          rw [if_pos rfl] at hN
          cases hg : m.given with
          | true =>
            rw [hg] at hN hgd
            simp only [if_true] at hN hgd
            rw [hgd]
            omega
          | false =>
            rw [hg] at hN hgd
            simp only [Bool.false_eq_true, if_false, Nat.add_zero] at hN hgd
            have h1 : (k.hd - m.gives.cur.d).toNat + 1 ≤ (k.hd - k.d).toNat := by omega
            have h2 := Nat.mul_le_mul_right (m.n + 1) h1
            rw [Nat.add_mul, Nat.one_mul] at h2
            omega)
        exact ⟨m', .pass1 hr' hd hm'⟩
    · cases hr' : m.cur.rdy with
      | true =>
        by_cases hd : m.gives.cur.hd ≤ m.gives.cur.d
        · exact ⟨_, .take hr' hd⟩
        · have okg := ok.gives hr'
          have oko := okg.onward (fun _ => by omega)
          have hk2 : m.gives.onward.cl[j]? = some k := by
            rw [onward_get (by rw [gives_at]; exact fun h => e h.symm), gives_get (fun h => e h.symm)]
            exact hk
          have hdist : m.gives.onward.dist j < m.dist j := dist_next h0 hj e (by show (m.gives.at_ + 1) % m.gives.n = _; rw [gives_at, gives_n]) (by rw [onward_n, gives_n]) rfl
          obtain ⟨m', hm'⟩ := turns_of N m.gives.onward j k oko hk2 hr (by rw [onward_n, gives_n]; omega)
          exact ⟨m', .pass1 hr' hd hm'⟩
      | false =>
        have oko := ok.onward (fun h => by rw [hr'] at h; cases h)
        have hk2 : m.onward.cl[j]? = some k := by
          rw [onward_get (fun h => e h.symm)]
          exact hk
        have hdist : m.onward.dist j < m.dist j := dist_next h0 hj e rfl onward_n rfl
        obtain ⟨m', hm'⟩ := turns_of N m.onward j k oko hk2 hr (by rw [onward_n]; omega)
        exact ⟨m', .pass0 hr' hm'⟩
theorem turns_exist {m : QM} (ok : m.Ok) (h : m.some_ = true) : ∃ m', Turns m m' := by
  unfold some_ at h
  obtain ⟨k, hk, hr⟩ := List.any_eq_true.1 h
  obtain ⟨j, hj⟩ := List.getElem?_of_mem hk
  exact turns_of _ m j k ok hj hr (Nat.lt_succ_self _)
theorem Turns.ok {m m' : QM} (h : Turns m m') (ok : m.Ok) : m'.Ok ∧ m'.n = m.n ∧ m'.cur.rdy = true ∧ m'.cur.hd ≤ m'.cur.d := by
  induction h with
  | take hr hd => exact ⟨ok.gives hr, gives_n, by rw [gives_cur ok.n0]; exact hr, hd⟩
  | pass1 hr hd h ih =>
    obtain ⟨h1, h2, h3⟩ := ih ((ok.gives hr).onward (fun _ => by omega))
    exact ⟨h1, by rw [h2, onward_n, gives_n], h3⟩
  | pass0 hr h ih =>
    obtain ⟨h1, h2, h3⟩ := ih (ok.onward (fun h => by rw [hr] at h; cases h))
    exact ⟨h1, by rw [h2, onward_n], h3⟩
end QM
theorem sizes_cons {x : queue_item} {q : List queue_item} : sizes (x :: q) = x.size + sizes q := by simp [sizes]
theorem sizes_app {x : queue_item} {q : List queue_item} : sizes (q ++ [x]) = sizes q + x.size := by simp [sizes]
theorem QM.Ok.take {m : QM} (ok : m.Ok) (hr : m.cur.rdy = true) (hd : m.cur.hd ≤ m.cur.d) : m.take.Ok := by
  have h0 := ok.n0
  have hc := ok.cl _ (QM.cur_mem h0)
  obtain ⟨x, q', hx⟩ : ∃ x q', m.cur.q = x :: q' := by
    cases hq : m.cur.q with
    | nil => unfold Cl.rdy at hr; rw [hq] at hr; cases hr
    | cons x q => exact ⟨x, q, rfl⟩
  have hhd : m.cur.hd = x.size := by unfold Cl.hd; rw [hx]
  have hsz := hc.size x (by rw [hx]; simp)
  have hlen := hc.len
  have hbytes := hc.bytes
  rw [hx, sizes_cons] at hbytes
  rw [hx, List.length_cons] at hlen
  have hrd : m.cur.c.Rate > 0 → x.size ≤ m.cur.tok := by
    intro h
    unfold Cl.rdy at hr
    rw [hx] at hr
    simp only [rdy, Bool.or_eq_true, beq_iff_eq, decide_eq_true_eq] at hr
    omega
  unfold QM.take
  simp only
  have hn : ∀ k, (m.setc k).n = m.n := fun k => QM.setc_n
  refine ⟨by rw [hn]; exact h0, by rw [hn]; exact ok.n8, fun k hk => ?_, fun i k hi ho => ?_⟩
  · rcases List.mem_or_eq_of_mem_set hk with hk | rfl
    · exact ok.cl k hk
    · refine ⟨hc.c, ?_, ?_, ?_, ?_, ?_, ?_, ?_⟩
      · simp only [hx, List.tail_cons]; omega
      · simp only [hx, List.tail_cons]; omega
      · intro y hy
        simp only [hx, List.tail_cons] at hy
        exact hc.size y (by rw [hx]; simp [hy])
      · simp only; split <;> omega
      · have := hc.d1; simp only; split <;> omega
      · intro hR
        have h1 := hc.tok hR
        have h2 := hrd hR
        simp only at hR ⊢
        rw [if_pos hR]
        omega
      · intro he
        simp only at he ⊢
        rw [if_pos he]
        omega
  · by_cases e : i = m.at_
    · subst e
      have hg : m.given = false := by
        rcases ho with ho | ho
        · exact absurd rfl ho
        · exact ho
      have h1 := ok.low _ _ (QM.cur_at h0) (.inr hg)
      rw [QM.setc_own h0] at hi
      cases hi
      simp only
      split <;> omega
    · rw [QM.setc_get e] at hi
      exact ok.low i k hi (.inl e)
/-- what a Pop answers, and the queue behind it -/
inductive Pops (m : QM) : Int × Int × Bool → QM → Prop
  | none (h : m.some_ = false) : Pops m (0, 0, false) m
  | item {m' : QM} {x : queue_item} {q' : List queue_item} (h : m.some_ = true) (ht : QM.Turns m m') (hx : m'.cur.q = x :: q') : Pops m (x.id, m'.at_, true) m'.take
theorem Pops.exist {m : QM} (ok : m.Ok) : ∃ r m2, Pops m r m2 := by
  cases h : m.some_ with
  | false => exact ⟨_, _, .none h⟩
  | true =>
    obtain ⟨m', ht⟩ := QM.turns_exist ok h
    have := (ht.ok ok).2.2.1
    cases hq : m'.cur.q with
    | nil => unfold Cl.rdy at this; rw [hq] at this; cases this
    | cons x q => exact ⟨_, _, .item h ht hq⟩
theorem Pops.ok {m m2 : QM} {r : Int × Int × Bool} (h : Pops m r m2) (ok : m.Ok) : m2.Ok := by
  cases h with
  | none h => exact ok
  | item h ht hx =>
    obtain ⟨h1, h2, h3, h4⟩ := ht.ok ok
    exact h1.take h3 h4
theorem QM.Turns.det {m a b : QM} (h : Turns m a) (h' : Turns m b) : a = b := by
  induction h with
  | take hr hd =>
    cases h' with
    | take _ _ => rfl
    | pass1 _ hd' _ => exact absurd hd hd'
    | pass0 hr' _ => rw [hr] at hr'; cases hr'
  | pass1 hr hd _ ih =>
    cases h' with
    | take _ hd' => exact absurd hd' hd
    | pass1 _ _ h' => exact ih h'
    | pass0 hr' _ => rw [hr] at hr'; cases hr'
  | pass0 hr _ ih =>
    cases h' with
    | take hr' _ => rw [hr] at hr'; cases hr'
    | pass1 hr' _ _ => rw [hr] at hr'; cases hr'
    | pass0 _ h' => exact ih h'
theorem Pops.det {m m1 m2 : QM} {r1 r2 : Int × Int × Bool} (h : Pops m r1 m1) (h' : Pops m r2 m2) : r1 = r2 ∧ m1 = m2 := by
  cases h with
  | none h =>
    cases h' with
    | none _ => exact ⟨rfl, rfl⟩
    | item h' _ _ => rw [h] at h'; cases h'
  | item h ht hx =>
    cases h' with
    | none h' => rw [h] at h'; cases h'
    | item h' ht' hx' =>
      have := ht.det ht'
      subst this
      rw [hx] at hx'
      cases hx'
      exact ⟨rfl, rfl⟩
/-! ### the other calls -/
namespace QM
def push (m : QM) (class_ size id : Int) : QM × Int :=
  if class_ < 0 ∨ class_ ≥ m.n then (m, 181)
  else if size < 1 ∨ size > 65535 then (m, 182)
  else
    let k := m.cl.getD class_.toNat default
    if (k.q.length : Int) = k.c.Items ∨ sizes k.q + size > k.c.Bytes then (m, 183)
    else ({ m with cl := m.cl.set class_.toNat { k with q := k.q ++ [⟨size, id⟩] } }, 0)
def tick (m : QM) : QM := { m with cl := m.cl.map fun k => if k.c.Rate > 0 then { k with tok := min (k.tok + k.c.Rate) k.c.Burst } else k }
def len (m : QM) (class_ : Int) : Int := if class_ < 0 ∨ class_ ≥ m.n then 0 else ((m.cl.getD class_.toNat default).q.length : Int)
def bytes (m : QM) (class_ : Int) : Int := if class_ < 0 ∨ class_ ≥ m.n then 0 else sizes (m.cl.getD class_.toNat default).q
end QM
theorem QM.Ok.push {m : QM} (ok : m.Ok) (a b c : Int) : (m.push a b c).1.Ok := by
  unfold QM.push
  split
  · exact ok
  · split
    · exact ok
    · simp only
      split
      · exact ok
      · rename_i h1 h2 h3
        have hlt : a.toNat < m.cl.length := by unfold QM.n at h1; omega
        have hk : m.cl[a.toNat]? = some (m.cl.getD a.toNat default) := by rw [List.getD, List.getElem?_eq_getElem hlt]; rfl
        generalize m.cl.getD a.toNat default = k at hk h3
        have hc := ok.cl k (List.mem_of_getElem? hk)
        refine ⟨by unfold QM.n; simp only [List.length_set]; exact ok.n0, by unfold QM.n; simp only [List.length_set]; exact ok.n8, fun y hy => ?_, fun i y hi ho => ?_⟩
        · rcases List.mem_or_eq_of_mem_set hy with hy | rfl
          · exact ok.cl y hy
          · refine ⟨hc.c, ?_, ?_, ?_, hc.d0, hc.d1, hc.tok, fun e => by simp at e⟩
            · have := hc.len
              simp only [List.length_append, List.length_singleton]
              omega
            · simp only [sizes_app]; omega
            · intro z hz
              simp only [List.mem_append, List.mem_singleton] at hz
              rcases hz with hz | rfl
              · exact hc.size z hz
              · simp only; omega
        · by_cases e : i = a.toNat
          · subst e
            simp only [List.getElem?_set_self hlt, Option.some.injEq] at hi
            subst hi
            exact ok.low _ k hk ho
          · simp only [List.getElem?_set_ne (fun h => e h.symm)] at hi
            exact ok.low i y hi ho
theorem QM.Ok.tick {m : QM} (ok : m.Ok) : m.tick.Ok := by
  unfold QM.tick
  refine ⟨by unfold QM.n; simp only [List.length_map]; exact ok.n0, by unfold QM.n; simp only [List.length_map]; exact ok.n8, fun y hy => ?_, fun i y hi ho => ?_⟩
  · obtain ⟨k, hk, rfl⟩ := List.mem_map.1 hy
    have hc := ok.cl k hk
    split
    · rename_i hR
      refine ⟨hc.c, hc.len, hc.bytes, hc.size, hc.d0, hc.d1, fun _ => ?_, hc.none⟩
      have h1 := hc.tok hR
      simp only
      omega
    · exact hc
  · simp only [List.getElem?_map, Option.map_eq_some_iff] at hi
    obtain ⟨k, hk, rfl⟩ := hi
    have := ok.low i k hk ho
    split <;> exact this
end Go.Proofs.Ytgddbpmfendaeaa.Lx
