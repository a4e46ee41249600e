/- A port as a plain value: its buffers' bytes, places and lengths, its four lines; what a port always is. -/
import Derived.Test.YtoddkagehbcfjaaRingLine
set_option linter.unusedVariables false
set_option linter.unusedSimpArgs false
namespace Go.Proofs.Ytoddkagehbcfjaa.Lx
open Go Go.Proofs Go.RowKit

/-- lines by their places' numbers: 1 free, 2 posted, 3 filled, 5 queued (4: held, no line) -/
structure RM where
  size : Nat
  rx : Nat
  tx : Nat
  dat : List (List Int)
  place : List Int
  len : List Int
  L : Nat → List Nat
namespace RM
def n (m : RM) : Nat := m.dat.length
/-- line k's first one leaves it -/
def out (m : RM) (k : Nat) : RM := { m with L := fun j => if j = k then (m.L k).tail else m.L j }
/-- buffer i comes to place k -/
def mv (m : RM) (i k : Nat) : RM := { m with place := m.place.set i k, L := fun j => if j = k ∧ k ≠ 4 then m.L j ++ [i] else m.L j }
def setd (m : RM) (i : Nat) (d : List Int) : RM := { m with dat := m.dat.set i d }
def setl (m : RM) (i : Nat) (x : Int) : RM := { m with len := m.len.set i x }
end RM
def isL (k : Nat) : Prop := k = 1 ∨ k = 2 ∨ k = 3 ∨ k = 5
structure RM.Ok (m : RM) : Prop where
  n0 : 1 ≤ m.n
  n1 : m.n ≤ 8192
  s0 : 64 ≤ m.size
  s1 : m.size ≤ 65535
  r0 : 1 ≤ m.rx
  r1 : m.rx ≤ 4096
  t0 : 1 ≤ m.tx
  t1 : m.tx ≤ 4096
  pl : m.place.length = m.n
  ll : m.len.length = m.n
  d : ∀ d ∈ m.dat, d.length = m.size ∧ ∀ x ∈ d, 0 ≤ x ∧ x ≤ 255
  l : ∀ x ∈ m.len, 0 ≤ x ∧ x ≤ m.size
  p : ∀ (i : Nat) (x : Int), m.place[i]? = some x → ∃ k : Nat, x = k ∧ 1 ≤ k ∧ k ≤ 5 ∧ (k ≠ 4 → i ∈ m.L k)
  f : ∀ (k i : Nat), isL k → i ∈ m.L k → m.place[i]? = some (k : Int)
  nd : ∀ k : Nat, isL k → (m.L k).Nodup
  rr : (m.L 2).length + (m.L 3).length ≤ m.rx
  qq : (m.L 5).length ≤ m.tx
theorem isL_ne4 {k : Nat} (h : isL k) : k ≠ 4 := by unfold isL at h; omega
theorem nodup_lt {l : List Nat} {n : Nat} (h : l.Nodup) (hl : ∀ x ∈ l, x < n) : l.length ≤ n := by
  induction n generalizing l with
  | zero =>
    cases l with
    | nil => simp
    | cons x l => exact absurd (hl x (by simp)) (by omega)
  | succ n ih =>
    by_cases hn : n ∈ l
    · have h2 := ih (l := l.erase n) (h.sublist List.erase_sublist) (fun x hx => by
        have h1 := hl x (List.erase_sublist.subset hx)
        have : x ≠ n := fun e => h.not_mem_erase (e ▸ hx)
        omega)
      rw [List.length_erase_of_mem hn] at h2
      omega
    · have := ih h (fun x hx => by
        have h1 := hl x hx
        have : x ≠ n := fun e => hn (e ▸ hx)
        omega)
      omega
namespace RM.Ok
variable {m : RM}
theorem lt (ok : m.Ok) {k i : Nat} (hk : isL k) (hi : i ∈ m.L k) : i < m.n := by
  have := (List.getElem?_eq_some_iff.1 (ok.f k i hk hi)).1
  rw [ok.pl] at this
  exact this
/-- a line that does not hold all has room -/
theorem room (ok : m.Ok) {k i : Nat} (hk : isL k) (hi : i < m.n) (hn : i ∉ m.L k) : (m.L k).length < m.n := by
  have := nodup_lt (l := i :: m.L k) (n := m.n) (List.nodup_cons.2 ⟨hn, ok.nd k hk⟩) (fun x hx => by
    rcases List.mem_cons.1 hx with rfl | hx
    · exact hi
    · exact ok.lt hk hx)
  rw [List.length_cons] at this
  omega
theorem apart (ok : m.Ok) {k k' i : Nat} (hk : isL k) (hk' : isL k') (hne : k ≠ k') (hi : i ∈ m.L k) : i ∉ m.L k' := fun h => by
  have e1 := ok.f k i hk hi
  have e2 := ok.f k' i hk' h
  rw [e1] at e2
  have := Option.some.inj e2
  omega
theorem setd (ok : m.Ok) {i : Nat} {d : List Int} (hd : d.length = m.size ∧ ∀ x ∈ d, 0 ≤ x ∧ x ≤ 255) : (m.setd i d).Ok := by
  have hn : (m.setd i d).n = m.n := by unfold RM.setd RM.n; simp
  exact ⟨by rw [hn]; exact ok.n0, by rw [hn]; exact ok.n1, ok.s0, ok.s1, ok.r0, ok.r1, ok.t0, ok.t1, by rw [hn]; exact ok.pl, by rw [hn]; exact ok.ll, fun e he => by
    rcases List.mem_or_eq_of_mem_set he with he | rfl
    · exact ok.d e he
    · exact hd, ok.l, ok.p, ok.f, ok.nd, ok.rr, ok.qq⟩
theorem setl (ok : m.Ok) {i : Nat} {x : Int} (hx : 0 ≤ x ∧ x ≤ m.size) : (m.setl i x).Ok := by
  exact ⟨ok.n0, ok.n1, ok.s0, ok.s1, ok.r0, ok.r1, ok.t0, ok.t1, ok.pl, by unfold RM.setl RM.n; simp; exact ok.ll, ok.d, fun y hy => by
    rcases List.mem_or_eq_of_mem_set hy with hy | rfl
    · exact ok.l y hy
    · exact hx, ok.p, ok.f, ok.nd, ok.rr, ok.qq⟩
/-- a held buffer comes to a line -/
theorem hold (ok : m.Ok) {i k : Nat} (hp : m.place[i]? = some 4) (hk : isL k) (hr : ((m.mv i k).L 2).length + ((m.mv i k).L 3).length ≤ m.rx) (hq : ((m.mv i k).L 5).length ≤ m.tx) : (m.mv i k).Ok := by
  have hk4 := isL_ne4 hk
  have hi := (List.getElem?_eq_some_iff.1 hp).1
  have hnot : ∀ j, isL j → i ∉ m.L j := fun j hj h => by
    have := ok.f j i hj h
    rw [hp] at this
    have := Option.some.inj this
    exact isL_ne4 hj (by omega)
  have hL : ∀ j, (m.mv i k).L j = if j = k then m.L j ++ [i] else m.L j := fun j => by
    show (if j = k ∧ k ≠ 4 then m.L j ++ [i] else m.L j) = _
    by_cases e : j = k
    · rw [if_pos ⟨e, hk4⟩, if_pos e]
    · rw [if_neg (fun h => e h.1), if_neg e]
  refine ⟨ok.n0, ok.n1, ok.s0, ok.s1, ok.r0, ok.r1, ok.t0, ok.t1, by show (m.place.set i k).length = _; rw [List.length_set]; exact ok.pl, ok.ll, ok.d, ok.l, fun j x hj => ?_, fun j y hj hy => ?_, fun j hj => ?_, hr, hq⟩
  · have hj : (m.place.set i (k : Int))[j]? = some x := hj
    by_cases e : j = i
    · subst e
      rw [List.getElem?_set_self hi] at hj
      cases hj
      refine ⟨k, rfl, ?_, ?_, fun _ => ?_⟩
      · unfold isL at hk; omega
      · unfold isL at hk; omega
      · rw [hL, if_pos rfl]
        simp
    · rw [List.getElem?_set_ne (fun h => e h.symm)] at hj
      obtain ⟨k2, h1, h2, h3, h4⟩ := ok.p j x hj
      refine ⟨k2, h1, h2, h3, fun h => ?_⟩
      rw [hL]
      split
      · exact List.mem_append_left _ (h4 h)
      · exact h4 h
  · show (m.place.set i (k : Int))[y]? = some (j : Int)
    rw [hL] at hy
    have key : y ∈ m.L j → (m.place.set i (k : Int))[y]? = some (j : Int) := by
      intro hy
      have : y ≠ i := fun e => hnot j hj (e ▸ hy)
      rw [List.getElem?_set_ne (fun h => this h.symm)]
      exact ok.f j y hj hy
    split at hy
    · rename_i e
      rcases List.mem_append.1 hy with hy | hy
      · exact key hy
      · simp only [List.mem_singleton] at hy
        subst hy
        rw [List.getElem?_set_self hi, e]
    · exact key hy
  · rw [hL]
    split
    · rw [List.nodup_append]
      exact ⟨ok.nd j hj, by simp, fun a ha b hb => by
        simp only [List.mem_singleton] at hb
        subst hb
        exact fun e => hnot j hj (e ▸ ha)⟩
    · exact ok.nd j hj
/-- the first one of a line is held -/
theorem take (ok : m.Ok) {i k : Nat} {t : List Nat} (hk : isL k) (hL : m.L k = i :: t) : ((m.out k).mv i 4).Ok := by
  have hp := ok.f k i hk (by rw [hL]; simp)
  have hi := (List.getElem?_eq_some_iff.1 hp).1
  have hl : ∀ j, ((m.out k).mv i 4).L j = if j = k then t else m.L j := fun j => by
    show (if j = 4 ∧ (4 : Nat) ≠ 4 then _ else (if j = k then (m.L k).tail else m.L j)) = _
    rw [if_neg (fun h => h.2 rfl), hL]
    rfl
  have hnd := ok.nd k hk
  rw [hL, List.nodup_cons] at hnd
  have hsub : ∀ j x, x ∈ ((m.out k).mv i 4).L j → x ∈ m.L j := fun j x hx => by
    rw [hl] at hx
    split at hx
    · rename_i e
      rw [e, hL]
      simp [hx]
    · exact hx
  have hlen : ∀ j, (((m.out k).mv i 4).L j).length ≤ (m.L j).length := fun j => by
    rw [hl]
    split
    · rename_i e
      rw [e, hL]
      simp
    · exact Nat.le_refl _
  refine ⟨ok.n0, ok.n1, ok.s0, ok.s1, ok.r0, ok.r1, ok.t0, ok.t1, by show (m.place.set i _).length = _; rw [List.length_set]; exact ok.pl, ok.ll, ok.d, ok.l, fun j x hj => ?_, fun j y hj hy => ?_, fun j hj => ?_, ?_, ?_⟩
  · have hj : (m.place.set i ((4 : Nat) : Int))[j]? = some x := hj
    by_cases e : j = i
    · subst e
      rw [List.getElem?_set_self hi] at hj
      cases hj
      exact ⟨4, rfl, by omega, by omega, fun h => absurd rfl h⟩
    · rw [List.getElem?_set_ne (fun h => e h.symm)] at hj
      obtain ⟨k2, h1, h2, h3, h4⟩ := ok.p j x hj
      refine ⟨k2, h1, h2, h3, fun h => ?_⟩
      rw [hl]
      split
      · rename_i e2
        have := h4 h
        rw [e2, hL] at this
        exact (List.mem_cons.1 this).resolve_left e
      · exact h4 h
  · show (m.place.set i ((4 : Nat) : Int))[y]? = some (j : Int)
    have hy' := hsub j y hy
    have hne : y ≠ i := fun e => by
      subst e
      by_cases ejk : j = k
      · subst ejk
        rw [hl, if_pos rfl] at hy
        exact hnd.1 hy
      · exact ok.apart hj hk ejk hy' (by rw [hL]; simp)
    rw [List.getElem?_set_ne (fun h => hne h.symm)]
    exact ok.f j y hj hy'
  · rw [hl]
    split
    · exact hnd.2
    · exact ok.nd j hj
  · have h1 := hlen 2
    have h2 := hlen 3
    have := ok.rr
    show _ ≤ m.rx
    omega
  · have h1 := hlen 5
    have := ok.qq
    show _ ≤ m.tx
    omega
end RM.Ok
/-- from one line to another, by way of a held one -/
theorem RM.mv_mv (m : RM) (i k : Nat) : ((m.mv i 4).mv i k) = m.mv i k := by
  unfold RM.mv
  simp only [ne_eq, not_true_eq_false, and_false, if_false, List.set_set]
theorem RM.Ok.move {m : RM} (ok : m.Ok) {i k k' : Nat} {t : List Nat} (hk : isL k) (hL : m.L k = i :: t) (hk' : isL k') (hr : (((m.out k).mv i k').L 2).length + (((m.out k).mv i k').L 3).length ≤ m.rx) (hq : (((m.out k).mv i k').L 5).length ≤ m.tx) : ((m.out k).mv i k').Ok := by
  have h1 := ok.take hk hL
  have hp := ok.f k i hk (by rw [hL]; simp)
  have hi := (List.getElem?_eq_some_iff.1 hp).1
  have h2 := h1.hold (i := i) (k := k') (by show (m.place.set i ((4 : Nat) : Int))[i]? = _; rw [List.getElem?_set_self hi]; rfl) hk' (by rw [RM.mv_mv]; exact hr) (by rw [RM.mv_mv]; exact hq)
  rwa [RM.mv_mv] at h2
/-- a new port -/
def newM (rx tx pool size : Nat) : RM := ⟨size, rx, tx, List.replicate pool (List.replicate size 0), List.replicate pool 1, List.replicate pool 0, fun k => if k = 1 then List.range pool else []⟩
def newE (rx tx pool size : Int) : Bool := decide (rx < 1 ∨ rx > 4096 ∨ tx < 1 ∨ tx > 4096 ∨ pool < 1 ∨ pool > 8192 ∨ size < 64 ∨ size > 65535)
theorem newM_ok {rx tx pool size : Nat} (h : newE rx tx pool size = false) : (newM rx tx pool size).Ok := by
  unfold newE at h
  rw [decide_eq_false_iff_not] at h
  have hn : (newM rx tx pool size).n = pool := by unfold newM RM.n; simp
  refine ⟨by rw [hn]; omega, by rw [hn]; omega, by show 64 ≤ size; omega, by show size ≤ 65535; omega, by show 1 ≤ rx; omega, by show rx ≤ 4096; omega, by show 1 ≤ tx; omega, by show tx ≤ 4096; omega, by rw [hn]; unfold newM; simp, by rw [hn]; unfold newM; simp, fun d hd => ?_, fun x hx => ?_, fun i x hi => ?_, fun k i hk hi => ?_, fun k hk => ?_, ?_, ?_⟩
  · rw [List.eq_of_mem_replicate hd]
    exact ⟨by unfold newM; simp, fun x hx => by rw [List.eq_of_mem_replicate hx]; omega⟩
  · rw [List.eq_of_mem_replicate hx]
    exact ⟨by omega, by omega⟩
  · have hx := List.eq_of_mem_replicate (List.mem_of_getElem? hi)
    have hlt := (List.getElem?_eq_some_iff.1 hi).1
    refine ⟨1, hx, by omega, by omega, fun _ => ?_⟩
    show i ∈ List.range pool
    unfold newM at hlt
    simpa using hlt
  · by_cases e : k = 1
    · subst e
      have hi : i ∈ List.range pool := hi
      show (List.replicate pool (1 : Int))[i]? = _
      rw [List.getElem?_replicate, if_pos (List.mem_range.1 hi)]
      rfl
    · have hi : i ∈ (if k = 1 then List.range pool else []) := hi
      rw [if_neg e] at hi
      simp at hi
  · show (if k = 1 then List.range pool else []).Nodup
    split
    · exact List.nodup_range
    · exact List.nodup_nil
  · show ([] : List Nat).length + ([] : List Nat).length ≤ rx
    simp
  · show ([] : List Nat).length ≤ tx
    simp
end Go.Proofs.Ytoddkagehbcfjaa.Lx
