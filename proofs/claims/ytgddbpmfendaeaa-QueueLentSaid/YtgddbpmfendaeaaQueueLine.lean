/- Package queue's lines, of their programs in the M-world: a line is a row of items, in order. -/
import Derived.Test.YtgddbpmfendaeaaLxT
import Derived.Test.YtgddbpmfendaeaaLxP
import Derived.Test.YtgddbpmfendaeaaLxU
set_option linter.unusedVariables false
set_option linter.unusedSimpArgs false
namespace Go.Proofs.Ytgddbpmfendaeaa.Lx
open Go Go.Proofs Go.RowKit

/-- a line's ring: its items stand in order from 'first' on -/
def RingOk (ln : queue_line_queue_item) (q rg : List queue_item) : Prop :=
  0 ≤ ln.first ∧ ln.n = q.length ∧ q.length ≤ rg.length ∧ (rg ≠ [] → ln.first < rg.length) ∧ rg.length ≤ 1000000 ∧ ∀ j, j < q.length → rg[(ln.first.toNat + j) % rg.length]? = q[j]?
def Ring (ln : queue_line_queue_item) (q : List queue_item) : HP := ex (RingOk ln q) (fun rg => vec c_queue_item ln.ring rg [])
theorem tmod_nat {a b : Int} (ha : 0 ≤ a) (hb : 0 < b) : Int.tmod a b = ((a.toNat % b.toNat : Nat) : Int) := by
  obtain ⟨m, rfl⟩ := Int.eq_ofNat_of_zero_le ha
  obtain ⟨n, rfl⟩ := Int.eq_ofNat_of_zero_le (Int.le_of_lt hb)
  simp [Int.tmod]
theorem Ring.len {ln : queue_line_queue_item} {q : List queue_item} {h : PH} (hr : Ring ln q h) : ln.n = q.length ∧ q.length ≤ ln.ring.len := by
  obtain ⟨rg, h1, h2⟩ := hr
  exact ⟨h1.2.1, by rw [h2.1]; exact h1.2.2.1⟩
section
variable {W w : World} {R : List HP} {a : Addr} {L : List Value} {o : Nat} {ln : queue_line_queue_item} {q : List queue_item}
theorem head_wp (s : Ss W (pts true a L :: Ring ln q :: R) w) (h : At L o (c_queue_line_queue_item.enc ln)) {x : queue_item} {q' : List queue_item} (hq : q = x :: q') :
    WP (queue_line_queue_item_head (some (a.add o))) w (fun r w' => r = x ∧ Ss W (pts true a L :: Ring ln q :: R) w') := by
  unfold queue_line_queue_item_head
  refine WP.slot' s (fun b w s => WP.draw' s (fun w s => WP.nilck ?_))
  refine WP.ld s 0 rfl (o := o + 0) (by rw [Nat.add_zero]) (h.trans (At_queue_line_queue_item_ring ln)) (WP.nilck ?_)
  refine WP.ld s 0 rfl (o := o + 1) (by rw [add_add]) (h.trans (At_queue_line_queue_item_first ln)) ?_
  obtain ⟨rg, ok, s2⟩ := s.openx 1 rfl
  obtain ⟨h1, h2, h3, h4, h5, h6⟩ := id ok
  have hl : 0 < q.length := by rw [hq]; simp
  have hne : rg ≠ [] := fun e => by have h0 : rg.length = 0 := (by rw [e]; rfl); omega
  obtain ⟨b, e, s3⟩ := s2.vec_open (i := 1) rfl (.inl hne)
  have h7 := h4 hne
  rw [e]
  refine WP.idx h1 h7 ?_
  have hi : ln.first.toNat < rg.length := by omega
  have hx : rg.getD ln.first.toNat z_queue_item = x := by
    have := h6 0 hl
    rw [Nat.add_zero, Nat.mod_eq_of_lt hi, hq] at this
    simp [List.getD, this]
  have hat := flatMap_at c_queue_item rg ln.first.toNat z_queue_item hi
  rw [hx] at hat
  refine WP.ld s3 1 rfl rfl (by rw [List.append_nil]; exact hat) (WP.ret ⟨rfl, ?_⟩)
  exact s
theorem leave_wp (s : Ss W (pts true a L :: Ring ln q :: R) w) (h : At L o (c_queue_line_queue_item.enc ln)) {x : queue_item} {q' : List queue_item} (hq : q = x :: q') :
    WP (queue_line_queue_item_leave (some (a.add o))) w (fun _ w' => ∃ ln' L', Upd L o (c_queue_line_queue_item.enc ln') L' ∧ Ss W (pts true a L' :: Ring ln' q' :: R) w') := by
  unfold queue_line_queue_item_leave
  refine WP.draw' s (fun w s => WP.nilck ?_)
  refine WP.ld s 0 rfl (o := o + 1) (by rw [add_add]) (h.trans (At_queue_line_queue_item_first ln)) (WP.nilck ?_)
  refine WP.ld s 0 rfl (o := o + 0) (by rw [Nat.add_zero]) (h.trans (At_queue_line_queue_item_ring ln)) ?_
  obtain ⟨rg, ok, s2⟩ := s.openx 1 rfl
  obtain ⟨h1, h2, h3, h4, h5, h6⟩ := id ok
  have hl : q.length = q'.length + 1 := by rw [hq]; simp
  have hne : rg ≠ [] := fun e => by have h0 : rg.length = 0 := (by rw [e]; rfl); omega
  have h7 := h4 hne
  obtain ⟨e1, _, _⟩ := s2.vec_len (i := 1) rfl
  rw [e1]
  have hpos : 0 < rg.length := by omega
  refine WP.chk (by omega) (WP.nilck ?_)
  obtain ⟨L1, u1, at1⟩ := h.put (⟨ln.ring, Int.tmod (IntKind.wrap .i64 (ln.first + 1)) rg.length, ln.n⟩ : queue_line_queue_item)
  refine WP.st s2 0 rfl (o := o + 1) (by rw [add_add]) (Upd.trans h (Up_queue_line_queue_item_first ln _) u1) (fun w s => WP.nilck ?_)
  refine WP.ld s 0 rfl (o := o + 2) (by rw [add_add]) (at1.trans (At_queue_line_queue_item_n _)) (WP.nilck ?_)
  obtain ⟨L2, u2, at2⟩ := at1.put (⟨ln.ring, Int.tmod (IntKind.wrap .i64 (ln.first + 1)) rg.length, IntKind.wrap .i64 (ln.n - 1)⟩ : queue_line_queue_item)
  refine WP.st s 0 rfl (o := o + 2) (by rw [add_add]) (Upd.trans at1 (Up_queue_line_queue_item_n _ _) u2) (fun w s => WP.ret ⟨_, L2, u1.go u2, ?_⟩)
  refine s.closex 1 rg rfl ?_
  rw [wrap_i64 (by omega) (by omega), wrap_i64 (by omega) (by omega), tmod_nat (by omega) (by omega)]
  refine ⟨Int.natCast_nonneg _, by simp only; omega, by omega, fun _ => ?_, h5, fun j hj => ?_⟩
  · simp only
    have := Nat.mod_lt (ln.first + 1).toNat (y := (rg.length : Int).toNat) (by omega)
    omega
  · have := h6 (j + 1) (by omega)
    rw [hq, List.getElem?_cons_succ] at this
    rw [← this]
    simp only [Int.toNat_natCast]
    rw [Nat.mod_add_mod]
    congr 2
    omega
theorem join_end_wp {rg : List queue_item} (x : queue_item) (s : Ss W (pts true a L :: vec c_queue_item ln.ring rg [] :: R) w) (ok : RingOk ln q rg) (h : At L o (c_queue_line_queue_item.enc ln)) (hroom : q.length < rg.length) :
    WP (queue_line_queue_item_join.K1 (some (a.add o)) x) w (fun _ w' => ∃ ln' L', Upd L o (c_queue_line_queue_item.enc ln') L' ∧ Ss W (pts true a L' :: Ring ln' (q ++ [x]) :: R) w') := by
  unfold queue_line_queue_item_join.K1
  refine WP.draw' s (fun w s => WP.nilck ?_)
  refine WP.ld s 0 rfl (o := o + 0) (by rw [Nat.add_zero]) (h.trans (At_queue_line_queue_item_ring ln)) (WP.nilck ?_)
  refine WP.ld s 0 rfl (o := o + 1) (by rw [add_add]) (h.trans (At_queue_line_queue_item_first ln)) (WP.nilck ?_)
  refine WP.ld s 0 rfl (o := o + 2) (by rw [add_add]) (h.trans (At_queue_line_queue_item_n ln)) (WP.nilck ?_)
  refine WP.ld s 0 rfl (o := o + 0) (by rw [Nat.add_zero]) (h.trans (At_queue_line_queue_item_ring ln)) ?_
  obtain ⟨h1, h2, h3, h4, h5, h6⟩ := id ok
  have hne : rg ≠ [] := fun e => by rw [e] at hroom; simp at hroom
  have h7 := h4 hne
  obtain ⟨b, e, s3⟩ := s.vec_open (i := 1) rfl (.inl hne)
  rw [e]
  have hpos : 0 < rg.length := by omega
  refine WP.chk (by simp only; omega) ?_
  rw [wrap_i64 (by omega) (by omega)]
  simp only
  rw [tmod_nat (by omega) (by omega)]
  have ht : (ln.first + ln.n).toNat % (rg.length : Int).toNat < rg.length := by
    have := Nat.mod_lt (ln.first + ln.n).toNat (y := (rg.length : Int).toNat) (by omega)
    omega
  generalize hi : (ln.first + ln.n).toNat % (rg.length : Int).toNat = i at ht
  refine WP.idx (by omega) (by omega) ?_
  refine WP.st s3 1 rfl (o := i * 2) (by simp) (L' := ((rg.set i x) ++ []).flatMap c_queue_item.enc) (by rw [List.append_nil, List.append_nil]; exact flatMap_upd c_queue_item rg i x ht) (fun w s => WP.nilck ?_)
  refine WP.ld s 0 rfl (o := o + 2) (by rw [add_add]) (h.trans (At_queue_line_queue_item_n ln)) (WP.nilck ?_)
  obtain ⟨L1, u1, at1⟩ := h.put (⟨ln.ring, ln.first, IntKind.wrap .i64 (ln.n + 1)⟩ : queue_line_queue_item)
  refine WP.st s 0 rfl (o := o + 2) (by rw [add_add]) (Upd.trans h (Up_queue_line_queue_item_n ln _) u1) (fun w s => WP.ret ⟨_, L1, u1, ?_⟩)
  refine Ss.closex (s.close (i := 1) rfl (B := vec c_queue_item ln.ring (rg.set i x) []) (fun h hp => ?_)) 1 (rg.set i x) rfl ?_
  · have := vec_mk hp
    rw [e]
    simpa using this
  · rw [wrap_i64 (by omega) (by omega)]
    have hi2 : i = (ln.first.toNat + q.length) % rg.length := by
      rw [← hi, Int.toNat_natCast]
      congr 1
      omega
    refine ⟨h1, by simp [h2], by simp; omega, fun _ => by simpa using h7, by simpa using h5, fun j hj => ?_⟩
    simp only [List.length_set]
    by_cases ej : j = q.length
    · subst ej
      rw [← hi2]
      simp [ht]
    · have hj' : j < q.length := by simp at hj; omega
      rw [List.getElem?_append_left hj', ← h6 j hj', List.getElem?_set_ne]
      rw [hi2]
      intro e
      have hmod : (ln.first.toNat + q.length) % rg.length = (ln.first.toNat + j) % rg.length := e
      have e1 := Nat.div_add_mod (ln.first.toNat + q.length) rg.length
      have e2 := Nat.div_add_mod (ln.first.toNat + j) rg.length
      rw [hmod] at e1
      have : rg.length * ((ln.first.toNat + q.length) / rg.length) = rg.length * ((ln.first.toNat + j) / rg.length) + (q.length - j) := by omega
      have hlt : q.length - j < rg.length := by omega
      have hp : 0 < q.length - j := by omega
      generalize (ln.first.toNat + q.length) / rg.length = A at this
      generalize (ln.first.toNat + j) / rg.length = B at this
      rcases Nat.lt_or_ge B A with h | h
      · have := Nat.mul_le_mul_left rg.length (show B + 1 ≤ A by omega)
        rw [Nat.mul_add, Nat.mul_one] at this
        omega
      · have := Nat.mul_le_mul_left rg.length h
        omega
theorem join_wp (x : queue_item) (s : Ss W (pts true a L :: Ring ln q :: R) w) (h : At L o (c_queue_line_queue_item.enc ln)) (hq : q.length ≤ 100000) :
    WP (queue_line_queue_item_join (some (a.add o)) x) w (fun _ w' => ∃ ln' L', Upd L o (c_queue_line_queue_item.enc ln') L' ∧ Ss W (pts true a L' :: Ring ln' (q ++ [x]) :: R) w') := by
  unfold queue_line_queue_item_join
  refine WP.slot' s (fun b w s => WP.draw' s (fun w s => WP.nilck ?_))
  refine WP.ld s 0 rfl (o := o + 2) (by rw [add_add]) (h.trans (At_queue_line_queue_item_n ln)) (WP.nilck ?_)
  refine WP.ld s 0 rfl (o := o + 0) (by rw [Nat.add_zero]) (h.trans (At_queue_line_queue_item_ring ln)) ?_
  obtain ⟨rg, ok, s⟩ := s.openx 1 rfl
  obtain ⟨h1, h2, h3, h4, h5, h6⟩ := id ok
  obtain ⟨el, _, _⟩ := s.vec_len (i := 1) rfl
  refine WP.ite (fun hfull => ?_) (fun hroom => ?_)
  · have hr : rg.length = q.length := by omega
    refine WP.nilck (WP.ld s 0 rfl (o := o + 2) (by rw [add_add]) (h.trans (At_queue_line_queue_item_n ln)) ?_)
    rw [wrap_i64 (n := 2 * ln.n) (by omega) (by omega), wrap_i64 (n := 2 * ln.n + 4) (by omega) (by omega)]
    refine WP.mkS s (by omega) (by omega) (by omega) (by omega) (fun r w s hr51 => WP.nilck ?_)
    refine WP.ld s 1 rfl (o := o + 2) (by rw [add_add]) (h.trans (At_queue_line_queue_item_n ln)) ?_
    refine WP.loop (fun (i : Int) w' => ∃ wl : List queue_item, (0 ≤ i ∧ i ≤ q.length ∧ wl.length = 2 * q.length + 4 ∧ ∀ j : Nat, j < i.toNat → wl[j]? = q[j]?) ∧ Ss W (vec c_queue_item r wl [] :: pts true a L :: vec c_queue_item ln.ring rg [] :: R) w') (fun (i : Int) _ => ((q.length : Int) - i).toNat)
      ⟨List.replicate (2 * ln.n + 4).toNat z_queue_item, ⟨by omega, by omega, by simp; omega, fun j hj => by omega⟩, by rw [show (2 * ln.n + 4 - (2 * ln.n + 4)).toNat = 0 by omega] at s; exact s⟩ ?_
    rintro i w ⟨wl, ⟨i0, i1, i2, i3⟩, s⟩
    unfold queue_line_queue_item_join.L1
    refine WP.ite (fun hi => ?_) (fun hi => ?_)
    · refine WP.draw' s (fun w s => WP.nilck ?_)
      have hne : rg ≠ [] := fun e => by have h0 : rg.length = 0 := (by rw [e]; rfl); omega
      have h7 := h4 hne
      refine WP.ld s 1 rfl (o := o + 0) (by rw [Nat.add_zero]) (h.trans (At_queue_line_queue_item_ring ln)) (WP.nilck ?_)
      refine WP.ld s 1 rfl (o := o + 1) (by rw [add_add]) (h.trans (At_queue_line_queue_item_first ln)) (WP.nilck ?_)
      refine WP.ld s 1 rfl (o := o + 0) (by rw [Nat.add_zero]) (h.trans (At_queue_line_queue_item_ring ln)) ?_
      obtain ⟨b2, e, s2⟩ := s.vec_open (i := 2) rfl (.inl hne)
      refine WP.chk (by omega) ?_
      rw [wrap_i64 (by omega) (by omega)]
      rw [show Int.tmod (ln.first + i) (ln.ring.len : Int) = (((ln.first + i).toNat % rg.length : Nat) : Int) by rw [el, tmod_nat (by omega) (by omega), Int.toNat_natCast]]
      have hk : (ln.first + i).toNat % rg.length < rg.length := Nat.mod_lt _ (by omega)
      have hk2 : (ln.first + i).toNat % rg.length = (ln.first.toNat + i.toNat) % rg.length := by
        congr 1
        omega
      generalize hki : (ln.first + i).toNat % rg.length = k at hk hk2
      refine WP.idxs e (by omega) (by omega) ?_
      have hx := flatMap_at c_queue_item rg k z_queue_item hk
      refine WP.ld s2 2 rfl (o := k * 2) (by simp) (by rw [List.append_nil]; exact hx) ?_
      have hwne : wl ≠ [] := fun e => by have h0 : wl.length = 0 := (by rw [e]; rfl); omega
      obtain ⟨b3, e3, s3⟩ := s.vec_open (i := 0) rfl (.inl hwne)
      refine WP.idxs e3 i0 (by omega) ?_
      refine WP.st s3 0 rfl rfl (L' := ((wl.set i.toNat (rg.getD k z_queue_item)) ++ []).flatMap c_queue_item.enc) (by rw [List.append_nil, List.append_nil]; exact flatMap_upd c_queue_item wl i.toNat _ (by omega)) (fun w s => WP.next ?_)
      rw [wrap_i64 (by omega) (by omega)]
      refine ⟨⟨wl.set i.toNat (rg.getD k z_queue_item), ⟨by omega, by omega, by simpa using i2, fun j hj => ?_⟩, ?_⟩, by omega⟩
      · by_cases ej : j = i.toNat
        · subst ej
          rw [List.getElem?_set_self (by omega)]
          have := h6 i.toNat (by omega)
          rw [← hk2] at this
          rw [← this, List.getD, List.getElem?_eq_getElem hk]
          rfl
        · rw [List.getElem?_set_ne (fun e => ej e.symm)]
          exact i3 j (by omega)
      · refine Ss.close (B := vec c_queue_item r (wl.set i.toNat (rg.getD k z_queue_item)) []) s (i := 0) rfl (fun h hp => ?_)
        have := vec_mk hp
        rw [e3]
        simpa using this
    · have hi' : i.toNat = q.length := by omega
      refine WP.step (R := fun _ w' => ∃ ln' L', Upd L o (c_queue_line_queue_item.enc ln') L' ∧ Ss W (pts true a L' :: Ring ln' (q ++ [x]) :: R) w') ?_ (fun _ w hw => WP.done hw)
      unfold queue_line_queue_item_join.K2
      refine WP.nilck ?_
      obtain ⟨L1, u1, at1⟩ := h.put (⟨r, ln.first, ln.n⟩ : queue_line_queue_item)
      refine WP.st s 1 rfl (o := o + 0) (by rw [Nat.add_zero]) (Upd.trans h (Up_queue_line_queue_item_ring ln _) u1) (fun w s => WP.nilck ?_)
      obtain ⟨L2, u2, at2⟩ := at1.put (⟨r, 0, ln.n⟩ : queue_line_queue_item)
      refine WP.st s 1 rfl (o := o + 1) (by rw [add_add]) (Upd.trans at1 (Up_queue_line_queue_item_first _ _) u2) (fun w s => ?_)
      have s4 := s.use [1] rfl
      refine (join_end_wp (R := vec c_queue_item ln.ring rg [] :: R) (ln := ⟨r, 0, ln.n⟩) (q := q) (rg := wl) x s4 ⟨by simp, h2, by omega, fun _ => by simp only; omega, by omega, fun j hj => ?_⟩ at2 (by omega)).mono ?_
      · simp only [Int.toNat_zero, Nat.zero_add]
        rw [Nat.mod_eq_of_lt (by omega)]
        exact i3 j (by omega)
      · rintro _ w' ⟨ln', L', u, s⟩
        exact ⟨ln', L', (u1.go u2).go u, (s.use [2] rfl).drop⟩
  · exact join_end_wp x s ok h (by omega)
end
end Go.Proofs.Ytgddbpmfendaeaa.Lx
