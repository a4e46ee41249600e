/- Package ring's calls, of their programs in the M-world: they do what the plain value says. -/
import Derived.Test.YtoddkagehbcfjaaRingPort
set_option linter.unusedVariables false
set_option linter.unusedSimpArgs false
namespace Go.Proofs.Ytoddkagehbcfjaa.Lx
open Go Go.Proofs Go.RowKit

theorem getD_get {α : Type} {l : List α} {i : Nat} {z : α} (h : i < l.length) : l[i]? = some (l.getD i z) := by rw [List.getD, List.getElem?_eq_getElem h]; rfl
namespace RM
/-- k free buffers, posted one by one -/
def refs : Nat → RM → RM
  | 0, m => m
  | k + 1, m => match (refs k m).L 1 with
    | i :: _ => ((refs k m).out 1).mv i 2
    | [] => refs k m
def refN (m : RM) (n : Int) : Nat := min n.toNat (min (m.L 1).length (m.rx - ((m.L 2).length + (m.L 3).length)))
theorem refs_spec {m : RM} : ∀ (k : Nat), k ≤ (m.L 1).length → ((m.refs k).L 1) = (m.L 1).drop k ∧ ((m.refs k).L 2) = m.L 2 ++ (m.L 1).take k ∧ ((m.refs k).L 3) = m.L 3 ∧ ((m.refs k).L 5) = m.L 5 ∧ (m.refs k).rx = m.rx ∧ (m.refs k).tx = m.tx ∧ (m.refs k).size = m.size ∧ (m.refs k).dat = m.dat ∧ (m.refs k).len = m.len
  | 0, _ => by simp [refs]
  | k + 1, h => by
    obtain ⟨h1, h2, h3, h4, h5, h6, h7, h8, h9⟩ := refs_spec (m := m) k (by omega)
    have hd : (m.L 1).drop k = (m.L 1)[k]'(by omega) :: (m.L 1).drop (k + 1) := List.drop_eq_getElem_cons (by omega)
    rw [hd] at h1
    unfold refs
    rw [h1]
    simp only
    refine ⟨?_, ?_, ?_, ?_, h5, h6, h7, h8, h9⟩
    · simp [out, mv, h1]
    · rw [List.take_add_one, List.getElem?_eq_getElem (show k < (m.L 1).length by omega)]
      simp [out, mv, h2]
    · simp [out, mv, h3]
    · simp [out, mv, h4]
theorem refs_step {m : RM} {k i : Nat} {t : List Nat} (h : (m.refs k).L 1 = i :: t) : m.refs (k + 1) = ((m.refs k).out 1).mv i 2 := by
  show (match (refs k m).L 1 with | i :: _ => ((refs k m).out 1).mv i 2 | [] => refs k m) = _
  rw [h]
theorem refs_ok {m : RM} (ok : m.Ok) : ∀ k, k ≤ (m.L 1).length → k + ((m.L 2).length + (m.L 3).length) ≤ m.rx → (m.refs k).Ok
  | 0, _, _ => ok
  | k + 1, h, h' => by
    have ih := refs_ok ok k (by omega) (by omega)
    obtain ⟨h1, h2, h3, h4, h5, h6, h7, h8, h9⟩ := refs_spec (m := m) k (by omega)
    have hd : (m.L 1).drop k = (m.L 1)[k]'(by omega) :: (m.L 1).drop (k + 1) := List.drop_eq_getElem_cons (by omega)
    rw [hd] at h1
    rw [refs_step h1]
    have hl : ((m.L 1).take k).length = k := by rw [List.length_take]; omega
    refine ih.move (.inl rfl) h1 (.inr (.inl rfl)) ?_ ?_
    · simp [RM.out, RM.mv, h2, h3, h5, hl]
      omega
    · have := ok.qq
      simp [RM.out, RM.mv, h4, h6]
      exact this
def arrive (m : RM) (xs : List Int) : RM × Int :=
  if xs.length > 65535 then (m, 2) else if xs.length > m.size then (m, 30) else match m.L 2 with
    | [] => (m, 31)
    | i :: _ => ((((m.out 2).setd i (xs ++ (m.dat.getD i []).drop xs.length)).setl i xs.length).mv i 3, 0)
def heldE (m : RM) (i : Int) : Int := if i < 0 ∨ i ≥ m.n then 1 else if m.place.getD i.toNat 0 ≠ 4 then 34 else 0
def release (m : RM) (i : Int) : RM × Int := if m.heldE i ≠ 0 then (m, m.heldE i) else (m.mv i.toNat 1, 0)
def send (m : RM) (i n : Int) : RM × Int :=
  if i < 0 ∨ i ≥ m.n ∨ n < 0 ∨ n > m.size then (m, 1) else if m.heldE i ≠ 0 then (m, m.heldE i) else if (m.L 5).length = m.tx then (m, 32) else ((m.setl i.toNat n).mv i.toNat 5, 0)
end RM
section
variable {W w : World} {R : List HP} {p : Option Addr} {pa : Addr} {P : ring_Port} {ad : List (Option Addr)} {m : RM}
theorem Refill_wp (s : Ss W (Port p m ad :: R) w) (n : Int) : WP (ring_Port_Refill p n) w (fun r w' => r = m.refN n ∧ Ss W (Port p (m.refs (m.refN n)) ad :: R) w') := by
  unfold ring_Port_Refill
  have ok := s.okR
  refine WP.loop (fun (k : Int) w' => 0 ≤ k ∧ k ≤ m.refN n ∧ Ss W (Port p (m.refs k.toNat) ad :: R) w') (fun k _ => ((m.refN n : Int) - k).toNat) ⟨by omega, by omega, s⟩ ?_
  clear s
  rintro k w ⟨k0, k1, s⟩
  unfold ring_Port_Refill.L1
  have hN : m.refN n ≤ n.toNat ∧ m.refN n ≤ (m.L 1).length ∧ m.refN n ≤ m.rx - ((m.L 2).length + (m.L 3).length) := by unfold RM.refN; omega
  have hN2 : m.refN n = n.toNat ∨ m.refN n = (m.L 1).length ∨ m.refN n = m.rx - ((m.L 2).length + (m.L 3).length) := by unfold RM.refN; omega
  obtain ⟨h1, h2, h3, h4, h5, h6, h7, h8, h9⟩ := RM.refs_spec (m := m) k.toNat (by omega)
  have hrr := ok.rr
  have hr1 := ok.r1
  have hn1 := ok.n1
  refine WP.draw' s (fun w s => ?_)
  obtain ⟨pa, P, rfl, po, ok', s⟩ := s.openR
  have nf := n_free s
  have np := n_posted s
  have nq := n_filled s
  rw [h1, List.length_drop] at nf
  rw [h2, List.length_append, List.length_take] at np
  rw [h3] at nq
  refine WP.step (R := fun y w' => y = decide (k < n ∧ k.toNat < (m.L 1).length) ∧ w = w') (WP.ite (fun h => WP.nilck ?_) (fun h => WP.ret ⟨by simp [h], rfl⟩)) ?_
  · refine WP.ld s 0 rfl (o := 6 + 2) (by rw [add_add]) ((At_ring_Port_free _).trans (At_ring_line_n _)) (WP.ret ⟨?_, rfl⟩)
    rw [nf.1]
    simp [h]
    omega
  rintro _ _ ⟨rfl, rfl⟩
  refine WP.step (R := fun y w' => y = decide (k < n ∧ k.toNat < (m.L 1).length ∧ k.toNat < m.rx - ((m.L 2).length + (m.L 3).length)) ∧ w = w') (WP.ite (fun h => WP.nilck ?_) (fun h => WP.ret ⟨?_, rfl⟩)) ?_
  · have h := of_decide_eq_true h
    refine WP.ld s 0 rfl (o := 9 + 2) (by rw [add_add]) ((At_ring_Port_posted _).trans (At_ring_line_n _)) (WP.nilck ?_)
    refine WP.ld s 0 rfl (o := 12 + 2) (by rw [add_add]) ((At_ring_Port_filled _).trans (At_ring_line_n _)) (WP.nilck ?_)
    refine WP.ld s 0 rfl (o := 1) rfl (At_ring_Port_rx _) (WP.ret ⟨?_, rfl⟩)
    rw [np.1, nq.1, po.rx, h5, wrap_i64 (by omega) (by omega)]
    simp [h]
    omega
  · symm
    rw [decide_eq_false_iff_not]
    intro h'
    exact h (decide_eq_true ⟨h'.1, h'.2.1⟩)
  rintro _ _ ⟨rfl, rfl⟩
  refine WP.ite (fun h => WP.nilck ?_) (fun h => WP.done ?_)
  · obtain ⟨g1, g2, g3⟩ := of_decide_eq_true h
    have hd : (m.L 1).drop k.toNat = (m.L 1)[k.toNat]'(by omega) :: (m.L 1).drop (k.toNat + 1) := List.drop_eq_getElem_cons (by omega)
    rw [hd] at h1
    generalize (m.L 1)[k.toNat] = i at h1
    have hi : i < (m.refs k.toNat).n := ok'.lt (k := 1) (.inl rfl) (by rw [h1]; simp)
    refine WP.step (leave_free s h1) ?_
    rintro _ w ⟨rfl, ln, s⟩
    refine WP.nilck (WP.ld s 0 rfl (o := 4) rfl (At_ring_Port_place _) ?_)
    refine WP.stx s 2 rfl (by omega) (by show (i : Int) < (m.refs k.toNat).place.length; rw [ok'.pl]; omega) rfl (fun w s => WP.nilck ?_)
    rw [Int.toNat_natCast] at s
    have s : Ss W (PortHs pa { P with free := ln } ad { ((m.refs k.toNat).out 1) with place := (m.refs k.toNat).place.set i 2 } ++ R) w := s
    refine WP.step (join_posted s i (by
      show ((m.refs k.toNat).L 2).length < (m.refs k.toNat).rx
      rw [h2, h5, List.length_append, List.length_take]
      omega)) ?_
    rintro _ w ⟨ln2, s⟩
    refine WP.next ?_
    rw [wrap_i64 (by omega) (by omega)]
    have ek : (k + 1).toNat = k.toNat + 1 := by omega
    refine ⟨⟨by omega, by omega, ?_⟩, by omega⟩
    rw [ek, RM.refs_step h1]
    have okm : (((m.refs k.toNat).out 1).mv i 2).Ok := by
      rw [← RM.refs_step h1]
      exact RM.refs_ok ok _ (by omega) (by omega)
    exact Ss.closeR (P := { { P with free := ln } with posted := ln2 }) s rfl ⟨po.size, po.rx, po.tx, po.ad⟩ okm
  · have hk : k = m.refN n := by
      have h' : ¬ (k < n ∧ k.toNat < (m.L 1).length ∧ k.toNat < m.rx - ((m.L 2).length + (m.L 3).length)) := fun hx => h (decide_eq_true hx)
      omega
    subst hk
    exact ⟨rfl, Ss.closeR s rfl po ok'⟩
theorem held_wp (s : Ss W (PortHs pa P ad m ++ R) w) (ok : m.Ok) (i : Int) : WP (ring_Port_held (some pa) i) w (fun r w' => r = m.heldE i ∧ Ss W (PortHs pa P ad m ++ R) w') := by
  unfold ring_Port_held RM.heldE
  have hpl := (s.vec_len (i := 2) rfl).1
  rw [ok.pl] at hpl
  refine WP.step (R := fun y w' => y = decide (i < 0 ∨ i ≥ m.n) ∧ w = w') (WP.ite (fun h => WP.ret ⟨by simp [h], rfl⟩) (fun h => WP.nilck ?_)) ?_
  · refine WP.ld s 0 rfl (o := 4) rfl (At_ring_Port_place _) (WP.ret ⟨?_, rfl⟩)
    rw [hpl]
    simp [h]
  rintro _ _ ⟨rfl, rfl⟩
  refine WP.ite (fun h => WP.ret ⟨by rw [if_pos (of_decide_eq_true h)], s⟩) (fun h => WP.nilck ?_)
  have h' : ¬ (i < 0 ∨ i ≥ m.n) := fun hx => h (decide_eq_true hx)
  rw [if_neg h']
  have hx := getD_get (z := (0 : Int)) (l := m.place) (i := i.toNat) (by rw [ok.pl]; omega)
  refine WP.ld s 0 rfl (o := 4) rfl (At_ring_Port_place _) ?_
  refine WP.rdx s 2 rfl vec_rdb (by omega) hx rfl ?_
  refine WP.ite (fun h => WP.ret ⟨by rw [if_pos h], s⟩) (fun h => WP.ret ⟨by rw [if_neg h], s⟩)
theorem heldE_cases (m : RM) (i : Int) : m.heldE i = 1 ∨ m.heldE i = 34 ∨ (m.heldE i = 0 ∧ 0 ≤ i ∧ i < m.n ∧ m.place.getD i.toNat 0 = 4) := by
  unfold RM.heldE
  by_cases h : i < 0 ∨ i ≥ m.n
  · rw [if_pos h]
    exact .inl rfl
  · rw [if_neg h]
    by_cases h2 : m.place.getD i.toNat 0 ≠ 4
    · rw [if_pos h2]
      exact .inr (.inl rfl)
    · rw [if_neg h2]
      exact .inr (.inr ⟨rfl, by omega, by omega, Classical.not_not.1 h2⟩)
theorem RM.Ok.release (ok : m.Ok) (i : Int) : (m.release i).1.Ok := by
  unfold RM.release
  split
  · exact ok
  · rename_i h
    rcases heldE_cases m i with e | e | ⟨e, e1, e2, e3⟩
    · exact absurd e (by intro e; rw [e] at h; exact h (by decide))
    · exact absurd e (by intro e; rw [e] at h; exact h (by decide))
    · have hp : m.place[i.toNat]? = some 4 := by rw [getD_get (z := (0 : Int)) (by rw [ok.pl]; omega), e3]
      refine ok.hold hp (.inl rfl) ?_ ?_
      · have := ok.rr
        simpa [RM.mv] using this
      · have := ok.qq
        simpa [RM.mv] using this
theorem Release_wp (s : Ss W (Port p m ad :: R) w) (i : Int) : WP (ring_Port_Release p i) w (fun r w' => r = (m.release i).2 ∧ Ss W (Port p (m.release i).1 ad :: R) w') := by
  unfold ring_Port_Release
  obtain ⟨pa, P, rfl, po, ok, s⟩ := s.openR
  have okr := ok.release i
  refine WP.step (held_wp s ok i) ?_
  rintro _ w ⟨rfl, s⟩
  unfold RM.release at okr ⊢
  refine WP.ite (fun h => WP.ret ⟨by rw [if_pos h], by rw [if_pos h]; exact Ss.closeR s rfl po ok⟩) (fun h => ?_)
  rw [if_neg h] at okr ⊢
  rcases heldE_cases m i with e | e | ⟨e, e1, e2, e3⟩
  · exact absurd (by rw [e]; decide) h
  · exact absurd (by rw [e]; decide) h
  obtain ⟨i, rfl⟩ : ∃ n : Nat, i = n := ⟨i.toNat, by omega⟩
  rw [Int.toNat_natCast] at e3 okr ⊢
  have hnot : i ∉ m.L 1 := fun hm => by
    have := ok.f 1 i (.inl rfl) hm
    rw [getD_get (z := (0 : Int)) (by rw [ok.pl]; omega), e3] at this
    cases this
  refine WP.nilck (WP.ld s 0 rfl (o := 4) rfl (At_ring_Port_place _) ?_)
  refine WP.stx s 2 rfl (by omega) (by rw [ok.pl]; exact e2) rfl (fun w s => WP.nilck ?_)
  rw [Int.toNat_natCast] at s
  have s : Ss W (PortHs pa P ad { m with place := m.place.set i 1 } ++ R) w := s
  refine WP.step (join_free s i (ok.room (k := 1) (.inl rfl) (by omega) hnot)) ?_
  rintro _ w ⟨ln, s⟩
  exact WP.ret ⟨rfl, Ss.closeR (P := { P with free := ln }) s rfl ⟨po.size, po.rx, po.tx, po.ad⟩ okr⟩
theorem RM.Ok.send (ok : m.Ok) (i n : Int) : (m.send i n).1.Ok := by
  unfold RM.send
  split
  · exact ok
  · rename_i h1
    split
    · exact ok
    · rename_i h
      split
      · exact ok
      · rename_i h2
        rcases heldE_cases m i with e | e | ⟨e, e1, e2, e3⟩
        · exact absurd (by rw [e]; decide) h
        · exact absurd (by rw [e]; decide) h
        · have hp : m.place[i.toNat]? = some 4 := by rw [getD_get (z := (0 : Int)) (by rw [ok.pl]; omega), e3]
          refine RM.Ok.hold (m := m.setl i.toNat n) (ok.setl (by omega)) hp (.inr (.inr (.inr rfl))) ?_ ?_
          · have := ok.rr
            simpa [RM.mv, RM.setl] using this
          · have := ok.qq
            simp [RM.mv, RM.setl]
            omega
theorem Send_wp (s : Ss W (Port p m ad :: R) w) (i n : Int) : WP (ring_Port_Send p i n) w (fun r w' => r = (m.send i n).2 ∧ Ss W (Port p (m.send i n).1 ad :: R) w') := by
  unfold ring_Port_Send
  obtain ⟨pa, P, rfl, po, ok, s⟩ := s.openR
  have okr := ok.send i n
  have hpl := (s.vec_len (i := 2) rfl).1
  rw [ok.pl] at hpl
  refine WP.step (R := fun y w' => y = decide (i < 0 ∨ i ≥ m.n) ∧ w = w') (WP.ite (fun h => WP.ret ⟨by simp [h], rfl⟩) (fun h => WP.nilck ?_)) ?_
  · refine WP.ld s 0 rfl (o := 4) rfl (At_ring_Port_place _) (WP.ret ⟨?_, rfl⟩)
    rw [hpl]
    simp [h]
  rintro _ _ ⟨rfl, rfl⟩
  refine WP.step (R := fun y w' => y = decide (i < 0 ∨ i ≥ m.n ∨ n < 0) ∧ w = w') (WP.ite (fun h => WP.ret ⟨by rcases of_decide_eq_true h with h | h <;> simp [h], rfl⟩) (fun h => WP.ret ⟨?_, rfl⟩)) ?_
  · have h' : ¬ (i < 0 ∨ i ≥ m.n) := fun hx => h (decide_eq_true hx)
    by_cases hn : n < 0
    · simp [hn]
    · rw [decide_eq_false hn]
      symm
      rw [decide_eq_false_iff_not]
      omega
  rintro _ _ ⟨rfl, rfl⟩
  refine WP.step (R := fun y w' => y = decide (i < 0 ∨ i ≥ m.n ∨ n < 0 ∨ n > m.size) ∧ w = w') (WP.ite (fun h => WP.ret ⟨?_, rfl⟩) (fun h => WP.nilck ?_)) ?_
  · have h' := of_decide_eq_true h
    symm
    rw [decide_eq_true_iff]
    omega
  · have h' : ¬ (i < 0 ∨ i ≥ m.n ∨ n < 0) := fun hx => h (decide_eq_true hx)
    refine WP.ld s 0 rfl (o := 0) (by simp [Addr.add]) (At_ring_Port_size _) (WP.ret ⟨?_, rfl⟩)
    rw [po.size]
    by_cases hn : n > m.size
    · simp [hn]
    · rw [decide_eq_false hn]
      symm
      rw [decide_eq_false_iff_not]
      omega
  rintro _ _ ⟨rfl, rfl⟩
  unfold RM.send at okr ⊢
  refine WP.ite (fun h => WP.ret ⟨by rw [if_pos (of_decide_eq_true h)], by rw [if_pos (of_decide_eq_true h)]; exact Ss.closeR s rfl po ok⟩) (fun h => ?_)
  have h' : ¬ (i < 0 ∨ i ≥ m.n ∨ n < 0 ∨ n > m.size) := fun hx => h (decide_eq_true hx)
  rw [if_neg h'] at okr ⊢
  refine WP.step (held_wp s ok i) ?_
  rintro _ w ⟨rfl, s⟩
  refine WP.ite (fun h => WP.ret ⟨by rw [if_pos h], by rw [if_pos h]; exact Ss.closeR s rfl po ok⟩) (fun h => ?_)
  rw [if_neg h] at okr ⊢
  rcases heldE_cases m i with e | e | ⟨e, e1, e2, e3⟩
  · exact absurd (by rw [e]; decide) h
  · exact absurd (by rw [e]; decide) h
  have nq := n_queued s
  refine WP.draw' s (fun w s => WP.nilck ?_)
  refine WP.ld s 0 rfl (o := 15 + 2) (by rw [add_add]) ((At_ring_Port_queued _).trans (At_ring_line_n _)) (WP.nilck ?_)
  refine WP.ld s 0 rfl (o := 2) rfl (At_ring_Port_tx _) ?_
  rw [nq.1, po.tx]
  refine WP.ite (fun h => WP.ret ⟨by rw [if_pos (by omega)], by rw [if_pos (by omega)]; exact Ss.closeR s rfl po ok⟩) (fun h => WP.draw' s (fun w s => WP.nilck ?_))
  rw [if_neg (show ¬ (m.L 5).length = m.tx by omega)] at okr ⊢
  obtain ⟨i, rfl⟩ : ∃ n : Nat, i = n := ⟨i.toNat, by omega⟩
  rw [Int.toNat_natCast] at e3 okr ⊢
  refine WP.ld s 0 rfl (o := 4) rfl (At_ring_Port_place _) (WP.nilck ?_)
  refine WP.ld s 0 rfl (o := 5) rfl (At_ring_Port_length _) ?_
  refine WP.stx s 2 rfl (by omega) (by rw [ok.pl]; exact e2) rfl (fun w s => ?_)
  refine WP.stx s 3 rfl (by omega) (by rw [ok.ll]; exact e2) rfl (fun w s => WP.nilck ?_)
  rw [Int.toNat_natCast] at s
  have s : Ss W (PortHs pa P ad { m.setl i n with place := m.place.set i 5 } ++ R) w := s
  refine WP.step (join_queued s i (by show (m.L 5).length < m.tx; omega)) ?_
  rintro _ w ⟨ln, s⟩
  exact WP.ret ⟨rfl, Ss.closeR (P := { P with queued := ln }) s rfl ⟨po.size, po.rx, po.tx, po.ad⟩ okr⟩
theorem Places_wp (s : Ss W (Port p m ad :: R) w) : WP (ring_Port_Places p) w (fun r w' => Ss W (vec (cI .i64) r m.place [] :: Port p m ad :: R) w') := by
  unfold ring_Port_Places
  obtain ⟨pa, P, rfl, po, ok, s⟩ := s.openR
  have hpl := (s.vec_len (i := 2) rfl).1
  have hn := ok.n1
  rw [ok.pl] at hpl
  refine WP.nilck (WP.ld s 0 rfl (o := 4) rfl (At_ring_Port_place _) ?_)
  rw [hpl]
  refine WP.mkS s (by omega) (Int.le_refl _) (by omega) (by omega) (fun r w s _ => WP.nilck ?_)
  rw [Int.sub_self, Int.toNat_natCast, show Int.toNat 0 = 0 from rfl, List.replicate_zero] at s
  refine WP.ld s 1 rfl (o := 4) rfl (At_ring_Port_place _) ?_
  refine WP.cpy s 0 rfl 3 rfl vec_rdb (by decide) (fun w s => WP.ret ?_)
  have e : min m.place.length (List.replicate m.n (0 : Int)).length = m.place.length := by rw [List.length_replicate, ok.pl]; omega
  rw [e, List.take_length, List.drop_eq_nil_of_le (by rw [List.length_replicate, ok.pl]; omega), List.append_nil] at s
  exact (Ss.closeR (R := vec (cI .i64) r m.place [] :: R) (s.use [1, 1, 1, 1, 1, 1, 1, 1, 1] rfl) rfl po ok).use [1] rfl
theorem RM.Ok.place_get (ok : m.Ok) {i : Nat} {x : Int} (h : m.place[i]? = some x) : 1 ≤ x ∧ x ≤ 5 := by
  obtain ⟨k, rfl, h1, h2, _⟩ := ok.p i x h
  omega
def statOf (l : List Int) : api_RingStat := ⟨(l.count 1 : Nat), (l.count 2 : Nat), (l.count 3 : Nat), (l.count 4 : Nat), (l.count 5 : Nat)⟩
theorem Stat_wp (s : Ss W (Port p m ad :: R) w) : WP (ring_Port_Stat p) w (fun r w' => r = statOf m.place ∧ Ss W (Port p m ad :: R) w') := by
  unfold ring_Port_Stat
  refine WP.slot' s (fun _ w s => WP.slot' s (fun _ w s => ?_))
  obtain ⟨pa, P, rfl, po, ok, s⟩ := s.openR
  have hpl := (s.vec_len (i := 2) rfl).1
  have hn := ok.n1
  rw [ok.pl] at hpl
  refine WP.nilck (WP.ld s 0 rfl (o := 4) rfl (At_ring_Port_place _) ?_)
  refine WP.loop (fun (x : Int × Vec Int 6) w' => 0 ≤ x.1 ∧ x.1 ≤ m.n ∧ (∀ k : Nat, 1 ≤ k → k ≤ 5 → x.2.l[k]? = some (((m.place.take x.1.toNat).count (k : Int) : Nat) : Int)) ∧ Ss W (PortHs pa P ad m ++ R) w') (fun x _ => ((m.n : Int) - x.1).toNat) ⟨by simp, by simp, fun k h1 h2 => ?_, s⟩ ?_
  · show (List.replicate 6 (0 : Int))[k]? = _
    rw [List.getElem?_replicate, if_pos (by omega)]
    simp
  clear s
  rintro ⟨k, v⟩ w ⟨k0, k1, hv, s⟩
  simp only at k0 k1 hv
  show WP (ring_Port_Stat.L1 P.place k v) w _
  unfold ring_Port_Stat.L1
  refine WP.ite (fun hk => ?_) (fun hk => ?_)
  · rw [hpl] at hk
    have hkl : k.toNat < m.place.length := by rw [ok.pl]; omega
    have hx := List.getElem?_eq_getElem hkl
    generalize m.place[k.toNat] = x at hx
    have hb := ok.place_get hx
    refine WP.rdx s 2 rfl vec_rdb k0 hx rfl (WP.chk (by omega) (WP.chk (by omega) (WP.next ?_)))
    rw [wrap_i64 (n := k + 1) (by omega) (by omega)]
    refine ⟨⟨by simp only; omega, by simp only; omega, fun j h1 h2 => ?_, s⟩, by simp only; omega⟩
    have hcnt : ∀ j : Nat, (m.place.take (k + 1).toNat).count (j : Int) = (m.place.take k.toNat).count (j : Int) + (if x = (j : Int) then 1 else 0) := by
      intro j
      rw [show (k + 1).toNat = k.toNat + 1 by omega, List.take_add_one, hx, List.count_append]
      simp only [Option.toList_some, List.count_singleton]
      congr 1
      by_cases e : x = (j : Int)
      · simp [e]
      · simp [e]
    rw [hcnt]
    have hvl := v.h
    have hle : (m.place.take k.toNat).count (j : Int) ≤ m.n := by
      refine Nat.le_trans List.count_le_length ?_
      rw [List.length_take, ok.pl]
      omega
    by_cases e : x = (j : Int)
    · have ej : x.toNat = j := by omega
      show (v.l.set x.toNat _)[j]? = _
      rw [ej, List.getElem?_set_self (by omega), if_pos e]
      unfold Vec.g
      rw [ej, List.getD, hv j h1 h2]
      simp only [Option.getD_some]
      rw [wrap_i64 (by omega) (by omega)]
      rfl
    · show (v.l.set x.toNat _)[j]? = _
      rw [List.getElem?_set_ne (by omega), if_neg e, Nat.add_zero]
      exact hv j h1 h2
  · rw [hpl] at hk
    have hkn : k.toNat = m.place.length := by rw [ok.pl]; omega
    rw [hkn, List.take_length] at hv
    unfold ring_Port_Stat.K1
    refine WP.step (R := fun r w' => r = statOf m.place ∧ Ss W (Port (some pa) m ad :: R) w') (WP.ret ⟨?_, Ss.closeR s rfl po ok⟩) (fun r w h => WP.done h)
    unfold statOf Vec.g
    have e1 := hv 1 (by omega) (by omega)
    have e2 := hv 2 (by omega) (by omega)
    have e3 := hv 3 (by omega) (by omega)
    have e4 := hv 4 (by omega) (by omega)
    have e5 := hv 5 (by omega) (by omega)
    simp only [List.getD, show (1 : Int).toNat = 1 from rfl, show (2 : Int).toNat = 2 from rfl, show (3 : Int).toNat = 3 from rfl, show (4 : Int).toNat = 4 from rfl, show (5 : Int).toNat = 5 from rfl, e1, e2, e3, e4, e5]
    rfl
end
end Go.Proofs.Ytoddkagehbcfjaa.Lx
