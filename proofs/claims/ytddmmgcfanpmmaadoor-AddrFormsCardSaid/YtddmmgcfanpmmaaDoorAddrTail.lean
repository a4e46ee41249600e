/- Plain law: written forms of version 6 are read: with four numbers at the end, with a gap ahead of anything that is read on. -/
import Derived.Test.YtddmmgcfanpmmaaDoorAddrBack13
import Derived.Test.YtddmmgcfanpmmaaDoorAddrWritten
set_option linter.unusedVariables false
set_option linter.unusedSimpArgs false
namespace Go.Proofs.YtddmmgcfanpmmaaDoor.Lx
open Go Go.Proofs Go.RowKit
theorem pairs_len {a : Nat} {r : List Nat} (hr : r.length = 3) : (pairs (a :: r)).length = 2 := by
  match r, hr with
  | [b, c, d], _ => rfl
theorem dec3_no {a : Nat} {r : List Int} (ha : a ≤ 255) : ∀ c s, dec3 a ++ r = c :: s → c ≠ 58 := by
  intro c s h
  have h3 := dec3_tab ⟨a, by omega⟩
  have h4 : 0 < (dec3 a).length := h3.2.2.2.1
  cases hd3 : dec3 a with
  | nil => rw [hd3] at h4; cases h4
  | cons x y =>
    rw [hd3] at h
    cases h
    have := dec3_dig (n := a) (by omega) (c := c) (by rw [hd3]; simp)
    omega
theorem read_endT {a : Nat} {r : List Nat} (hr : r.length = 3) (ha : a ≤ 255) (hx : ∀ x ∈ r, x ≤ 255) : ∀ (ms : List (List Int)) (ns : List Nat) (m : List Int) (n f : Nat) (op : Bool) (pre : List Int) (gs : List Nat) (gap : Int), Grp m n → Grps ms ns → ms.length + 1 < f → (gap < 0 → gs.length + 1 + ns.length = 6) → (0 ≤ gap → gs.length + 1 + ns.length ≤ 5) →
    ∃ e, readF (pre ++ (m ++ (wcols ms ++ 58 :: (dec3 a ++ dots r)))) f op ⟨pre.length, gs, gap⟩ = .ok ⟨e, gs ++ n :: (ns ++ pairs (a :: r)), gap⟩
  | [], ns, m, n, f, op, pre, gs, gap, g, h, hf, h8, h7 => by
    cases h
    obtain ⟨f, rfl⟩ : ∃ k, f = k + 2 := ⟨f - 2, by simp at hf; omega⟩
    simp only [List.length_nil] at h8 h7
    have e : wcols [] ++ 58 :: (dec3 a ++ dots r) = 58 :: (dec3 a ++ dots r) := by simp [wcols]
    rw [e, read_more g (by unfold S6.room; simp only; split <;> omega) (dec3_no ha)]
    have e1 : pre ++ (m ++ 58 :: (dec3 a ++ dots r)) = (pre ++ (m ++ [58])) ++ (dec3 a ++ dots r) := by simp
    have hp := pairs_len (a := a) hr
    rw [e1, read_four hr ha hx (.inl (by simp)) (by unfold S6.room; simp only [List.length_append, List.length_cons, List.length_nil]; split <;> omega) (fun h => h.2 (by have := h8 h.1; simp only [List.length_append, List.length_cons, List.length_nil]; omega))]
    exact ⟨_, by simp; rfl⟩
  | m2 :: ms, _, m, n, f, op, pre, gs, gap, g, h, hf, h8, h7 => by
    cases h with
    | cons g2 h =>
      rename_i n2 ns
      simp only [List.length_cons] at hf h8 h7
      obtain ⟨f, rfl⟩ : ∃ k, f = k + 1 := ⟨f - 1, by omega⟩
      have e0 : wcols (m2 :: ms) ++ 58 :: (dec3 a ++ dots r) = 58 :: (m2 ++ (wcols ms ++ 58 :: (dec3 a ++ dots r))) := by
        rw [wcols_cons]
        simp
      rw [e0, read_more g (by unfold S6.room; simp only; split <;> omega) (hex_ne g2)]
      have e1 : pre ++ (m ++ 58 :: (m2 ++ (wcols ms ++ 58 :: (dec3 a ++ dots r)))) = (pre ++ (m ++ [58])) ++ (m2 ++ (wcols ms ++ 58 :: (dec3 a ++ dots r))) := by simp
      obtain ⟨e, he⟩ := read_endT hr ha hx ms ns m2 n2 f false (pre ++ (m ++ [58])) (gs ++ [n]) gap g2 h (by omega) (by intro h; have := h8 h; simp only [List.length_append, List.length_cons, List.length_nil]; omega) (by intro h; have := h7 h; simp only [List.length_append, List.length_cons, List.length_nil]; omega)
      exact ⟨e, by rw [e1, he]; simp⟩
theorem readM_gapG {ms : List (List Int)} {ns res : List Nat} {rest : List Int} (h : Grps ms ns) (h7 : ns.length ≤ 7) (tail : ∀ (pre : List Int) (f : Nat), rest.length < f → ∃ e, readF (pre ++ rest) f true ⟨pre.length, ns, (ns.length : Int)⟩ = .ok ⟨e, res, (ns.length : Int)⟩) :
    ∃ e, readM (wtext ms ++ 58 :: 58 :: rest) = .ok ⟨e, res, (ns.length : Int)⟩ := by
  cases h with
  | nil =>
    show ∃ e, readM (58 :: 58 :: rest) = _
    have hd : doubleM (58 :: 58 :: rest) ⟨0, [], -1⟩ = .ok (true, ⟨2, [], 0⟩) := by
      unfold doubleM
      rw [if_neg (by unfold dblAt; simp), if_neg (by simp)]
      rfl
    unfold readM
    rw [hd]
    exact tail [58, 58] _ (by simp only [List.length_cons]; omega)
  | @cons m n ms ns g h =>
    have hl := wcols_len h
    have h0 := g.p
    simp only [List.length_cons] at h7
    have e1 : wtext (m :: ms) ++ 58 :: 58 :: rest = m ++ (wcols ms ++ 58 :: 58 :: rest) := by simp [wtext]
    have e2 : m ++ (wcols ms ++ 58 :: 58 :: rest) = (m ++ (wcols ms ++ [58, 58])) ++ rest := by simp
    obtain ⟨e, he⟩ := tail (m ++ (wcols ms ++ [58, 58])) ((m ++ (wcols ms ++ 58 :: 58 :: rest)).length + 1 - (ms.length + 1)) (by simp only [List.length_append, List.length_cons, List.length_nil]; omega)
    refine ⟨e, ?_⟩
    rw [e1]
    unfold readM
    rw [double_no (hex_ne g)]
    simp only
    have h1 := read_upto ms ns m n ((m ++ (wcols ms ++ 58 :: 58 :: rest)).length + 1) (decide ((-1 : Int) ≥ 0)) [] rest [] (-1) g h (by simp only [List.length_append]; omega) (by omega) (by simp; omega)
    refine h1.trans ?_
    have e3 : (([] : List Nat).length + 1 + ns.length) = (n :: ns).length := by simp; omega
    rw [e3]
    simp only [List.nil_append]
    rw [e2] at he ⊢
    exact he
theorem readM_gapT {a : Nat} {r : List Nat} (hr : r.length = 3) (ha : a ≤ 255) (hx : ∀ x ∈ r, x ≤ 255) {ms ks : List (List Int)} {ns qs : List Nat} (h : Grps ms ns) (h' : Grps ks qs) (h5 : ns.length + qs.length ≤ 5) :
    ∃ e, readM (wtext ms ++ 58 :: 58 :: (if ks = [] then dec3 a ++ dots r else wtext ks ++ 58 :: (dec3 a ++ dots r))) = .ok ⟨e, ns ++ (qs ++ pairs (a :: r)), (ns.length : Int)⟩ := by
  refine readM_gapG h (by omega) fun pre f hf => ?_
  cases h' with
  | nil =>
    rw [if_pos rfl] at hf ⊢
    obtain ⟨f, rfl⟩ : ∃ k, f = k + 1 := ⟨f - 1, by omega⟩
    simp only [List.length_nil] at h5
    exact ⟨_, read_four hr ha hx (.inr (by omega)) (by unfold S6.room; simp only; split <;> omega) (fun h => absurd h.1 (by omega))⟩
  | @cons k q ks qs g h' =>
    rw [if_neg (by simp)] at hf ⊢
    have hl := wcols_len h'
    have := g.p
    simp only [List.length_cons] at h5
    show ∃ e, readF (pre ++ ((k ++ wcols ks) ++ 58 :: (dec3 a ++ dots r))) f true _ = _
    have hf' : ks.length + 1 < f := by
      have e : wtext (k :: ks) = k ++ wcols ks := rfl
      rw [e] at hf
      simp only [List.length_append, List.length_cons] at hf
      omega
    rw [List.append_assoc]
    exact read_endT hr ha hx ks qs k q f true pre ns _ g h' hf' (fun h => absurd h (by omega)) (fun _ => by omega)
theorem readM_fullT {a : Nat} {r : List Nat} (hr : r.length = 3) (ha : a ≤ 255) (hx : ∀ x ∈ r, x ≤ 255) {ms : List (List Int)} {ns : List Nat} (h : Grps ms ns) (h6 : ns.length = 6) :
    ∃ e, readM (wtext ms ++ 58 :: (dec3 a ++ dots r)) = .ok ⟨e, ns ++ pairs (a :: r), -1⟩ := by
  cases h with
  | nil => cases h6
  | @cons m n ms ns g h =>
    have hl := wcols_len h
    have h0 := g.p
    simp only [List.length_cons] at h6
    have e1 : wtext (m :: ms) ++ 58 :: (dec3 a ++ dots r) = m ++ (wcols ms ++ 58 :: (dec3 a ++ dots r)) := by simp [wtext]
    rw [e1]
    unfold readM
    rw [double_no (hex_ne g)]
    simp only
    exact read_endT hr ha hx ms ns m n _ _ [] [] (-1) g h (by simp only [List.length_append, List.length_cons]; omega) (fun _ => by simp; omega) (fun h => absurd h (by omega))
theorem wtext_lt {ms : List (List Int)} {ns : List Nat} (h : Grps ms ns) (h0 : 0 < ms.length) : (wtext ms).length + 1 ≤ 5 * ms.length := by
  cases h with
  | nil => cases h0
  | @cons m n ms ns g h =>
    have := g.q
    have := wcols_le h
    show (m ++ wcols ms).length + 1 ≤ 5 * (ms.length + 1)
    rw [List.length_append]
    omega
theorem four_len {a : Nat} {r : List Nat} (hr : r.length = 3) (ha : a ≤ 255) (hx : ∀ x ∈ r, x ≤ 255) : (dec3 a ++ dots r).length ≤ 15 := by
  match r, hr with
  | [b, c, d], _ =>
    have h0 := dec3_le (n := a) (by omega)
    have h1 := dec3_le (n := b) (by have := hx b (by simp); omega)
    have h2 := dec3_le (n := c) (by have := hx c (by simp); omega)
    have h3 := dec3_le (n := d) (by have := hx d (by simp); omega)
    simp only [dots, List.flatMap_cons, List.flatMap_nil, List.length_append, List.length_cons, List.length_nil]
    omega
theorem parse_of {l : List Int} {st : S6} {gs : List Nat} (hl : l.length ≤ 45) (hm : (58 : Int) ∈ l) (h : readM l = .ok st) (hw : st.words st.gs.length = gs) : ∃ ip : api_IP, parseM l = .ok ip ∧ ip.V = 6 ∧ ip.A.l = two gs := by
  unfold parseM
  rw [if_neg (by omega), if_pos (firstM_mem hm), h]
  refine ⟨_, rfl, rfl, ?_⟩
  rw [← hw]
  rfl
theorem parse_fullT {a : Nat} {r : List Nat} (hr : r.length = 3) (ha : a ≤ 255) (hx : ∀ x ∈ r, x ≤ 255) {ms : List (List Int)} {ns : List Nat} (h : Grps ms ns) (h6 : ns.length = 6) :
    ∃ ip : api_IP, parseM (wtext ms ++ 58 :: (dec3 a ++ dots r)) = .ok ip ∧ ip.V = 6 ∧ ip.A.l = two (ns ++ pairs (a :: r)) := by
  obtain ⟨e, he⟩ := readM_fullT hr ha hx h h6
  have h2 := h.len
  have h1 := wtext_lt h (by omega)
  have h3 := four_len hr ha hx
  have h4 := pairs_len (a := a) hr
  exact parse_of (by simp only [List.length_append (bs := _ :: _), List.length_cons]; omega) (by simp) he (words_full (by simp only; omega) (by simp only [List.length_append]; omega))
theorem parse_gapT {a : Nat} {r : List Nat} (hr : r.length = 3) (ha : a ≤ 255) (hx : ∀ x ∈ r, x ≤ 255) {ms ks : List (List Int)} {ns qs : List Nat} (h : Grps ms ns) (h' : Grps ks qs) (h5 : ns.length + qs.length ≤ 5) :
    ∃ ip : api_IP, parseM (wtext ms ++ 58 :: 58 :: (if ks = [] then dec3 a ++ dots r else wtext ks ++ 58 :: (dec3 a ++ dots r))) = .ok ip ∧ ip.V = 6 ∧ ip.A.l = two (ns ++ (List.replicate (8 - (ns.length + (qs ++ pairs (a :: r)).length)) 0 ++ (qs ++ pairs (a :: r)))) := by
  obtain ⟨e, he⟩ := readM_gapT hr ha hx h h' h5
  have h1 := wtext_le h
  have h1' := wtext_le h'
  have h2 := h.len
  have h2' := h'.len
  have h3 := four_len hr ha hx
  have h4 := pairs_len (a := a) hr
  refine parse_of ?_ (by simp) he (words_gap (by simp only [List.length_append]; omega))
  split
  · simp only [List.length_append (bs := _ :: _), List.length_cons]
    omega
  · simp only [List.length_append (bs := _ :: _), List.length_cons]
    omega
end Go.Proofs.YtddmmgcfanpmmaaDoor.Lx
