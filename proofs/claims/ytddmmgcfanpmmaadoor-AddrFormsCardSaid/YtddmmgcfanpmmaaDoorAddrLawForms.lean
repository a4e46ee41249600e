/- weirlaw4.AddrForms: an address of version 6 is read however it is written: the walk. -/
import Derived.Test.YtddmmgcfanpmmaaDoorAddrTail
set_option linter.unusedVariables false
set_option linter.unusedSimpArgs false
namespace Go.Proofs.YtddmmgcfanpmmaaDoor.Lx
open Go Go.Proofs Go.RowKit
theorem Grps.snoc {ms : List (List Int)} {ns : List Nat} {m : List Int} {n : Nat} (h : Grps ms ns) (g : Grp m n) : Grps (ms ++ [m]) (ns ++ [n]) := by
  induction h with
  | nil => exact .cons g .nil
  | cons g' _ ih => exact .cons g' ih
theorem wtext_snoc (ms : List (List Int)) (m : List Int) : wtext (ms ++ [m]) = if ms = [] then m else wtext ms ++ 58 :: m := by
  cases ms with
  | nil => simp [wtext, wcols]
  | cons x r => simp [wtext, wcols]
def Txt (a : List Int) (i j k : Nat) (l : List Int) : Prop :=
  if k ≤ i then ∃ ms, Grps ms ((grps a).take k) ∧ l = wtext ms
  else ∃ ms ks, Grps ms ((grps a).take i) ∧ Grps ks (((grps a).take k).drop j) ∧ l = wtext ms ++ 58 :: 58 :: wtext ks
def Gap (a : List Int) (n i j : Nat) : Prop := (i = n ∧ j = n) ∨ (i < j ∧ j ≤ n ∧ ∀ k, i ≤ k → k < j → grp a k = 0)
theorem Grps.le8 {ms : List (List Int)} {ns : List Nat} (h : Grps ms ns) (h8 : ns.length ≤ 8) : (wtext ms).length ≤ 40 := by
  have := wtext_le h
  have := h.len
  omega
theorem Txt.len {a : List Int} {i j k : Nat} {l : List Int} (h : Txt a i j k l) : l.length ≤ 90 := by
  have h8 := grps_len a
  unfold Txt at h
  split at h
  · obtain ⟨ms, h1, rfl⟩ := h
    have := h1.le8 (by rw [List.length_take]; omega)
    omega
  · obtain ⟨ms, ks, h1, h2, rfl⟩ := h
    have := h1.le8 (by rw [List.length_take]; omega)
    have := h2.le8 (by rw [List.length_drop, List.length_take]; omega)
    simp only [List.length_append, List.length_cons]
    omega
theorem Txt.byt {a : List Int} {i j k : Nat} {l : List Int} (h : Txt a i j k l) : Byt l := by
  unfold Txt at h
  split at h
  · obtain ⟨ms, h1, rfl⟩ := h
    exact wtext_byt h1
  · obtain ⟨ms, ks, h1, h2, rfl⟩ := h
    refine (wtext_byt h1).app (fun c hc => ?_)
    simp only [List.mem_cons] at hc
    rcases hc with rfl | rfl | hc
    · omega
    · omega
    · exact wtext_byt h2 c hc
theorem grps_get {a : List Int} {k : Nat} (h : k < 8) : (grps a)[k]? = some (grp a k) := by
  unfold grps
  rw [List.getElem?_map, List.getElem?_range h]
  rfl
theorem take_snoc {a : List Int} {k : Nat} (h : k < 8) : (grps a).take (k + 1) = (grps a).take k ++ [grp a k] := by
  rw [List.take_add_one, grps_get h]
  rfl
theorem Txt.more {a : List Int} {i j k : Nat} {l m : List Int} (h : Txt a i j k l) (hk : k < i) (h8 : k < 8) (g : Grp m (grp a k)) : Txt a i j (k + 1) (if k = 0 then l ++ m else (l ++ [58]) ++ m) := by
  unfold Txt at h ⊢
  rw [if_pos (by omega)] at h ⊢
  obtain ⟨ms, h1, rfl⟩ := h
  refine ⟨ms ++ [m], by rw [take_snoc h8]; exact h1.snoc g, ?_⟩
  have hl := h1.len
  rw [List.length_take, grps_len] at hl
  rw [wtext_snoc]
  by_cases e : k = 0
  · have : ms = [] := List.eq_nil_of_length_eq_zero (by omega)
    subst this
    rw [if_pos e, if_pos rfl]
    rfl
  · have : ms ≠ [] := fun h => by rw [h] at hl; simp at hl; omega
    rw [if_neg e, if_neg this]
    simp
theorem Txt.gap {a : List Int} {i j : Nat} {l : List Int} (h : Txt a i j i l) (hj : i < j) : Txt a i j (i + 1) (l ++ [58, 58]) := by
  unfold Txt at h ⊢
  rw [if_pos (by omega)] at h
  rw [if_neg (by omega)]
  obtain ⟨ms, h1, rfl⟩ := h
  refine ⟨ms, [], h1, ?_, by simp [wtext]⟩
  rw [List.drop_of_length_le (by rw [List.length_take]; omega)]
  exact .nil
theorem Txt.on {a : List Int} {i j k : Nat} {l : List Int} (h : Txt a i j k l) (h1 : i < k) (h2 : k < j) : Txt a i j (k + 1) l := by
  unfold Txt at h ⊢
  rw [if_neg (by omega)] at h ⊢
  obtain ⟨ms, ks, h3, h4, h5⟩ := h
  rw [List.drop_of_length_le (by rw [List.length_take]; omega)] at h4 ⊢
  exact ⟨ms, ks, h3, h4, h5⟩
theorem Txt.back {a : List Int} {i j k : Nat} {l m : List Int} (h : Txt a i j k l) (h1 : i < k) (h2 : j ≤ k) (h8 : k < 8) (g : Grp m (grp a k)) : Txt a i j (k + 1) (if k = j then l ++ m else (l ++ [58]) ++ m) := by
  unfold Txt at h ⊢
  rw [if_neg (by omega)] at h ⊢
  obtain ⟨ms, ks, h3, h4, rfl⟩ := h
  have hlt : ((grps a).take k).length = k := by rw [List.length_take, grps_len]; omega
  refine ⟨ms, ks ++ [m], h3, ?_, ?_⟩
  · rw [take_snoc h8, List.drop_append_of_le_length (by omega)]
    exact h4.snoc g
  · have hl := h4.len
    rw [List.length_drop, hlt] at hl
    rw [wtext_snoc]
    by_cases e : k = j
    · have : ks = [] := List.eq_nil_of_length_eq_zero (by omega)
      subst this
      rw [if_pos e, if_pos rfl]
      simp [wtext]
    · have : ks ≠ [] := fun h => by rw [h] at hl; simp at hl; omega
      rw [if_neg e, if_neg this]
      simp
theorem gap_take {a : List Int} {n i j : Nat} (h : i < j ∧ j ≤ n ∧ ∀ k, i ≤ k → k < j → grp a k = 0) (hn : n ≤ 8) : grps a = (grps a).take i ++ (List.replicate (j - i) 0 ++ (grps a).drop j) := by
  obtain ⟨h1, h2, h3⟩ := h
  have e : ((grps a).drop i).take (j - i) = List.replicate (j - i) 0 := by
    rw [List.eq_replicate_iff]
    refine ⟨by rw [List.length_take, List.length_drop, grps_len]; omega, fun b hb => ?_⟩
    obtain ⟨q, hq⟩ := List.mem_iff_getElem?.1 hb
    rw [List.getElem?_take] at hq
    split at hq
    · rename_i hlt
      rw [List.getElem?_drop, grps_get (by omega)] at hq
      cases hq
      exact h3 _ (by omega) (by omega)
    · cases hq
  rw [← e, show (grps a).drop j = ((grps a).drop i).drop (j - i) by rw [List.drop_drop]; congr 1; omega, List.take_append_drop, List.take_append_drop]
theorem pairs_grps (a : List Int) : pairs [(a.getD 12 0).toNat, (a.getD 13 0).toNat, (a.getD 14 0).toNat, (a.getD 15 0).toNat] = (grps a).drop 6 := rfl
theorem v6_eq {a : Vec Int 16} (hb : Byt a.l) {x : api_IP} (hv : x.V = 6) (ha : x.A.l = two (grps a.l)) : x = ⟨6, a⟩ := by
  rw [two_grps hb a.h] at ha
  exact ip_eq hv ha
theorem Txt.read {a : Vec Int 16} (hb : Byt a.l) {i j : Nat} {l : List Int} (hg : Gap a.l 8 i j) (h : Txt a.l i j 8 l) : parseM l = .ok ⟨6, a⟩ := by
  have h8 := grps_len a.l
  unfold Txt at h
  rcases hg with ⟨rfl, rfl⟩ | hg
  · rw [if_pos (by omega), List.take_of_length_le (by omega)] at h
    obtain ⟨ms, h1, rfl⟩ := h
    obtain ⟨x, p1, p2, p3⟩ := parse_full h1 h8
    rw [p1, v6_eq hb p2 p3]
  · have hg1 := hg.1
    have hg2 := hg.2.1
    rw [if_neg (by omega), List.take_of_length_le (show (grps a.l).length ≤ 8 by omega)] at h
    obtain ⟨ms, ks, h1, h2, rfl⟩ := h
    have l1 : ((grps a.l).take i).length = i := by rw [List.length_take]; omega
    have l2 : ((grps a.l).drop j).length = 8 - j := by rw [List.length_drop, h8]
    obtain ⟨x, p1, p2, p3⟩ := parse_gap h1 h2 (by omega)
    rw [l1, l2, show 8 - (i + (8 - j)) = j - i by omega, ← gap_take hg (by omega)] at p3
    rw [p1, v6_eq hb p2 p3]
theorem Txt.readT {a : Vec Int 16} (hb : Byt a.l) {i j : Nat} {l : List Int} (hg : Gap a.l 6 i j) (h : Txt a.l i j 6 l) : parseM ((if j ≠ 6 ∨ i = j then l ++ [58] else l) ++ tl4 a.l) = .ok ⟨6, a⟩ := by
  have h8 := grps_len a.l
  have hx : ∀ k, (a.l.getD k 0).toNat ≤ 255 := fun k => by have := getD_byt hb k; omega
  have hx3 : ∀ x ∈ [(a.l.getD 13 0).toNat, (a.l.getD 14 0).toNat, (a.l.getD 15 0).toNat], x ≤ 255 := fun x h => by
    simp only [List.mem_cons, List.not_mem_nil, or_false] at h
    rcases h with rfl | rfl | rfl <;> exact hx _
  have ep := pairs_grps a.l
  unfold Txt at h
  rcases hg with ⟨rfl, rfl⟩ | hg
  · rw [if_pos (by omega)] at h
    obtain ⟨ms, h1, rfl⟩ := h
    obtain ⟨x, p1, p2, p3⟩ := parse_fullT (a := (a.l.getD 12 0).toNat) rfl (hx 12) hx3 h1 (by rw [List.length_take]; omega)
    rw [ep, List.take_append_drop] at p3
    rw [if_pos (.inr rfl)]
    have e : wtext ms ++ [58] ++ tl4 a.l = wtext ms ++ 58 :: (dec3 (a.l.getD 12 0).toNat ++ dots [(a.l.getD 13 0).toNat, (a.l.getD 14 0).toNat, (a.l.getD 15 0).toNat]) := by simp [tl4]
    rw [e, p1, v6_eq hb p2 p3]
  · have hg1 := hg.1
    have hg2 := hg.2.1
    rw [if_neg (by omega)] at h
    obtain ⟨ms, ks, h1, h2, rfl⟩ := h
    have l1 : ((grps a.l).take i).length = i := by rw [List.length_take]; omega
    have l2 : (((grps a.l).take 6).drop j).length = 6 - j := by rw [List.length_drop, List.length_take]; omega
    have lk := h2.len
    obtain ⟨x, p1, p2, p3⟩ := parse_gapT (a := (a.l.getD 12 0).toNat) rfl (hx 12) hx3 h1 h2 (by omega)
    have e3 : ((grps a.l).take 6).drop j ++ (grps a.l).drop 6 = (grps a.l).drop j := by
      conv => rhs; rw [← List.take_append_drop 6 (grps a.l)]
      rw [List.drop_append_of_le_length (by rw [List.length_take]; omega)]
    have l3 : ((grps a.l).drop j).length = 8 - j := by rw [List.length_drop, h8]
    rw [ep, e3, l1, l3, show 8 - (i + (8 - j)) = j - i by omega, ← gap_take hg (by omega)] at p3
    have e : (if j ≠ 6 ∨ i = j then wtext ms ++ 58 :: 58 :: wtext ks ++ [58] else wtext ms ++ 58 :: 58 :: wtext ks) ++ tl4 a.l = wtext ms ++ 58 :: 58 :: (if ks = [] then dec3 (a.l.getD 12 0).toNat ++ dots [(a.l.getD 13 0).toNat, (a.l.getD 14 0).toNat, (a.l.getD 15 0).toNat] else wtext ks ++ 58 :: (dec3 (a.l.getD 12 0).toNat ++ dots [(a.l.getD 13 0).toNat, (a.l.getD 14 0).toNat, (a.l.getD 15 0).toNat])) := by
      by_cases hj : j = 6
      · have : ks = [] := List.eq_nil_of_length_eq_zero (by omega)
        subst this
        rw [if_neg (by omega), if_pos rfl]
        simp [wtext, tl4]
      · have : ks ≠ [] := fun h => by rw [h] at lk; simp at lk; omega
        rw [if_pos (.inl hj), if_neg this]
        simp [tl4]
    rw [e, p1, v6_eq hb p2 p3]
theorem tl4_byt {a : List Int} (hb : Byt a) : Byt (tl4 a) := by
  have hx : ∀ k, (a.getD k 0).toNat ≤ 255 := fun k => by have := getD_byt hb k; omega
  refine (dec3_byt (by have := hx 12; omega)).app (fun c hc => ?_)
  rcases dots_mem (fun x h => by
    simp only [List.mem_cons, List.not_mem_nil, or_false] at h
    rcases h with rfl | rfl | rfl <;> exact hx _) hc with h | h <;> omega
end Go.Proofs.YtddmmgcfanpmmaaDoor.Lx
