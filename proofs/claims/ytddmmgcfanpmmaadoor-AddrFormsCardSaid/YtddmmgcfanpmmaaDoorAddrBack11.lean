/- Plain law: an address of version 6 is read back: the two plain forms. -/
import Derived.Test.YtddmmgcfanpmmaaDoorAddrBack10
set_option linter.unusedVariables false
set_option linter.unusedSimpArgs false
namespace Go.Proofs.YtddmmgcfanpmmaaDoor.Lx
open Go Go.Proofs Go.RowKit
theorem parse_full {ms : List (List Int)} {ns : List Nat} (h : Grps ms ns) (h8 : ns.length = 8) : ∃ ip : api_IP, parseM (wtext ms) = .ok ip ∧ ip.V = 6 ∧ ip.A.l = two ns := by
  have hl := h.len
  have h1 := wtext_le h
  have hm : (58 : Int) ∈ wtext ms := by
    cases h with
    | nil => cases h8
    | cons g h =>
      cases h with
      | nil => cases h8
      | cons g2 h =>
        show _ ∈ _ ++ wcols (_ :: _)
        rw [wcols_cons]
        simp
  unfold parseM
  rw [if_neg (by omega), if_pos (firstM_mem hm), readM_full h h8]
  refine ⟨_, rfl, rfl, ?_⟩
  show two (S6.words _ _) = _
  rw [words_full (by simp only; omega) h8]
theorem parse_gap {ms ks : List (List Int)} {ns qs : List Nat} (h : Grps ms ns) (h' : Grps ks qs) (h7 : ns.length + qs.length ≤ 7) : ∃ ip : api_IP, parseM (wtext ms ++ 58 :: 58 :: wtext ks) = .ok ip ∧ ip.V = 6 ∧ ip.A.l = two (ns ++ (List.replicate (8 - (ns.length + qs.length)) 0 ++ qs)) := by
  have hl := h.len
  have hl' := h'.len
  have h1 := wtext_le h
  have h2 := wtext_le h'
  have hm : (58 : Int) ∈ wtext ms ++ 58 :: 58 :: wtext ks := by simp
  obtain ⟨e, he⟩ := readM_gap h h' h7
  unfold parseM
  rw [if_neg (by simp only [List.length_append, List.length_cons]; omega), if_pos (firstM_mem hm), he]
  refine ⟨_, rfl, rfl, ?_⟩
  show two (S6.words _ _) = _
  rw [words_gap h7]
theorem ip_eq {x ip : api_IP} (hv : x.V = ip.V) (ha : x.A.l = ip.A.l) : x = ip := by
  obtain ⟨V, A⟩ := x
  obtain ⟨V', A'⟩ := ip
  have hv : V = V' := hv
  have ha : A = A' := Vec.eq ha
  rw [hv, ha]
theorem back6 {ip : api_IP} (hb : Byt ip.A.l) (hv : ip.V = 6) (hm : ip.A.l.take 12 ≠ [0, 0, 0, 0, 0, 0, 0, 0, 0, 0, 255, 255]) : parseM (prIP ip) = .ok ip := by
  have hlt := grps_lt hb
  have h8 := grps_len ip.A.l
  unfold prIP
  rw [if_neg (by omega), if_neg hm]
  by_cases hg : (longM (grps ip.A.l)).1 < 0
  · rw [if_pos hg, colM_eq]
    obtain ⟨x, h1, h2, h3⟩ := parse_full (grps_of hlt) h8
    rw [h1]
    rw [two_grps hb ip.A.h] at h3
    rw [ip_eq (h2.trans hv.symm) h3]
  · rw [if_neg hg]
    have hinv := longF_inv h8 8 (Nat.le_refl _)
    have hrun := longF_run (g := grps ip.A.l) 8 (by unfold longM at hg; omega)
    unfold longM at hg ⊢
    generalize longF (grps ip.A.l) 8 = q at hg hinv hrun ⊢
    obtain ⟨s, k⟩ := q
    simp only at hg hinv hrun ⊢
    obtain ⟨hk, h2⟩ : k = zrun ((grps ip.A.l).drop s.toNat) ∧ 2 ≤ k := by
      rcases hrun with h | h
      · exact h
      · exact absurd h hg
    have ht : ((grps ip.A.l).drop s.toNat).take k = List.replicate k 0 := by
      rw [hk]
      exact zrun_take _
    have e1 : grps ip.A.l = (grps ip.A.l).take s.toNat ++ (List.replicate k 0 ++ (grps ip.A.l).drop (s.toNat + k)) := by
      rw [← ht, ← List.drop_drop, List.take_append_drop, List.take_append_drop]
    have g1 := grps_of (gs := (grps ip.A.l).take s.toNat) (fun x hx => hlt x (List.mem_of_mem_take hx))
    have g2 := grps_of (gs := (grps ip.A.l).drop (s.toNat + k)) (fun x hx => hlt x (List.mem_of_mem_drop hx))
    have l1 : ((grps ip.A.l).take s.toNat).length = s.toNat := by
      rw [List.length_take]
      omega
    have l2 : ((grps ip.A.l).drop (s.toNat + k)).length = 8 - (s.toNat + k) := by rw [List.length_drop, h8]
    obtain ⟨x, p1, p2, p3⟩ := parse_gap g1 g2 (by omega)
    rw [l1, l2, show 8 - (s.toNat + (8 - (s.toNat + k))) = k by omega, ← e1, two_grps hb ip.A.h] at p3
    rw [colM_eq, colM_eq]
    have e2 : wtext (((grps ip.A.l).take s.toNat).map hex4) ++ [58, 58] ++ wtext (((grps ip.A.l).drop (s.toNat + k)).map hex4) = wtext (((grps ip.A.l).take s.toNat).map hex4) ++ 58 :: 58 :: wtext (((grps ip.A.l).drop (s.toNat + k)).map hex4) := by simp
    rw [e2, p1, ip_eq (p2.trans hv.symm) p3]
end Go.Proofs.YtddmmgcfanpmmaaDoor.Lx
