/- Plain law: an address that is written is read back; a prefix too. -/
import Derived.Test.YtddmmgcfanpmmaaDoorAddrBack12
set_option linter.unusedVariables false
set_option linter.unusedSimpArgs false
namespace Go.Proofs.YtddmmgcfanpmmaaDoor.Lx
open Go Go.Proofs Go.RowKit
theorem pairs_two {a b c d : Int} (ha : 0 ≤ a ∧ a ≤ 255) (hb : 0 ≤ b ∧ b ≤ 255) (hc : 0 ≤ c ∧ c ≤ 255) (hd : 0 ≤ d ∧ d ≤ 255) : two (pairs [a.toNat, b.toNat, c.toNat, d.toNat]) = [a, b, c, d] := by
  show [(((256 * a.toNat + b.toNat) / 256 : Nat) : Int), (((256 * a.toNat + b.toNat) % 256 : Nat) : Int), (((256 * c.toNat + d.toNat) / 256 : Nat) : Int), (((256 * c.toNat + d.toNat) % 256 : Nat) : Int)] = _
  rw [(pair_back ha hb).1, (pair_back ha hb).2, (pair_back hc hd).1, (pair_back hc hd).2]
theorem back_mapped {ip : api_IP} (hb : Byt ip.A.l) (hv : ip.V = 6) (hm : ip.A.l.take 12 = [0, 0, 0, 0, 0, 0, 0, 0, 0, 0, 255, 255]) : parseM (prIP ip) = .ok ip := by
  have hl := ip.A.h
  have e0 : ip.A.l = [0, 0, 0, 0, 0, 0, 0, 0, 0, 0, 255, 255] ++ ip.A.l.drop 12 := by rw [← hm, List.take_append_drop]
  have hld : (ip.A.l.drop 12).length = 4 := by rw [List.length_drop, hl]
  have hbd : Byt (ip.A.l.drop 12) := fun x hx => hb x (List.mem_of_mem_drop hx)
  unfold prIP
  rw [if_neg (by omega), if_pos hm]
  generalize hD : ip.A.l.drop 12 = D at e0 hld hbd
  match D, hld with
  | [a, b, c, d], _ =>
    have ha := hbd a (by simp)
    have hb' := hbd b (by simp)
    have hc := hbd c (by simp)
    have hd := hbd d (by simp)
    have hx : ∀ x ∈ [b, c, d].map Int.toNat, x ≤ 255 := by
      intro x hx
      simp only [List.map_cons, List.map_nil, List.mem_cons, List.not_mem_nil, or_false] at hx
      rcases hx with rfl | rfl | rfl <;> omega
    obtain ⟨e, he⟩ := readM_mapped (a := a.toNat) (r := [b, c, d].map Int.toNat) rfl (by omega) hx
    have h1 := dots_len hx
    have h2 := dec3_le (n := a.toNat) (by omega)
    simp only [List.length_map, List.length_cons, List.length_nil] at h1
    rw [dotM_eq]
    unfold parseM
    rw [if_neg (by simp only [List.length_append, List.length_cons, List.length_nil]; omega), if_pos (firstM_mem (by simp)), he]
    have hw : (S6.mk e (65535 :: pairs (a.toNat :: [b, c, d].map Int.toNat)) 0).words (65535 :: pairs (a.toNat :: [b, c, d].map Int.toNat)).length = [0, 0, 0, 0, 0] ++ (65535 :: pairs [a.toNat, b.toNat, c.toNat, d.toNat]) := words_gap (e := e) (ns := []) (qs := 65535 :: pairs (a.toNat :: [b, c, d].map Int.toNat)) (by simp [pairs])
    show Except.ok (api_IP.mk 6 (S6.mk e (65535 :: pairs (a.toNat :: [b, c, d].map Int.toNat)) 0).bytes) = _
    have hA : (S6.mk e (65535 :: pairs (a.toNat :: [b, c, d].map Int.toNat)) 0).bytes.l = ip.A.l := by
      show two (S6.words _ _) = _
      rw [hw, e0]
      show [0, 0, 0, 0, 0, 0, 0, 0, 0, 0, 255, 255] ++ two (pairs [a.toNat, b.toNat, c.toNat, d.toNat]) = _
      rw [pairs_two ha hb' hc hd]
    exact congrArg Except.ok (ip_eq hv.symm hA)
theorem sizeM_cases {ip : api_IP} (h : sizeM ip > 0) : ip.V = 6 ∨ (ip.V = 4 ∧ ip.A.l.drop 4 = List.replicate 12 0) := by
  unfold sizeM at h
  split at h
  · left
    assumption
  · split at h
    · right
      assumption
    · omega
theorem ip_back {ip : api_IP} (hb : Byt ip.A.l) (h : sizeM ip > 0) : parseM (prIP ip) = .ok ip := by
  rcases sizeM_cases h with h | ⟨h, h2⟩
  · by_cases hm : ip.A.l.take 12 = [0, 0, 0, 0, 0, 0, 0, 0, 0, 0, 255, 255]
    · exact back_mapped hb h hm
    · exact back6 hb h hm
  · have e : prIP ip = dotM (ip.A.l.take 4) := by
      unfold prIP
      rw [if_pos h]
    rw [e]
    exact back4 hb h h2
end Go.Proofs.YtddmmgcfanpmmaaDoor.Lx
