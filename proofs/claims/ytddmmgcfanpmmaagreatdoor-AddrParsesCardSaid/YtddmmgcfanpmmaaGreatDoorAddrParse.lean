/- Texts are cut and searched; addresses are read (package addr). -/
import Derived.Test.YtddmmgcfanpmmaaGreatDoorAddrSix4
import Derived.Test.YtddmmgcfanpmmaaGreatDoorAddrMask
set_option linter.unusedVariables false
set_option linter.unusedSimpArgs false
namespace Go.Proofs.YtddmmgcfanpmmaaGreatDoor.Lx
open Go Go.Proofs Go.RowKit
def firstM (l : List Int) (q : Int) : Nat := runE (fun c => decide (c ≠ q)) l 0
theorem firstM_le (l : List Int) (q : Int) : firstM l q ≤ l.length := (runE_le (Nat.zero_le _)).2
theorem firstM_lt {l : List Int} {q : Int} {j : Nat} (h : j < firstM l q) : l.getD j 0 ≠ q := of_decide_eq_true (runE_all (Nat.zero_le _) h)
theorem firstM_at {l : List Int} {q : Int} (h : firstM l q < l.length) : l.getD (firstM l q) 0 = q := by
  have h1 := runE_go (p := fun c => decide (c ≠ q)) (l := l) (i := 0) (k := firstM l q) (Nat.zero_le _) (Nat.le_refl _)
  by_cases e : l.getD (firstM l q) 0 = q
  · exact e
  · exact absurd (h1.1 ⟨h, decide_eq_true e⟩) (Nat.lt_irrefl _)
theorem strI_at {s : ByteArray} {i : Nat} (h : i < s.size) : ((s[i]!).toNat : Int) = (strI s).getD i 0 := by
  unfold strI
  rw [List.getD, List.getElem?_map, List.getElem?_eq_getElem (by rw [Array.length_toList]; exact h)]
  show ((s[i]!).toNat : Int) = ((s.data.toList[i]).toNat : Int)
  rw [getElem!_pos s i h]
  rfl
theorem firstIdx_eq (s : ByteArray) (q : Nat) (hq : q < 256) : firstIdx s q.toUInt8 = if firstM (strI s) q < s.size then (firstM (strI s) q : Int) else -1 := by
  have hl := strI_len s
  have hc : ∀ {i : Nat}, i < s.size → (s[i]! = q.toUInt8 ↔ (strI s).getD i 0 = q) := by
    intro i hi
    rw [← strI_at hi, ← UInt8.toNat_inj]
    have : (q.toUInt8).toNat = q := by
      show q % 256 = q
      omega
    rw [this]
    omega
  unfold firstIdx
  cases hf : (List.range s.size).find? fun i => s[i]! == q.toUInt8 with
  | none =>
    rw [List.find?_eq_none] at hf
    rw [if_neg]
    intro h
    have := hf _ (List.mem_range.2 h)
    exact this (beq_iff_eq.2 ((hc h).2 (firstM_at (by omega))))
  | some i =>
    rw [List.find?_range_eq_some] at hf
    obtain ⟨h1, h2, h3⟩ := hf
    rw [List.mem_range] at h2
    have h1 := (hc h2).1 (beq_iff_eq.1 h1)
    have a1 : ¬ i < firstM (strI s) q := fun h => firstM_lt h h1
    have a2 : ¬ firstM (strI s) q < i := by
      intro h
      have := h3 _ h
      rw [Bool.not_eq_true', beq_eq_false_iff_ne] at this
      exact this ((hc (by omega)).2 (firstM_at (by omega)))
    have a3 : firstM (strI s) q = i := by omega
    rw [a3, if_pos h2]
section
variable {W w : World} {Hs : List HP}
theorem Index_wp (s : ByteArray) {p : ByteArray} {q : Nat} (hq : q < 256) (hp : strI p = [(q : Int)]) : WP (stringslite_Index s p) w (fun r w' => r = (if firstM (strI s) q < s.size then (firstM (strI s) q : Int) else -1) ∧ w = w') := by
  have hn : p.size = 1 := by
    rw [← strI_len, hp]
    rfl
  have hsb : sb p 0 = q := by
    have := sb_get (s := p) (i := 0)
    rw [hp] at this
    exact this
  unfold stringslite_Index
  have hl := strI_len s
  refine WP.step (R := fun y w' => y = decide (strI p = strI s) ∧ w = w') (WP.ite (fun h => absurd h (by omega)) (fun h => WP.ret ⟨?_, rfl⟩)) ?_
  · rw [Bool.eq_iff_iff, beq_iff_eq, decide_eq_true_iff, strI_inj]
  rintro _ _ ⟨rfl, rfl⟩
  refine WP.ite (fun h => WP.ret ⟨?_, rfl⟩) (fun h => WP.ite (fun _ => WP.chk ⟨by omega, by omega⟩ (WP.step (R := fun r w' => r = (if firstM (strI s) q < s.size then (firstM (strI s) q : Int) else -1) ∧ w = w') ?_ (fun r w h => WP.ret h))) (fun h => absurd (by omega) h))
  · have h := of_decide_eq_true h
    have e1 : firstM (strI s) q = 0 := by
      rw [← h, hp]
      simp [firstM, runE]
    rw [e1, if_pos]
    · rfl
    · rw [← hl, ← h, hp]
      exact Nat.zero_lt_one
  · unfold stringslite_IndexByte
    refine WP.idxB ?_
    refine WP.ret ⟨?_, rfl⟩
    rw [hsb, Int.toNat_natCast]
    exact firstIdx_eq s q hq
theorem Contains1_wp (s : ByteArray) {p : ByteArray} {q : Nat} (hq : q < 256) (hp : strI p = [(q : Int)]) : WP (strings_Contains s p) w (fun r w' => r = decide (firstM (strI s) q < s.size) ∧ w = w') := by
  unfold strings_Contains strings_Index
  refine WP.step (WP.step (Index_wp s hq hp) (fun r w h => WP.ret h)) ?_
  rintro _ _ ⟨rfl, rfl⟩
  refine WP.ret ⟨?_, rfl⟩
  split
  · rw [decide_eq_true (by omega), decide_eq_true (by assumption)]
  · rw [decide_eq_false (by omega), decide_eq_false (by assumption)]
def CutA (s : ByteArray) (q : Nat) (r : ByteArray × ByteArray × Bool) : Prop :=
  r.2.2 = decide (firstM (strI s) q < s.size) ∧ (firstM (strI s) q < s.size → strI r.1 = (strI s).take (firstM (strI s) q) ∧ strI r.2.1 = (strI s).drop (firstM (strI s) q + 1))
theorem Cut_wp (s : Ss W Hs w) (t : ByteArray) (ht : t.size ≤ 1000000) {p : ByteArray} {q : Nat} (hq : q < 256) (hp : strI p = [(q : Int)]) : WP (strings_Cut t p) w (fun r w' => CutA t q r ∧ Ss W Hs w') := by
  have hn : p.size = 1 := by
    rw [← strI_len, hp]
    rfl
  have hl := strI_len t
  unfold strings_Cut stringslite_Cut
  refine WP.step (R := fun r w' => CutA t q r ∧ Ss W Hs w') (WP.step (Index_wp t hq hp) ?_) (fun r w h => WP.ret h)
  rintro _ _ ⟨rfl, rfl⟩
  by_cases hf : firstM (strI t) q < t.size
  · rw [if_pos hf]
    have e1 : IntKind.wrap .i64 (((firstM (strI t) q : Nat) : Int) + (p.size : Int)) = ((firstM (strI t) q + 1 : Nat) : Int) := by
      rw [hn, wrap_i64 (by omega) (by omega)]
      rfl
    rw [e1]
    refine WP.ite (fun _ => WP.draw' s (fun w s => WP.chk ⟨by omega, by omega, by omega⟩ (WP.chk ⟨by omega, by omega, by omega⟩ (WP.ret ⟨⟨(decide_eq_true hf).symm, fun _ => ⟨?_, ?_⟩⟩, s⟩)))) (fun h => absurd (by omega) h)
    · simp only
      rw [strI_extract]
      simp
    · simp only
      rw [strI_extract]
      simp only [Int.toNat_natCast]
      rw [List.take_of_length_le (by rw [List.length_drop]; omega)]
  · rw [if_neg hf]
    exact WP.ite (fun h => absurd h (by omega)) (fun _ => WP.ret ⟨⟨(decide_eq_false hf).symm, fun h => absurd h hf⟩, s⟩)
end
end Go.Proofs.YtddmmgcfanpmmaaGreatDoor.Lx
