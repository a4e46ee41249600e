/- The law NamesNumbers, of its program in the M-world: each name has its number: it answers true, and nothing that was there is turned. -/
import Derived.Test.YtfjcjecgalijfaaDoorNamesTab
set_option linter.unusedVariables false
set_option linter.unusedSimpArgs false
set_option maxRecDepth 100000
namespace Go.Proofs.YtfjcjecgalijfaaDoor.Lx
open Go Go.Proofs Go.RowKit

theorem itoa_33 : bstr (dec3 33) = bstr [51, 51] := by rfl
section
variable {W w : World} {Hs : List HP}
theorem names_K1 (s : Ss W Hs w) (i : Nat) (e : nth Hs i = some TabN) : WP weirlaw0_NamesNumbers.K1 w (fun r w' => r = true ∧ Ss W Hs w') := by
  have e0 : str4 = bstr [101, 114, 114, 111, 114, 32] := by decide +kernel
  unfold weirlaw0_NamesNumbers.K1 weirlaw0_errno
  refine WP.step (R := fun r w' => r = 33 ∧ w = w') (WP.ret ⟨rfl, rfl⟩) ?_
  rintro _ _ ⟨rfl, rfl⟩
  have sz : ∀ t : ByteArray, t.size ≤ 10 → (((str4).size + t.size : Nat) : Int) ≤ 9223372036854775807 := by
    intro t h
    have : (str4).size = 6 := by decide +kernel
    omega
  refine WP.step (R := fun y w' => y = true ∧ Ss W Hs w') (WP.ite (fun _ => ?_) (fun h => absurd rfl h)) ?_
  · refine WP.step (R := fun r w' => r = str4 ++ bstr (dec3 33) ∧ Ss W Hs w') ?_ ?_
    · unfold api_Errno_Error
      refine WP.step (Itoa_wp s i e (n := 33) (by decide)) ?_
      rintro _ w ⟨rfl, s⟩
      exact WP.chk (sz _ (by decide +kernel)) (WP.ret ⟨rfl, s⟩)
    rintro _ w ⟨rfl, s⟩
    exact WP.ret ⟨by decide +kernel, s⟩
  rintro _ w ⟨rfl, s⟩
  refine WP.step (R := fun y w' => y = true ∧ Ss W Hs w') (WP.ite (fun _ => ?_) (fun h => absurd rfl h)) ?_
  · refine WP.step (R := fun r w' => r = str4 ++ bstr [45, 53] ∧ Ss W Hs w') ?_ ?_
    · unfold api_Errno_Error
      refine WP.step (itoa_neg5 s i e) ?_
      rintro _ w ⟨rfl, s⟩
      exact WP.chk (sz _ (by decide +kernel)) (WP.ret ⟨rfl, s⟩)
    rintro _ w ⟨rfl, s⟩
    exact WP.ret ⟨by decide +kernel, s⟩
  rintro _ w ⟨rfl, s⟩
  exact WP.ret ⟨rfl, s⟩
theorem names_K2 (s : Ss W Hs w) (i : Nat) (e : nth Hs i = some TabN) : WP weirlaw0_NamesNumbers.K2 w (fun r w' => r = true ∧ Ss W Hs w') := by
  unfold weirlaw0_NamesNumbers.K2
  refine WP.step (limits_wp s) ?_
  rintro r w ⟨L, b, h1, h2, rfl, s⟩
  refine WP.loopG (γ := Nat) (fun k (x : Int) w => x = (k : Int) ∧ k ≤ L.length ∧ Ss W (pts true (pt b 0) (L.flatMap cPr.enc) :: Hs) w) (fun k _ => L.length - k) 0 ⟨rfl, Nat.zero_le _, s⟩ ?_
  clear s
  rintro k _ w ⟨rfl, hk, s⟩
  show WP (weirlaw0_NamesNumbers.L1 _ (k : Int)) w _
  unfold weirlaw0_NamesNumbers.L1
  refine WP.ite (fun h => ?_) (fun h => WP.step (names_K1 s.drop i e) (fun r w h => WP.done h))
  have hk' : k < L.length := by simp only at h; omega
  refine WP.rdxp0 s 0 rfl (Holds.rdb (xs := L) (k := L.length) Holds.pts) (by omega) (x := L[k]) (y := L[k]) (by rw [Int.toNat_natCast, List.getElem?_eq_getElem hk']) rfl (At.whole _) (WP.slot' s (fun _ w s => ?_))
  have := List.all_eq_true.1 h1 L[k] (List.getElem_mem hk')
  refine WP.ite (fun h => absurd (beq_iff_eq.1 this) h) (fun _ => ?_)
  rw [wrap_i64 (by omega) (by omega)]
  exact WP.next ⟨k + 1, ⟨by omega, hk', s⟩, by omega⟩
theorem names_wp (s : Ss W Hs w) (i : Nat) (e : nth Hs i = some TabN) : WP weirlaw0_NamesNumbers w (fun r w' => r = true ∧ Ss W Hs w') := by
  unfold weirlaw0_NamesNumbers
  refine WP.step (errs_wp s) ?_
  rintro r w ⟨L, b, h1, h2, rfl, s⟩
  refine WP.loopG (γ := Nat) (fun k (x : Int) w => x = (k : Int) ∧ k ≤ L.length ∧ Ss W (pts true (pt b 0) (L.flatMap cPr.enc) :: Hs) w) (fun k _ => L.length - k) 0 ⟨rfl, Nat.zero_le _, s⟩ ?_
  clear s
  rintro k _ w ⟨rfl, hk, s⟩
  show WP (weirlaw0_NamesNumbers.L2 _ (k : Int)) w _
  unfold weirlaw0_NamesNumbers.L2
  refine WP.ite (fun h => ?_) (fun h => WP.step (names_K2 s.drop i e) (fun r w h => WP.done h))
  have hk' : k < L.length := by simp only at h; omega
  refine WP.rdxp0 s 0 rfl (Holds.rdb (xs := L) (k := L.length) Holds.pts) (by omega) (x := L[k]) (y := L[k]) (by rw [Int.toNat_natCast, List.getElem?_eq_getElem hk']) rfl (At.whole _) (WP.slot' s (fun _ w s => ?_))
  have := List.all_eq_true.1 h1 L[k] (List.getElem_mem hk')
  refine WP.ite (fun h => absurd (beq_iff_eq.1 this) h) (fun _ => ?_)
  rw [wrap_i64 (by omega) (by omega)]
  exact WP.next ⟨k + 1, ⟨by omega, hk', s⟩, by omega⟩
end
theorem NamesNumbers_true : ∀ (W : World) , Laid W → ∃ W', weirlaw0_NamesNumbers W = some (true, W') ∧ Below W.heap.size W W' := by
  intro W hL
  obtain ⟨r, W', h, rfl, s⟩ := names_wp (tabs hL) 0 rfl
  exact ⟨W', h, s.below⟩
end Go.Proofs.YtfjcjecgalijfaaDoor.Lx
