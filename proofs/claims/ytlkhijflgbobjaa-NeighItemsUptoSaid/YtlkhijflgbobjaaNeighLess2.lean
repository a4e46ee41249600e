/- The function of the outright laws that compares keys. -/
import Derived.Test.YtlkhijflgbobjaaNeighOps4
set_option linter.unusedVariables false
set_option linter.unusedSimpArgs false
namespace Go.Proofs.Ytlkhijflgbobjaa.Lx
open Go Go.Proofs Go.RowKit
section
variable {W w : World} {Hs : List HP}
theorem lawLess_wp (s : Ss W Hs w) (p q : Int) (a b : api_IP) : WP (weirlaw15_less p a q b) w (fun r w' => r = klt ⟨p, a⟩ ⟨q, b⟩ ∧ Ss W Hs w') := by
  unfold weirlaw15_less klt ilt
  refine WP.slot' s (fun _ w s => WP.slot' s (fun _ w s => WP.ite (fun h => WP.ret ⟨by rw [if_neg h], s⟩) (fun h0 => WP.ite (fun h => WP.ret ⟨by rw [if_pos (by simpa using h0), if_neg h], s⟩) (fun h => ?_))))
  rw [if_pos (by simpa using h0), if_pos (by simpa using h)]
  refine WP.loopG (γ := Nat) (fun i x w => x = (i : Int) ∧ i ≤ 16 ∧ (∀ j, j < i → a.A.l[j]? = b.A.l[j]?) ∧ Ss W Hs w) (fun i _ => 16 - i) 0 ⟨rfl, by omega, fun j hj => absurd hj (by omega), s⟩ ?_
  clear s
  rintro i _ w ⟨rfl, hi, he, s⟩
  show WP (weirlaw15_less.L1 a b (i : Int)) w _
  unfold weirlaw15_less.L1
  refine WP.ite (fun h => ?_) (fun h => WP.done ?_)
  · refine WP.draw' s (fun w s => WP.chk (by omega) (WP.chk (by omega) ?_))
    have ha := vec_g a.A (i := i) 0 (by omega)
    have hb := vec_g b.A (i := i) 0 (by omega)
    refine WP.ite (fun hne => ?_) (fun heq => WP.next ?_)
    · refine WP.draw' s (fun w s => WP.chk (by omega) (WP.chk (by omega) (WP.done ⟨?_, s⟩)))
      exact (llt_at he ha hb hne).symm
    · refine ⟨i + 1, ⟨by rw [wrap_i64 (by omega) (by omega)]; omega, by omega, fun j hj => ?_, s⟩, by omega⟩
      by_cases e : j = i
      · subst e
        rw [ha, hb, show Vec.g a.A (j : Int) 0 = Vec.g b.A (j : Int) 0 by simpa using heq]
      · exact he j (by omega)
  · have : i = 16 := by omega
    subst this
    rw [llt_same (x := a.A.l) (y := b.A.l) (fun j hj => he j (by rw [← a.A.h]; exact hj)) (by rw [a.A.h, b.A.h]), llt_irrefl]
    exact ⟨rfl, s⟩
end
end Go.Proofs.Ytlkhijflgbobjaa.Lx
