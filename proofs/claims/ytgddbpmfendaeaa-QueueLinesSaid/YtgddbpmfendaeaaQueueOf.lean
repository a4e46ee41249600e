/- The outright queue laws, of their programs in the M-world: a queue of the classes handed in, or of two others. -/
import Derived.Test.YtgddbpmfendaeaaQueueMade
set_option linter.unusedVariables false
set_option linter.unusedSimpArgs false
namespace Go.Proofs.Ytgddbpmfendaeaa.Lx
open Go Go.Proofs Go.RowKit

/-- the classes that the queue has -/
def ofL (xs : List api_Class) : List api_Class := if newOk xs = true then xs else twoL
theorem ofL_ok (xs : List api_Class) : newOk (ofL xs) = true := by
  unfold ofL
  split
  · assumption
  · exact twoL_ok
section
variable {W w : World} {Hs : List HP}
/-- the list handed back can be read as the classes; what could be read before can be read still -/
theorem queueOf_wp {a0 : Sl} {xs : List api_Class} (s : Ss W Hs w) (i : Nat) (e : nth Hs i = some (rdS c_api_Class false a0 xs)) :
    WP (weirlaw18_queueOf a0) w (fun r w' => ∃ q, r.1 = some q ∧ Ss W (Queue (some q) (newQ (ofL xs)) :: rdS c_api_Class false r.2 (ofL xs) :: Hs) w') := by
  unfold weirlaw18_queueOf weirlaw18_num
  refine WP.step (New_wp s i e rdS_rdb) ?_
  rintro r1 w ⟨hy, hn⟩
  refine WP.step (R := fun y w' => y = r1.2 ∧ w = w') (WP.ret ⟨rfl, rfl⟩) ?_
  rintro _ _ ⟨rfl, rfl⟩
  cases hx : newOk xs with
  | true =>
    obtain ⟨q, rfl, s⟩ := hy hx
    refine WP.ite (fun h => absurd rfl h) (fun _ => ?_)
    refine WP.step (R := fun y w' => y = (0 : Int) ∧ w = w') (WP.ret ⟨rfl, rfl⟩) ?_
    rintro _ _ ⟨rfl, rfl⟩
    refine WP.ite (fun h => absurd rfl h) (fun _ => WP.ret ⟨q, rfl, ?_⟩)
    have : ofL xs = xs := by unfold ofL; rw [if_pos hx]
    rw [this]
    exact (s.dup (i := i + 1) e Ro.rdS).use [1] rfl
  | false =>
    obtain ⟨rfl, s⟩ := hn hx
    refine WP.ite (fun _ => ?_) (fun h => absurd (by simp) h)
    refine WP.step (two_wp s) ?_
    intro r5 w s
    have s := Ss.vec_freeze s
    refine WP.step (New_wp s 0 rfl rdS_rdb) ?_
    rintro r6 w ⟨hy, _⟩
    obtain ⟨q, rfl, s⟩ := hy twoL_ok
    refine WP.step (R := fun y w' => y = (0 : Int) ∧ w = w') (WP.ret ⟨rfl, rfl⟩) ?_
    rintro _ _ ⟨rfl, rfl⟩
    refine WP.ite (fun h => absurd rfl h) (fun _ => WP.ret ⟨q, rfl, ?_⟩)
    have : ofL xs = twoL := by unfold ofL; rw [if_neg (by rw [hx]; simp)]
    rw [this]
    exact s
end
end Go.Proofs.Ytgddbpmfendaeaa.Lx
