/- The outright queue laws, of their programs in the M-world: a queue of the classes handed in, or of two others. -/
import Derived.Test.YtgddbpmfendaeaaQueueMade
set_option linter.unusedVariables false
set_option linter.unusedSimpArgs false
namespace Go.Proofs.Ytgddbpmfendaeaa.Lx
open Go Go.Proofs Go.RowKit

/-- the classes that the queue has -/
def ofL (xs : List api_Class) : List api_Class := if newOk xs = true then xs else twoL
theorem first_push {xs : List api_Class} (h : newOk xs = true) (id : Int) : ((newQ xs).push 0 1 id).2 = 0 := by
  have ok := newQ_ok h
  have h0 : 0 < (newQ xs).n := ok.n0
  unfold QM.push
  rw [if_neg (by omega), if_neg (by omega)]
  simp only
  have hk := getD_get (z := default) (i := (0 : Int).toNat) (l := (newQ xs).cl) h0
  generalize (newQ xs).cl.getD (0 : Int).toNat default = k at hk
  have hk' := hk
  have hc := okClass_iff.1 (ok.cl k (List.mem_of_getElem? hk)).c
  have hq : k.q = [] := newQ_fresh xs k (List.mem_of_getElem? hk)
  rw [if_neg]
  rw [hq]
  simp [sizes]
  omega
theorem push_n (m : QM) (a b c : Int) : (m.push a b c).1.n = m.n := by
  unfold QM.push
  split
  · rfl
  · split
    · rfl
    · simp only
      split
      · rfl
      · unfold QM.n
        simp
theorem tick_n (m : QM) : m.tick.n = m.n := by unfold QM.tick QM.n; simp
theorem take_n (m : QM) : m.take.n = m.n := QM.setc_n
theorem Pops.n {m m2 : QM} {r : Int × Int × Bool} (h : Pops m r m2) (ok : m.Ok) : m2.n = m.n := by
  cases h with
  | none _ => rfl
  | item h ht hx => rw [take_n, (ht.ok ok).2.1]
theorem push_out (m : QM) (b c : Int) : m.push m.n b c = (m, 181) := by
  unfold QM.push
  rw [if_pos (.inr (Int.le_refl _))]
theorem push_size {m : QM} (ok : m.Ok) (c : Int) : m.push 0 0 c = (m, 182) := by
  have := ok.n0
  unfold QM.push
  rw [if_neg (by omega), if_pos (.inl (by omega))]
theorem ofL_ok (xs : List api_Class) : newOk (ofL xs) = true := by
  unfold ofL
  split
  · assumption
  · exact twoL_ok
section
variable {W w : World} {Hs : List HP}
/-- the list handed back can be read as the classes; what could be read before can be read still -/
theorem queueOf_wp {a0 : Sl} {xs : List api_Class} (s : Ss W Hs w) (i : Nat) (e : nth Hs i = some (rdS c_api_Class false a0 xs)) :
    WP (weirlaw18_queueOf a0) w (fun r w' => ∃ q, r.1 = some q ∧ Ss W (Queue (some q) (newQ (ofL xs)) :: rdS c_api_Class false r.2 (ofL xs) :: Hs) w') := by
  unfold weirlaw18_queueOf weirlaw18_num
  refine WP.step (New_wp s i e rdS_rdb) ?_
  rintro r1 w ⟨hy, hn⟩
  refine WP.step (R := fun y w' => y = r1.2 ∧ w = w') (WP.ret ⟨rfl, rfl⟩) ?_
  rintro _ _ ⟨rfl, rfl⟩
  cases hx : newOk xs with
  | true =>
    obtain ⟨q, rfl, s⟩ := hy hx
    refine WP.ite (fun h => absurd rfl h) (fun _ => ?_)
    refine WP.step (R := fun y w' => y = (0 : Int) ∧ w = w') (WP.ret ⟨rfl, rfl⟩) ?_
    rintro _ _ ⟨rfl, rfl⟩
    refine WP.ite (fun h => absurd rfl h) (fun _ => WP.ret ⟨q, rfl, ?_⟩)
    have : ofL xs = xs := by unfold ofL; rw [if_pos hx]
    rw [this]
    exact (s.dup (i := i + 1) e Ro.rdS).use [1] rfl
  | false =>
    obtain ⟨rfl, s⟩ := hn hx
    refine WP.ite (fun _ => ?_) (fun h => absurd (by simp) h)
    refine WP.step (two_wp s) ?_
    intro r5 w s
    have s := Ss.vec_freeze s
    refine WP.step (New_wp s 0 rfl rdS_rdb) ?_
    rintro r6 w ⟨hy, _⟩
    obtain ⟨q, rfl, s⟩ := hy twoL_ok
    refine WP.step (R := fun y w' => y = (0 : Int) ∧ w = w') (WP.ret ⟨rfl, rfl⟩) ?_
    rintro _ _ ⟨rfl, rfl⟩
    refine WP.ite (fun h => absurd rfl h) (fun _ => WP.ret ⟨q, rfl, ?_⟩)
    have : ofL xs = twoL := by unfold ofL; rw [if_neg (by rw [hx]; simp)]
    rw [this]
    exact s
end
end Go.Proofs.Ytgddbpmfendaeaa.Lx
