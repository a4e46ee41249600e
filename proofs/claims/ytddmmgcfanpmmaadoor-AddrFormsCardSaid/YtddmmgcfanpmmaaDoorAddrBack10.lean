/- Plain law: an address of version 6 is read back (without and with a gap). -/
import Derived.Test.YtddmmgcfanpmmaaDoorAddrBytes
set_option linter.unusedVariables false
set_option linter.unusedSimpArgs false
namespace Go.Proofs.YtddmmgcfanpmmaaDoor.Lx
open Go Go.Proofs Go.RowKit
theorem pair_back {x y : Int} (hx : 0 ≤ x ∧ x ≤ 255) (hy : 0 ≤ y ∧ y ≤ 255) : (((256 * x.toNat + y.toNat) / 256 : Nat) : Int) = x ∧ (((256 * x.toNat + y.toNat) % 256 : Nat) : Int) = y := by
  constructor <;> omega
theorem two_grps {a : List Int} (hb : Byt a) (hl : a.length = 16) : two (grps a) = a := by
  match a, hl with
  | [a0, a1, a2, a3, a4, a5, a6, a7, a8, a9, a10, a11, a12, a13, a14, a15], _ =>
    show [(((256 * a0.toNat + a1.toNat) / 256 : Nat) : Int), (((256 * a0.toNat + a1.toNat) % 256 : Nat) : Int), (((256 * a2.toNat + a3.toNat) / 256 : Nat) : Int), (((256 * a2.toNat + a3.toNat) % 256 : Nat) : Int), (((256 * a4.toNat + a5.toNat) / 256 : Nat) : Int), (((256 * a4.toNat + a5.toNat) % 256 : Nat) : Int), (((256 * a6.toNat + a7.toNat) / 256 : Nat) : Int), (((256 * a6.toNat + a7.toNat) % 256 : Nat) : Int), (((256 * a8.toNat + a9.toNat) / 256 : Nat) : Int), (((256 * a8.toNat + a9.toNat) % 256 : Nat) : Int), (((256 * a10.toNat + a11.toNat) / 256 : Nat) : Int), (((256 * a10.toNat + a11.toNat) % 256 : Nat) : Int), (((256 * a12.toNat + a13.toNat) / 256 : Nat) : Int), (((256 * a12.toNat + a13.toNat) % 256 : Nat) : Int), (((256 * a14.toNat + a15.toNat) / 256 : Nat) : Int), (((256 * a14.toNat + a15.toNat) % 256 : Nat) : Int)] = [a0, a1, a2, a3, a4, a5, a6, a7, a8, a9, a10, a11, a12, a13, a14, a15]
    rw [(pair_back (hb a0 (by simp)) (hb a1 (by simp))).1, (pair_back (hb a0 (by simp)) (hb a1 (by simp))).2, (pair_back (hb a2 (by simp)) (hb a3 (by simp))).1, (pair_back (hb a2 (by simp)) (hb a3 (by simp))).2, (pair_back (hb a4 (by simp)) (hb a5 (by simp))).1, (pair_back (hb a4 (by simp)) (hb a5 (by simp))).2, (pair_back (hb a6 (by simp)) (hb a7 (by simp))).1, (pair_back (hb a6 (by simp)) (hb a7 (by simp))).2, (pair_back (hb a8 (by simp)) (hb a9 (by simp))).1, (pair_back (hb a8 (by simp)) (hb a9 (by simp))).2, (pair_back (hb a10 (by simp)) (hb a11 (by simp))).1, (pair_back (hb a10 (by simp)) (hb a11 (by simp))).2, (pair_back (hb a12 (by simp)) (hb a13 (by simp))).1, (pair_back (hb a12 (by simp)) (hb a13 (by simp))).2, (pair_back (hb a14 (by simp)) (hb a15 (by simp))).1, (pair_back (hb a14 (by simp)) (hb a15 (by simp))).2]
theorem zrun_take (g : List Nat) : g.take (zrun g) = List.replicate (zrun g) 0 := by
  unfold zrun
  rw [List.eq_replicate_iff]
  refine ⟨by rw [List.length_take]; have := zrun_le g; unfold zrun at this; omega, fun b hb => ?_⟩
  have h1 : g.take (g.takeWhile (· == 0)).length = g.takeWhile (· == 0) := by
    conv => lhs; arg 2; rw [← List.takeWhile_append_dropWhile (p := (· == 0)) (l := g)]
    rw [List.take_left]
  rw [h1] at hb
  have := List.all_eq_true.1 (List.all_takeWhile (p := (· == 0)) (l := g)) b hb
  simpa using this
theorem longF_run {g : List Nat} : ∀ i, 0 ≤ (longF g i).1 → (longF g i).2 = zrun (g.drop (longF g i).1.toNat) ∧ 2 ≤ (longF g i).2 ∨ (longF g i).1 < 0
  | 0, h => by simp [longF] at h
  | i + 1, h => by
    unfold longF at h ⊢
    split
    · rename_i hz
      left
      simp only [Int.toNat_natCast]
      refine ⟨trivial, ?_⟩
      have : 1 ≤ (longF g i).2 := by
        clear h hz
        induction i with
        | zero => simp [longF]
        | succ i ih =>
          unfold longF
          split
          · simp only
            omega
          · exact ih
      omega
    · rename_i hz
      rw [if_neg hz] at h
      exact longF_run i h
theorem grps_of : ∀ {gs : List Nat}, (∀ x ∈ gs, x < 65536) → Grps (gs.map hex4) gs
  | [], _ => .nil
  | g :: r, h => .cons (hex4_grp (h g (by simp))) (grps_of (fun x hx => h x (by simp [hx])))
theorem colM_eq (gs : List Nat) : colM gs = wtext (gs.map hex4) := by
  cases gs with
  | nil => rfl
  | cons g r =>
    rw [colM_cons]
    show _ = hex4 g ++ wcols (r.map hex4)
    simp [cols, wcols, List.flatMap_map]
theorem wcols_le {ms : List (List Int)} {ns : List Nat} (h : Grps ms ns) : (wcols ms).length ≤ 5 * ms.length := by
  induction h with
  | nil => simp [wcols]
  | @cons m n ms ns g h ih =>
    have := g.q
    rw [wcols_cons]
    simp only [List.length_cons, List.length_append]
    omega
theorem wtext_le {ms : List (List Int)} {ns : List Nat} (h : Grps ms ns) : (wtext ms).length ≤ 5 * ms.length := by
  cases h with
  | nil => simp [wtext]
  | @cons m n ms ns g h =>
    have h1 := wcols_le h
    have := g.q
    show (m ++ wcols ms).length ≤ _
    simp only [List.length_cons, List.length_append]
    omega
theorem firstM_mem {l : List Int} {q : Int} (h : q ∈ l) : firstM l q < l.length := by
  have h1 := firstM_le l q
  refine Nat.lt_of_le_of_ne h1 fun e => ?_
  obtain ⟨j, hj, hq⟩ := List.getElem_of_mem h
  have h2 := firstM_lt (l := l) (q := q) (j := j) (by omega)
  rw [List.getD, List.getElem?_eq_getElem hj] at h2
  exact h2 hq
end Go.Proofs.YtddmmgcfanpmmaaDoor.Lx
