/- Plain law: a number, and four numbers with dots between, are read back. -/
import Derived.Test.YtddmmgcfanpmmaaDoorAddrMacBack
set_option linter.unusedVariables false
set_option linter.unusedSimpArgs false
namespace Go.Proofs.YtddmmgcfanpmmaaDoor.Lx
open Go Go.Proofs Go.RowKit
theorem dec3_tab : ∀ k : _root_.Fin 1000, (dec3 k.val).all isDig = true ∧ valD (dec3 k.val) = k.val ∧ (dec3 k.val).length ≤ 3 ∧ 0 < (dec3 k.val).length ∧ (1 < (dec3 k.val).length → (dec3 k.val).getD 0 0 ≠ 48) := by decide +kernel
theorem run_at {p : Int → Bool} {pre mid post : List Int} (h : ∀ c ∈ mid, p c = true) (hp : ∀ c r, post = c :: r → p c = false) : runE p (pre ++ (mid ++ post)) pre.length = pre.length + mid.length := by
  unfold runE
  rw [List.drop_left, List.takeWhile_append_of_pos h]
  cases post with
  | nil => simp
  | cons c r =>
    rw [List.takeWhile_cons_of_neg (by rw [hp c r rfl]; simp)]
    simp
theorem numM_at {pre post : List Int} {n : Nat} {most wrong : Int} (hn : n < 1000) (hm : (n : Int) ≤ most) (hp : ∀ c r, post = c :: r → isDig c = false) :
    numM (pre ++ (dec3 n ++ post)) pre.length most wrong = .ok (n, pre.length + (dec3 n).length) := by
  obtain ⟨t1, t2, t3, t4, t5⟩ := dec3_tab ⟨n, hn⟩
  simp only at t1 t2 t3 t4 t5
  have hr : runE isDig (pre ++ (dec3 n ++ post)) pre.length = pre.length + (dec3 n).length := run_at (List.all_eq_true.1 t1) hp
  have ht : ((pre ++ (dec3 n ++ post)).drop pre.length).take (pre.length + (dec3 n).length - pre.length) = dec3 n := by
    rw [List.drop_left, Nat.add_sub_cancel_left, List.take_left]
  have hg : (pre ++ (dec3 n ++ post)).getD pre.length 0 = (dec3 n).getD 0 0 := by
    rw [List.getD, List.getD, List.getElem?_append_right (Nat.le_refl _), Nat.sub_self, List.getElem?_append_left t4]
  unfold numM
  rw [hr, if_neg (by omega), ht, hg, t2, if_neg (by
    intro h
    rcases h with h | ⟨h1, h2⟩
    · omega
    · exact t5 (by omega) h2), if_neg (by omega)]
def dots (xs : List Nat) : List Int := xs.flatMap fun x => 46 :: dec3 x
theorem dots_cons (x : Nat) (r : List Nat) : dots (x :: r) = 46 :: (dec3 x ++ dots r) := by simp [dots]
theorem dots_head {xs : List Nat} : ∀ c r, dots xs = c :: r → isDig c = false := by
  intro c r h
  cases xs with
  | nil => cases h
  | cons x r' =>
    rw [dots_cons] at h
    cases h
    decide
theorem fourF_tail : ∀ (xs : List Nat) (pre : List Int) (acc : List Nat), acc ≠ [] → (∀ x ∈ xs, x ≤ 255) → fourF (pre ++ dots xs) xs.length pre.length acc = .ok (acc ++ xs, (pre ++ dots xs).length)
  | [], pre, acc, _, _ => by simp [fourF, dots]
  | x :: r, pre, acc, ha, hx => by
    have hx0 := hx x (by simp)
    rw [dots_cons]
    have e1 : pre ++ 46 :: (dec3 x ++ dots r) = (pre ++ [46]) ++ (dec3 x ++ dots r) := by simp
    have e2 : (pre ++ [46]) ++ (dec3 x ++ dots r) = (pre ++ [46] ++ dec3 x) ++ dots r := by simp
    have hs : sepM (pre ++ 46 :: (dec3 x ++ dots r)) pre.length acc.isEmpty = .ok (pre.length + 1) := by
      unfold sepM
      rw [if_neg (by cases acc with | nil => exact absurd rfl ha | cons => simp), if_neg]
      intro h
      rcases h with h | h
      · simp at h
      · simp [List.getD] at h
    have hn := numM_at (pre := pre ++ [46]) (n := x) (post := dots r) (most := 255) (wrong := 43) (by omega) (by omega) dots_head
    have hlen : (pre ++ [46]).length = pre.length + 1 := by simp
    rw [hlen] at hn
    show fourF _ (r.length + 1) _ _ = _
    unfold fourF
    rw [hs]
    simp only
    rw [e1, hn]
    simp only
    rw [e2, show pre.length + 1 + (dec3 x).length = (pre ++ [46] ++ dec3 x).length by (simp; omega), fourF_tail r (pre ++ [46] ++ dec3 x) (acc ++ [x]) (by simp) (fun y hy => hx y (by simp [hy]))]
    simp
theorem fourM_at {pre : List Int} {a : Nat} {r : List Nat} (hr : r.length = 3) (ha : a ≤ 255) (hx : ∀ x ∈ r, x ≤ 255) : fourM (pre ++ (dec3 a ++ dots r)) pre.length = .ok (a :: r) := by
  have hn := numM_at (pre := pre) (n := a) (post := dots r) (most := 255) (wrong := 43) (by omega) (by omega) dots_head
  have h := fourF_tail r (pre ++ dec3 a) [a] (by simp) hx
  have e2 : pre ++ (dec3 a ++ dots r) = (pre ++ dec3 a) ++ dots r := by simp
  have hf : fourF (pre ++ (dec3 a ++ dots r)) 4 pre.length [] = .ok (a :: r, (pre ++ (dec3 a ++ dots r)).length) := by
    show fourF _ (3 + 1) _ _ = _
    unfold fourF
    rw [show sepM (pre ++ (dec3 a ++ dots r)) pre.length ([] : List Nat).isEmpty = .ok pre.length from rfl]
    simp only
    rw [hn]
    simp only
    rw [e2, show pre.length + (dec3 a).length = (pre ++ dec3 a).length by simp, ← hr]
    exact h
  unfold fourM
  rw [hf]
  simp only
  rw [if_neg (Nat.lt_irrefl _)]
theorem dotM_eq (a : Int) (r : List Int) : dotM (a :: r) = dec3 a.toNat ++ dots (r.map Int.toNat) := by
  simp [dotM, joinL, dots, List.flatMap_map]
end Go.Proofs.YtddmmgcfanpmmaaDoor.Lx
