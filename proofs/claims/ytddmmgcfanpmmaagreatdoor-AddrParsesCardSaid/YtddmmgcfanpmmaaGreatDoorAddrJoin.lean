/- strings.Join of Go's library, of its program in the M-world. -/
import Derived.Test.YtddmmgcfanpmmaaGreatDoorAddrBuild
set_option linter.unusedVariables false
set_option linter.unusedSimpArgs false
namespace Go.Proofs.YtddmmgcfanpmmaaGreatDoor.Lx
open Go Go.Proofs Go.RowKit
def joinL (sep : List Int) : List (List Int) → List Int
  | [] => []
  | x :: r => x ++ r.flatMap (fun y => sep ++ y)
section
variable {W w : World} {R Hs : List HP}
theorem flat_len_le {α : Type} {f : α → List Int} {l : List α} {k : Nat} (h : ∀ x ∈ l, (f x).length ≤ k) : (l.flatMap f).length ≤ l.length * k := by
  induction l with
  | nil => simp
  | cons x r ih =>
    have h1 := ih (fun y hy => h y (by simp [hy]))
    have h2 := h x (by simp)
    simp only [List.flatMap_cons, List.length_append, List.length_cons, Nat.succ_mul]
    omega
theorem Join_wp {A : HP} {a0 : Sl} {strs : List ByteArray} {sep : ByteArray} (s : Ss W Hs w) (i : Nat) (e : nth Hs i = some A) (r : Rdb A cS a0 strs) (hcap : a0.len ≤ a0.cap) (h1 : strs.length ≤ 100) (h2 : ∀ x ∈ strs, x.size ≤ 100) (h3 : sep.size ≤ 100) :
    WP (strings_Join a0 sep) w (fun y w' => y = bstr (joinL (strI sep) (strs.map strI)) ∧ Ss W Hs w') := by
  unfold strings_Join
  have hl := (s.rd_len e r).1
  rw [hl]
  match strs, h1, h2, r, hl with
  | [], h1, h2, r, hl => exact WP.ite (fun _ => WP.ret ⟨rfl, s⟩) (fun h => absurd rfl h)
  | [x], h1, h2, r, hl =>
    refine WP.ite (fun h => by simp at h) (fun _ => WP.ite (fun _ => ?_) (fun h => absurd rfl h))
    rw [← hl]
    refine WP.rdx s i e r (by omega) (x := x) rfl rfl (WP.ret ⟨?_, s⟩)
    show x = bstr (strI x ++ [])
    rw [List.append_nil, bstr_strI]
  | x :: y :: rest, h1, h2, r, hl =>
    have hn : (x :: y :: rest).length = rest.length + 2 := rfl
    rw [hn]
    rw [hn] at h1
    refine WP.ite (fun h => by omega) (fun _ => WP.ite (fun h => by omega) (fun _ => ?_))
    -- what is behind the reckoning of the room
    have K2 : ∀ (n : Int), 0 ≤ n → n ≤ 10000 → WP (strings_Join.K2 a0 sep n) w (fun y' w' => y' = bstr (joinL (strI sep) ((x :: y :: rest).map strI)) ∧ Ss W Hs w') := by
      intro n n0 n1
      unfold strings_Join.K2
      refine WP.loop (fun (p : Int × Int) w' => 0 ≤ p.1 ∧ p.1 ≤ 10000 + 100 * p.2 ∧ 0 ≤ p.2 ∧ p.2 ≤ rest.length + 2 ∧ Ss W Hs w') (fun p _ => ((rest.length + 2 : Int) - p.2).toNat) ⟨n0, by simp only; omega, by simp, by simp only; omega, s⟩ ?_
      clear s
      rintro ⟨t, k⟩ w ⟨t0, t1, k0, k1, s⟩
      simp only at t0 t1 k0 k1
      show WP (strings_Join.L2 a0 sep t k) w _
      unfold strings_Join.L2
      rw [hl, hn]
      refine WP.ite (fun h => ?_) (fun h => ?_)
      · have hx := List.getElem?_eq_getElem (show k.toNat < (x :: y :: rest).length by rw [hn]; omega)
        have hsz := h2 _ (List.mem_of_getElem? hx)
        generalize (x :: y :: rest)[k.toNat]'(by rw [hn]; omega) = z at hx hsz
        rw [← hn, ← hl]
        refine WP.rdx s i e r k0 hx rfl ?_
        rw [wrap_i64 (n := 9223372036854775807 - t) (by omega) (by omega)]
        refine WP.ite (fun h => absurd h (by omega)) (fun _ => WP.next ⟨?_, ?_⟩)
        · rw [wrap_i64 (n := t + _) (by omega) (by omega), wrap_i64 (n := k + 1) (by omega) (by omega)]
          exact ⟨by simp only; omega, by simp only; omega, by simp only; omega, by simp only; omega, s⟩
        · rw [wrap_i64 (n := k + 1) (by omega) (by omega)]
          simp only
          omega
      · refine WP.step ?_ (fun r w h => WP.done h)
        unfold strings_Join.K1
        refine WP.newvS s (fun b w s => ?_)
        refine WP.step (Grow_wp s t0 (by omega)) ?_
        rintro _ w s
        refine WP.rdx s (i + 1) e r (by omega) (x := x) rfl rfl ?_
        have hx := h2 x (by simp)
        refine WP.step (WriteString_wp s x (by simp only [List.length_nil]; omega)) ?_
        rintro _ w s
        refine WP.cutsuf (by omega) (by rw [hl, hn]; omega) hcap ?_
        have rd := r.drop (k := 1) (by simp) hcap
        generalize hq : (⟨if a0.cap = (1 : Int).toNat then a0.a else a0.a.map (·.add ((1 : Int).toNat * 1)), a0.len - (1 : Int).toNat, a0.cap - (1 : Int).toNat⟩ : Sl) = q
        have rd : Rdb A cS q (y :: rest) := hq ▸ rd
        have ql := (s.rd_len (i := i + 1) e rd).1
        have ql : q.len = rest.length + 1 := ql
        refine WP.loopG (γ := Nat) (fun j (p : Int) w' => p = (j : Int) ∧ j ≤ rest.length + 1 ∧ Ss W (BldP b (strI x ++ ((y :: rest).take j).flatMap (fun z => strI sep ++ strI z)) :: Hs) w') (fun j _ => rest.length + 1 - j) 0 ⟨rfl, by omega, by simpa using s⟩ ?_
        clear s
        rintro j _ w ⟨rfl, hj, s⟩
        show WP (strings_Join.L1 sep b q (j : Int)) w _
        unfold strings_Join.L1
        have hpre : (strI x ++ ((y :: rest).take j).flatMap (fun z => strI sep ++ strI z)).length ≤ 100 + 100 * 200 := by
          have := flat_len_le (f := fun z : ByteArray => strI sep ++ strI z) (l := (y :: rest).take j) (k := 200) (fun z hz => by
            have := h2 z (List.mem_cons_of_mem _ (List.mem_of_mem_take hz))
            rw [List.length_append, strI_len, strI_len]
            omega)
          have h4 : ((y :: rest).take j).length ≤ 100 := by
            rw [List.length_take]
            omega
          have h5 := Nat.mul_le_mul_right 200 h4
          rw [List.length_append, strI_len]
          omega
        refine WP.ite (fun h => ?_) (fun h => ?_)
        · have hj2 : j < (y :: rest).length := by
            show j < rest.length + 1
            omega
          have hz := List.getElem?_eq_getElem hj2
          have hsz := h2 _ (List.mem_cons_of_mem _ (List.mem_of_getElem? hz))
          have htake : (y :: rest).take (j + 1) = (y :: rest).take j ++ [(y :: rest)[j]] := by
            rw [List.take_add_one, hz]
            rfl
          generalize (y :: rest)[j] = z at hz hsz htake
          refine WP.rdx s (i + 1) e rd (by omega) (x := z) (by rw [Int.toNat_natCast]; exact hz) rfl ?_
          refine WP.step (WriteString_wp s sep (by omega)) ?_
          rintro _ w s
          refine WP.step (WriteString_wp s z (by rw [List.length_append, strI_len]; omega)) ?_
          rintro _ w s
          refine WP.next ⟨j + 1, ⟨?_, by omega, ?_⟩, by omega⟩
          · rw [wrap_i64 (by omega) (by omega)]
            simp
          · rw [htake, List.flatMap_append]
            simpa [List.append_assoc] using s
        · have hj2 : j = rest.length + 1 := by omega
          subst hj2
          have ht : (y :: rest).take (rest.length + 1) = y :: rest := by
            apply List.take_of_length_le
            simp
          rw [ht] at s hpre
          refine WP.step (String_wp s ((Byt.strI x).app fun v hv => ?_) (by omega)) ?_
          · obtain ⟨z, _, hv⟩ := List.mem_flatMap.1 hv
            exact ((Byt.strI sep).app (Byt.strI z)) v hv
          · rintro _ w ⟨rfl, s⟩
            refine WP.done ⟨?_, s⟩
            simp only [List.map_cons, joinL, List.flatMap_cons, List.flatMap_map]
    have hw1 : IntKind.wrap .i64 (((rest.length + 2 : Nat) : Int) - 1) = (rest.length : Int) + 1 := by
      rw [wrap_i64 (by omega) (by omega)]
      omega
    refine WP.ite (fun h => ?_) (fun _ => K2 0 (by omega) (by omega))
    rw [hw1]
    refine WP.chk (by omega) ?_
    have hdiv : (92233720368547758 : Int) ≤ IntKind.wrap .i64 (Int.tdiv 9223372036854775807 ((rest.length : Int) + 1)) := by
      rw [Int.tdiv_eq_ediv_of_nonneg (by omega)]
      have h6 : (92233720368547758 : Int) ≤ 9223372036854775807 / ((rest.length : Int) + 1) := by
        rw [Int.le_ediv_iff_mul_le (by omega)]
        have : (rest.length : Int) + 1 ≤ 100 := by omega
        have := Int.mul_le_mul_of_nonneg_left this (show (0 : Int) ≤ 92233720368547758 by omega)
        omega
      have h7 : 9223372036854775807 / ((rest.length : Int) + 1) ≤ 9223372036854775807 := Int.ediv_le_self _ (by omega)
      rw [wrap_i64 (by omega) h7]
      exact h6
    refine WP.ite (fun h => absurd h (by omega)) (fun _ => ?_)
    have hm := mul_bound (a := (sep.size : Int)) (b := (rest.length : Int) + 1) (A := 100) (B := 99) (by omega) (by omega) (by omega) (by omega)
    rw [wrap_i64 (n := (sep.size : Int) * ((rest.length : Int) + 1)) (by omega) (by omega), wrap_i64 (by omega) (by omega)]
    exact K2 _ (by omega) (by omega)
end
end Go.Proofs.YtddmmgcfanpmmaaGreatDoor.Lx
