
import Derived.Test.YtpmhinidiplhiaaDoorRulesLex
import Derived.Test.YtpmhinidiplhiaaDoorRulesWrite
set_option linter.unusedVariables false
set_option linter.unusedSimpArgs false
namespace Go.Proofs.YtpmhinidiplhiaaDoor.Lx
open Go Go.Proofs Go.RowKit
theorem ZrO {n : Nat} (h0 : 1000 ≤ n) (h : n < 65536) : (dec5 n).all ZcR = true ∧ valD (dec5 n) = n ∧ (dec5 n).getD 0 0 ≠ 48 := by
 unfold dec5
 have dg : ∀ k : Nat, k < 10 → ZcR (48 + (k : Int)) = true := fun k hk => decide_eq_true (by omega)
 have vl : ∀ k : Nat, (48 + (k : Int) - 48).toNat = k := fun k => by omega
 by_cases h1 : n < 10000
 ·rw [if_pos h1, List.nil_append]
  refine ⟨?_, ?_, ?_⟩
  ·simp only [List.all_cons, List.all_nil, Bool.and_true, Bool.and_eq_true]
   exact ⟨dg _ (by omega), dg _ (by omega), dg _ (by omega), dg _ (by omega)⟩
  ·simp only [valD, List.foldl_cons, List.foldl_nil, vl]
   omega
  ·simp only [List.getD_cons_zero]
   omega
 ·rw [if_neg h1, List.singleton_append]
  refine ⟨?_, ?_, ?_⟩
  ·simp only [List.all_cons, List.all_nil, Bool.and_true, Bool.and_eq_true]
   exact ⟨dg _ (by omega), dg _ (by omega), dg _ (by omega), dg _ (by omega), dg _ (by omega)⟩
  ·simp only [valD, List.foldl_cons, List.foldl_nil, vl]
   omega
  ·simp only [List.getD_cons_zero]
   omega
theorem Zly {v : Int} (h0 : 0 ≤ v) (h : v < 65536) : (decM v).all ZcR = true ∧ (valD (decM v) : Int) = v ∧ ((decM v).getD 0 0 = 48 → (decM v).length ≤ 1) := by
 obtain ⟨n, rfl⟩ : ∃ n : Nat, v = (n : Int) := ⟨v.toNat, by omega⟩
 by_cases hn : n < 1000
 ·rw [Zid hn]
  obtain ⟨t1, t2, t3, t4, t5⟩ := Ze7 ⟨n, hn⟩
  simp only at t1 t2 t3 t4 t5
  refine ⟨t1, by omega, fun h => ?_⟩
  by_cases hl : 1 < (dec3 n).length
  ·exact absurd h (t5 hl)
  ·omega
 ·rw [Zlz (by omega) (by omega)]
  obtain ⟨t1, t2, t3⟩ := ZrO (n := n) (by omega) (by omega)
  exact ⟨t1, by omega, fun h => absurd h t3⟩
theorem Zht {v lo hi : Int} (h0 : 0 ≤ v) (h : v < 65536) (h1 : lo ≤ v) (h2 : v ≤ hi) : numR (decM v) lo hi = some v := by
 obtain ⟨a1, a2, -⟩ := ZdB h0 h
 obtain ⟨b1, b2, b3⟩ := Zly h0 h
 unfold numR
 rw [if_neg, if_pos (by omega), b2]
 rintro (h | h | h | h)
 ·rw [h] at a2
  simp at a2
 ·omega
 ·have := b3 h.1
  omega
 ·rw [b1] at h
  cases h
theorem Ze6 {v : Int} (h0 : 0 ≤ v) (h : v < 65536) : Wrd (decM v) := by
 obtain ⟨-, a2, -⟩ := ZdB h0 h
 obtain ⟨b1, -, -⟩ := Zly h0 h
 refine ⟨fun h => by rw [h] at a2; simp at a2, ?_⟩
 rw [List.all_eq_true] at b1 ⊢
 exact fun x hx => Znx (b1 x hx)
theorem Zsc {l : List Int} (h : l.all ZcR = true) {q : Int} (hq : ZcR q = false) : ∀ c ∈ l, c ≠ q := fun c hc h' => by
 have := List.all_eq_true.1 h c hc
 rw [h', hq] at this
 cases this
theorem Znh {r : ZaM} (h : ZcQ r = true) : Zhp (Zcl r) = some r := by
 have h := of_decide_eq_true h
 have ha := Zly (v := r.Lo) (by omega) (by omega)
 have na := Zht (v := r.Lo) (lo := 0) (hi := 65535) (by omega) (by omega) (by omega) (by omega)
 have nb := Zht (v := r.Hi) (lo := 0) (hi := 65535) (by omega) (by omega) (by omega) (by omega)
 unfold Zcl Zhp
 by_cases hh : r.Hi ≠ r.Lo
 ·rw [if_pos hh]
  have hf : Za5 (decM r.Lo ++ 45 :: decM r.Hi) 45 = (decM r.Lo).length := ZkM (Zsc ha.1 (by decide))
  rw [hf, List.take_left, if_pos (by rw [List.length_append, List.length_cons]; omega)]
  have hd : (decM r.Lo ++ 45 :: decM r.Hi).drop ((decM r.Lo).length + 1) = decM r.Hi := by
   rw [← List.drop_drop, List.drop_left]
   rfl
  rw [hd, na, nb]
  simp only
  rw [if_pos (by omega)]
 ·rw [if_neg hh]
  have hf : Za5 (decM r.Lo) 45 = (decM r.Lo).length := Zg8 (Zsc ha.1 (by decide))
  rw [hf, List.take_length, if_neg (Nat.lt_irrefl _), na]
  simp only
  rw [if_pos (Int.le_refl _)]
  have : r.Hi = r.Lo := Decidable.not_not.1 hh
  cases r
  simp only at this
  rw [this]
theorem Zks {r : ZaM} (h : ZcQ r = true) : Wrd (Zcl r) := by
 have h := of_decide_eq_true h
 obtain ⟨a1, a2⟩ := Ze6 (v := r.Lo) (by omega) (by omega)
 obtain ⟨b1, b2⟩ := Ze6 (v := r.Hi) (by omega) (by omega)
 unfold Zcl
 split
 ·refine ⟨by simp, ?_⟩
  rw [List.all_append, List.all_cons, a2, b2]
  decide
 ·exact ⟨a1, a2⟩
theorem Zrp {ip : Za2} (hb : Byt ip.A.l) (hs : ZdN ip > 0) : Wrd (prIP ip) := by
 have jn : ∀ {q : Int} {l : List (List Int)}, ZeC q = true → (∀ x ∈ l, x.all ZeC = true) → (Zeq [q] l).all ZeC = true := by
  intro q l hq h
  cases l with
  | nil => rfl
  | cons x r =>
   rw [List.all_eq_true]
   intro c hc
   rcases List.mem_append.1 hc with hc | hc
   ·exact List.all_eq_true.1 (h x (by simp)) c hc
   ·obtain ⟨y, hy, hc⟩ := List.mem_flatMap.1 hc
    rcases List.mem_append.1 hc with hc | hc
    ·rw [List.mem_singleton.1 hc]
     exact hq
    ·exact List.all_eq_true.1 (h y (by simp [hy])) c hc
 have dot : ∀ {a : List Int}, Byt a → (dotM a).all ZeC = true := fun {a} hb => jn (by decide) (fun x hx => by
  obtain ⟨y, hy, rfl⟩ := List.mem_map.1 hx
  have := hb y hy
  have ht := (Ze7 ⟨y.toNat, by omega⟩).1
  rw [List.all_eq_true] at ht ⊢
  exact fun c hc => Znx (ht c hc))
 have col : ∀ {gs : List Nat}, (∀ g ∈ gs, g < 65536) → (colM gs).all ZeC = true := fun {gs} hg => jn (by decide) (fun x hx => by
  obtain ⟨y, hy, rfl⟩ := List.mem_map.1 hx
  rw [List.all_eq_true]
  intro c hc
  have := (Zh9 (hg y hy)).1 c hc
  unfold ZdZ hexV at this
  have := of_decide_eq_true this
  refine decide_eq_true ?_
  split at this
  ·omega
  ·split at this
   ·omega
   ·split at this <;> omega)
 have hlt := Zjz hb
 refine ⟨fun h => ?_, ?_⟩
 ·have := ZnA hb hs
  rw [h] at this
  cases this
 unfold prIP
 split
 ·exact dot (fun x hx => hb x (List.mem_of_mem_take hx))
 ·split
  ·rw [List.all_append, dot (fun x hx => hb x (List.mem_of_mem_drop hx))]
   decide
  ·split
   ·exact col hlt
   ·rw [List.all_append, List.all_append, col (fun g hg => hlt g (List.mem_of_mem_take hg)), col (fun g hg => hlt g (List.mem_of_mem_drop hg))]
    decide
theorem Zn4 {p : Zaj} (hb : Byt p.IP.A.l) (h : vpM p = 0) : Wrd (netT p) := by
 obtain ⟨h1, h2, h3, h4⟩ := ZhU h
 have h5 := ZfI p.IP
 obtain ⟨a1, a2⟩ := Zrp hb (show ZdN p.IP > 0 by omega)
 unfold netT
 split
 ·exact ⟨a1, a2⟩
 ·refine ⟨by simp, ?_⟩
  have ht := (Ze7 ⟨p.Len.toNat, by omega⟩).1
  have ht2 : (dec3 p.Len.toNat).all ZeC = true := by
   rw [List.all_eq_true] at ht ⊢
   exact fun c hc => Znx (ht c hc)
  rw [List.all_append, List.all_cons, a2, ht2]
  decide
theorem Zms {p : Zaj} (hb : Byt p.IP.A.l) (h : vpM p = 0) : netR (netT p) = some p := by
 obtain ⟨h1, h2, h3, h4⟩ := ZhU h
 have h5 := ZfI p.IP
 unfold netT netR
 by_cases hh : (p.Len = 32 ∧ p.IP.V = 4) ∨ p.Len = 128
 ·rw [if_pos hh]
  have hne : ¬ Za5 (prIP p.IP) 47 < (prIP p.IP).length := by
   rw [Zg8 (Zp1 hb)]
   omega
  have hp : ∃ f, ZiL (prIP p.IP) = .error f := by
   unfold ZiL
   split
   ·exact ⟨_, rfl⟩
   ·exact ⟨_, rfl⟩
  obtain ⟨f, hf⟩ := hp
  rw [hf, ZnA hb (by omega)]
  simp only
  have hv : p.Len = if p.IP.V = 6 then 128 else 32 := by
   rcases hh with hh | hh
   ·rw [if_neg (by omega), hh.1]
   ·rcases Zja (show ZdN p.IP > 0 by omega) with hv | ⟨hv, -⟩
    ·rw [if_pos hv, hh]
    ·have : ZdN p.IP = 32 := by
      have hz := h5
      unfold ZdN at h3 h1 ⊢
      split at h3 <;> simp_all
     omega
  rw [← hv]
 ·rw [if_neg hh, ZpZ hb h]
end Go.Proofs.YtpmhinidiplhiaaDoor.Lx
