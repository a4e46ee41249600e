
import Derived.Test.YtpmhinidiplhiaaDoorRulesLex
import Derived.Test.YtpmhinidiplhiaaDoorRulesWrite
set_option linter.unusedVariables false
set_option linter.unusedSimpArgs false
namespace Go.Proofs.YtpmhinidiplhiaaDoor.Lx
open Go Go.Proofs Go.RowKit
theorem Zrp {n : Nat} (h0 : 1000 ≤ n) (h : n < 65536) : (dec5 n).all ZcM = true ∧ valD (dec5 n) = n ∧ (dec5 n).getD 0 0 ≠ 48 := by
 unfold dec5
 have dg : ∀ k : Nat, k < 10 → ZcM (48 + (k : Int)) = true := fun k hk => decide_eq_true (by omega)
 have vl : ∀ k : Nat, (48 + (k : Int) - 48).toNat = k := fun k => by omega
 by_cases h1 : n < 10000
 ·rw [if_pos h1, List.nil_append]
  refine ⟨?_, ?_, ?_⟩
  ·simp only [List.all_cons, List.all_nil, Bool.and_true, Bool.and_eq_true]
   exact ⟨dg _ (by omega), dg _ (by omega), dg _ (by omega), dg _ (by omega)⟩
  ·simp only [valD, List.foldl_cons, List.foldl_nil, vl]
   omega
  ·simp only [List.getD_cons_zero]
   omega
 ·rw [if_neg h1, List.singleton_append]
  refine ⟨?_, ?_, ?_⟩
  ·simp only [List.all_cons, List.all_nil, Bool.and_true, Bool.and_eq_true]
   exact ⟨dg _ (by omega), dg _ (by omega), dg _ (by omega), dg _ (by omega), dg _ (by omega)⟩
  ·simp only [valD, List.foldl_cons, List.foldl_nil, vl]
   omega
  ·simp only [List.getD_cons_zero]
   omega
theorem Zle {v : Int} (h0 : 0 ≤ v) (h : v < 65536) : (decM v).all ZcM = true ∧ (valD (decM v) : Int) = v ∧ ((decM v).getD 0 0 = 48 → (decM v).length ≤ 1) := by
 obtain ⟨n, rfl⟩ : ∃ n : Nat, v = (n : Int) := ⟨v.toNat, by omega⟩
 by_cases hn : n < 1000
 ·rw [ZhY hn]
  obtain ⟨t1, t2, t3, t4, t5⟩ := ZeZ ⟨n, hn⟩
  simp only at t1 t2 t3 t4 t5
  refine ⟨t1, by omega, fun h => ?_⟩
  by_cases hl : 1 < (dec3 n).length
  ·exact absurd h (t5 hl)
  ·omega
 ·rw [Zlf (by omega) (by omega)]
  obtain ⟨t1, t2, t3⟩ := Zrp (n := n) (by omega) (by omega)
  exact ⟨t1, by omega, fun h => absurd h t3⟩
theorem Zhi {v lo hi : Int} (h0 : 0 ≤ v) (h : v < 65536) (h1 : lo ≤ v) (h2 : v ≤ hi) : numR (decM v) lo hi = some v := by
 obtain ⟨a1, a2, -⟩ := Zdw h0 h
 obtain ⟨b1, b2, b3⟩ := Zle h0 h
 unfold numR
 rw [if_neg, if_pos (by omega), b2]
 rintro (h | h | h | h)
 ·rw [h] at a2
  simp at a2
 ·omega
 ·have := b3 h.1
  omega
 ·rw [b1] at h
  cases h
theorem ZeY {v : Int} (h0 : 0 ≤ v) (h : v < 65536) : Wrd (decM v) := by
 obtain ⟨-, a2, -⟩ := Zdw h0 h
 obtain ⟨b1, -, -⟩ := Zle h0 h
 refine ⟨fun h => by rw [h] at a2; simp at a2, ?_⟩
 rw [List.all_eq_true] at b1 ⊢
 exact fun x hx => Zm9 (b1 x hx)
theorem ZrN {l : List Int} (h : l.all ZcM = true) {q : Int} (hq : ZcM q = false) : ∀ c ∈ l, c ≠ q := fun c hc h' => by
 have := List.all_eq_true.1 h c hc
 rw [h', hq] at this
 cases this
theorem ZmV {r : ZaM} (h : ZdQ r = true) : Zid (Zck r) = some r := by
 have h := of_decide_eq_true h
 have ha := Zle (v := r.Lo) (by omega) (by omega)
 have na := Zhi (v := r.Lo) (lo := 0) (hi := 65535) (by omega) (by omega) (by omega) (by omega)
 have nb := Zhi (v := r.Hi) (lo := 0) (hi := 65535) (by omega) (by omega) (by omega) (by omega)
 unfold Zck Zid
 by_cases hh : r.Hi ≠ r.Lo
 ·rw [if_pos hh]
  have hf : Za5 (decM r.Lo ++ 45 :: decM r.Hi) 45 = (decM r.Lo).length := Zkt (ZrN ha.1 (by decide))
  rw [hf, List.take_left, if_pos (by rw [List.length_append, List.length_cons]; omega)]
  have hd : (decM r.Lo ++ 45 :: decM r.Hi).drop ((decM r.Lo).length + 1) = decM r.Hi := by
   rw [← List.drop_drop, List.drop_left]
   rfl
  rw [hd, na, nb]
  simp only
  rw [if_pos (by omega)]
 ·rw [if_neg hh]
  have hf : Za5 (decM r.Lo) 45 = (decM r.Lo).length := ZgZ (ZrN ha.1 (by decide))
  rw [hf, List.take_length, if_neg (Nat.lt_irrefl _), na]
  simp only
  rw [if_pos (Int.le_refl _)]
  have : r.Hi = r.Lo := Decidable.not_not.1 hh
  cases r
  simp only at this
  rw [this]
theorem Zka {r : ZaM} (h : ZdQ r = true) : Wrd (Zck r) := by
 have h := of_decide_eq_true h
 obtain ⟨a1, a2⟩ := ZeY (v := r.Lo) (by omega) (by omega)
 obtain ⟨b1, b2⟩ := ZeY (v := r.Hi) (by omega) (by omega)
 unfold Zck
 split
 ·refine ⟨by simp, ?_⟩
  rw [List.all_append, List.all_cons, a2, b2]
  decide
 ·exact ⟨a1, a2⟩
theorem Zq1 {ip : Za1} (hb : Byt ip.A.l) (hs : ZdH ip > 0) : Wrd (prIP ip) := by
 have jn : ∀ {q : Int} {l : List (List Int)}, Zez q = true → (∀ x ∈ l, x.all Zez = true) → (Zej [q] l).all Zez = true := by
  intro q l hq h
  cases l with
  | nil => rfl
  | cons x r =>
   rw [List.all_eq_true]
   intro c hc
   rcases List.mem_append.1 hc with hc | hc
   ·exact List.all_eq_true.1 (h x (by simp)) c hc
   ·obtain ⟨y, hy, hc⟩ := List.mem_flatMap.1 hc
    rcases List.mem_append.1 hc with hc | hc
    ·rw [List.mem_singleton.1 hc]
     exact hq
    ·exact List.all_eq_true.1 (h y (by simp [hy])) c hc
 have dot : ∀ {a : List Int}, Byt a → (dotM a).all Zez = true := fun {a} hb => jn (by decide) (fun x hx => by
  obtain ⟨y, hy, rfl⟩ := List.mem_map.1 hx
  have := hb y hy
  have ht := (ZeZ ⟨y.toNat, by omega⟩).1
  rw [List.all_eq_true] at ht ⊢
  exact fun c hc => Zm9 (ht c hc))
 have col : ∀ {gs : List Nat}, (∀ g ∈ gs, g < 65536) → (colM gs).all Zez = true := fun {gs} hg => jn (by decide) (fun x hx => by
  obtain ⟨y, hy, rfl⟩ := List.mem_map.1 hx
  rw [List.all_eq_true]
  intro c hc
  have := (ZhU (hg y hy)).1 c hc
  unfold ZdV hexV at this
  have := of_decide_eq_true this
  refine decide_eq_true ?_
  split at this
  ·omega
  ·split at this
   ·omega
   ·split at this <;> omega)
 have hlt := Zji hb
 refine ⟨fun h => ?_, ?_⟩
 ·have := Znc hb hs
  rw [h] at this
  cases this
 unfold prIP
 split
 ·exact dot (fun x hx => hb x (List.mem_of_mem_take hx))
 ·split
  ·rw [List.all_append, dot (fun x hx => hb x (List.mem_of_mem_drop hx))]
   decide
  ·split
   ·exact col hlt
   ·rw [List.all_append, List.all_append, col (fun g hg => hlt g (List.mem_of_mem_take hg)), col (fun g hg => hlt g (List.mem_of_mem_drop hg))]
    decide
theorem ZnF {p : Zak} (hb : Byt p.IP.A.l) (h : vpM p = 0) : Wrd (netT p) := by
 obtain ⟨h1, h2, h3, h4⟩ := ZhH h
 have h5 := Zfx p.IP
 obtain ⟨a1, a2⟩ := Zq1 hb (show ZdH p.IP > 0 by omega)
 unfold netT
 split
 ·exact ⟨a1, a2⟩
 ·refine ⟨by simp, ?_⟩
  have ht := (ZeZ ⟨p.Len.toNat, by omega⟩).1
  have ht2 : (dec3 p.Len.toNat).all Zez = true := by
   rw [List.all_eq_true] at ht ⊢
   exact fun c hc => Zm9 (ht c hc)
  rw [List.all_append, List.all_cons, a2, ht2]
  decide
theorem Zl6 {p : Zak} (hb : Byt p.IP.A.l) (h : vpM p = 0) : netR (netT p) = some p := by
 obtain ⟨h1, h2, h3, h4⟩ := ZhH h
 have h5 := Zfx p.IP
 unfold netT netR
 by_cases hh : (p.Len = 32 ∧ p.IP.V = 4) ∨ p.Len = 128
 ·rw [if_pos hh]
  have hne : ¬ Za5 (prIP p.IP) 47 < (prIP p.IP).length := by
   rw [ZgZ (Zpy hb)]
   omega
  have hp : ∃ f, Ziu (prIP p.IP) = .error f := by
   unfold Ziu
   split
   ·exact ⟨_, rfl⟩
   ·exact ⟨_, rfl⟩
  obtain ⟨f, hf⟩ := hp
  rw [hf, Znc hb (by omega)]
  simp only
  have hv : p.Len = if p.IP.V = 6 then 128 else 32 := by
   rcases hh with hh | hh
   ·rw [if_neg (by omega), hh.1]
   ·rcases ZiW (show ZdH p.IP > 0 by omega) with hv | ⟨hv, -⟩
    ·rw [if_pos hv, hh]
    ·have : ZdH p.IP = 32 := by
      have hz := h5
      unfold ZdH at h3 h1 ⊢
      split at h3 <;> simp_all
     omega
  rw [← hv]
 ·rw [if_neg hh, Zpw hb h]
end Go.Proofs.YtpmhinidiplhiaaDoor.Lx
