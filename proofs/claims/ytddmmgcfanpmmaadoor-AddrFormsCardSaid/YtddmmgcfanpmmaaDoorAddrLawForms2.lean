/- weirlaw4.AddrForms: the walk. -/
import Derived.Test.YtddmmgcfanpmmaaDoorAddrLawForms
set_option linter.unusedVariables false
set_option linter.unusedSimpArgs false
namespace Go.Proofs.YtddmmgcfanpmmaaDoor.Lx
open Go Go.Proofs Go.RowKit
theorem col1 : str4 = bstr [58] := by decide +kernel
theorem col2 : str3 = bstr [58, 58] := by decide +kernel
section
variable {W w : World} {Hs : List HP}
theorem forms_K1 (s : Ss W Hs w) (t t' : Nat) (et : nth Hs t = some TabN) (et' : nth Hs t' = some TabC) {a : Vec Int 16} {l : List Int} (hb : Byt l) (h : parseM l = .ok ⟨6, a⟩) : WP (weirlaw4_AddrForms.K1 a (bstr l)) w (fun r w' => r = true ∧ Ss W Hs w') := by
  unfold weirlaw4_AddrForms.K1
  refine WP.step (ParseIP_wp s _) ?_
  rintro _ w ⟨rfl, s⟩
  have e : ipM (strI (bstr l)) = (⟨6, a⟩, 0, 0) := by
    unfold ipM
    rw [strI_bstr hb, h]
  rw [e]
  refine WP.slot' s (fun _ w s => WP.step (started_wp s t t' et et') ?_)
  rintro _ w ⟨rfl, s⟩
  refine WP.step (R := fun y w' => y = true ∧ w = w') (WP.ite (fun _ => num_wp (WP.ret ⟨rfl, rfl⟩)) (fun h => absurd rfl h)) ?_
  rintro _ _ ⟨rfl, rfl⟩
  refine WP.step (R := fun y w' => y = true ∧ w = w') (WP.ite (fun _ => WP.ret ⟨rfl, rfl⟩) (fun h => absurd rfl h)) ?_
  rintro _ _ ⟨rfl, rfl⟩
  refine WP.step (R := fun y w' => y = true ∧ w = w') (WP.ite (fun _ => WP.ret ⟨eqv_iff.2 rfl, rfl⟩) (fun h => absurd rfl h)) ?_
  rintro _ _ ⟨rfl, rfl⟩
  exact WP.ret ⟨rfl, s⟩
theorem forms_K2 (s : Ss W Hs w) (t t' : Nat) (et : nth Hs t = some TabN) (et' : nth Hs t' = some TabC) {a : Vec Int 16} {l : List Int} (ha : Byt a.l) (hl : l.length ≤ 1000) (hb : Byt l) (h : parseM (l ++ tl4 a.l) = .ok ⟨6, a⟩) : WP (weirlaw4_AddrForms.K2 a (bstr l)) w (fun r w' => r = true ∧ Ss W Hs w') := by
  unfold weirlaw4_AddrForms.K2
  refine WP.step (dots_wp s a ha) ?_
  rintro _ w ⟨rfl, s⟩
  have h4 := parseM_len h
  rw [List.length_append] at h4
  refine WP.chk (by rw [bstr_size, bstr_size]; omega) ?_
  rw [catb]
  exact forms_K1 s t t' et et' (hb.app (tl4_byt ha)) h
theorem forms_K3 (s : Ss W Hs w) (t t' : Nat) (et : nth Hs t = some TabN) (et' : nth Hs t' = some TabC) {a : Vec Int 16} (ha : Byt a.l) {tail : Bool} {n i j : Nat} {l : List Int} (hn : n = if tail = true then 6 else 8) (hg : Gap a.l n i j) (h : Txt a.l i j n l) : WP (weirlaw4_AddrForms.K3 a tail (n : Int) (i : Int) (j : Int) (bstr l)) w (fun r w' => r = true ∧ Ss W Hs w') := by
  have hl := h.len
  have hb := h.byt
  unfold weirlaw4_AddrForms.K3
  refine WP.ite (fun ht => ?_) (fun ht => ?_)
  · rw [if_pos ht] at hn
    subst hn
    have hr := h.readT ha hg
    refine WP.step (R := fun y w' => (y = true ↔ (j ≠ 6 ∨ i = j)) ∧ w = w') (WP.ite (fun h => WP.ret ⟨⟨fun _ => .inl (by omega), fun _ => rfl⟩, rfl⟩) (fun h => WP.ret ⟨?_, rfl⟩)) ?_
    · have hj : j = 6 := by omega
      rw [beq_iff_eq]
      constructor
      · intro e
        exact .inr (by omega)
      · rintro (e | e)
        · exact absurd hj e
        · omega
    rintro y _ ⟨hy, rfl⟩
    refine WP.ite (fun e => ?_) (fun e => ?_)
    · rw [if_pos (hy.1 e)] at hr
      rw [col1]
      refine WP.chk (by rw [bstr_size, bstr_size]; simp only [List.length_cons, List.length_nil]; omega) ?_
      rw [catb]
      exact forms_K2 s t t' et et' ha (by simp only [List.length_append, List.length_cons, List.length_nil]; omega) (hb.app (by intro c hc; rw [List.mem_singleton] at hc; omega)) hr
    · rw [if_neg (fun h => e (hy.2 h))] at hr
      exact forms_K2 s t t' et et' ha (by omega) hb hr
  · rw [if_neg ht] at hn
    subst hn
    exact forms_K1 s t t' et et' hb (h.read ha hg)
theorem forms_K5 {D : LS (ByteArray × Int) Bool → World → Prop} (s : Ss W Hs w) (p : Nat) {u1 : Sl} {ways : List Int} (ep : nth Hs p = some (rdS (cI .i64) false u1 ways)) {a : Vec Int 16} (ha : Byt a.l) {k : Nat} (hk : k < 8) {l : List Int} (hl : l.length ≤ 1000)
    (nx : ∀ m w', Grp m (grp a.l k) → Ss W Hs w' → D (.next (bstr (l ++ m), ((k + 1 : Nat) : Int))) w') : WP (weirlaw4_AddrForms.K5 a u1 (k : Int) (bstr l)) w D := by
  have hlen := (s.rd_len ep rdS_rdb).1
  have k4 : ∀ (way : Int) {w : World}, Ss W Hs w → WP (weirlaw4_AddrForms.K4 a (k : Int) (bstr l) way) w D := by
    intro way w s
    unfold weirlaw4_AddrForms.K4
    rw [show IntKind.wrap .i64 (2 * (k : Int)) = ((2 * k : Nat) : Int) by rw [wrap_i64 (by omega) (by omega)]; omega, show IntKind.wrap .i64 (((2 * k : Nat) : Int) + 1) = ((2 * k + 1 : Nat) : Int) by rw [wrap_i64 (by omega) (by omega)]; omega, show IntKind.wrap .i64 ((k : Int) + 1) = ((k + 1 : Nat) : Int) by rw [wrap_i64 (by omega) (by omega)]; omega]
    refine WP.draw' s (fun w s => WP.chk ⟨by omega, by omega⟩ (WP.chk ⟨by omega, by omega⟩ (WP.step (written_wp s way (getD_byt ha _) (getD_byt ha _)) ?_)))
    rintro _ w ⟨⟨m, g, rfl⟩, s⟩
    have := g.q
    refine WP.chk (by rw [bstr_size, bstr_size]; omega) ?_
    rw [catb]
    exact WP.ret (nx m w g s)
  unfold weirlaw4_AddrForms.K5
  refine WP.ite (fun h => ?_) (fun h => k4 0 s)
  have hk' : k < ways.length := by omega
  exact WP.rdxp0 s p ep rdS_rdb (by omega) (x := ways[k]) (y := ways[k]) (by rw [Int.toNat_natCast, List.getElem?_eq_getElem hk']) rfl (At.whole _) (k4 _ s)
theorem forms_L1 (s : Ss W Hs w) (t t' : Nat) (et : nth Hs t = some TabN) (et' : nth Hs t' = some TabC) (p : Nat) {u1 : Sl} {ways : List Int} (ep : nth Hs p = some (rdS (cI .i64) false u1 ways)) {a : Vec Int 16} (ha : Byt a.l) {tail : Bool} {n i j : Nat} (hn : n = if tail = true then 6 else 8) (hg : Gap a.l n i j) :
    WP (weirlaw4_AddrForms.K7 a u1 tail (n : Int) (i : Int) (j : Int)) w (fun r w' => r = true ∧ Ss W Hs w') := by
  have hn8 : n ≤ 8 := by split at hn <;> omega
  have hij : i ≤ n ∧ j ≤ n ∧ i ≤ j := by
    rcases hg with ⟨rfl, rfl⟩ | ⟨h1, h2, _⟩ <;> omega
  unfold weirlaw4_AddrForms.K7
  have t0 : Txt a.l i j 0 [] := by
    unfold Txt
    rw [if_pos (by omega)]
    exact ⟨[], .nil, rfl⟩
  refine WP.loopG (γ := Nat × List Int) (fun g (x : ByteArray × Int) w => x.1 = bstr g.2 ∧ x.2 = (g.1 : Int) ∧ g.1 ≤ n ∧ Txt a.l i j g.1 g.2 ∧ Ss W Hs w) (fun g _ => n - g.1) (0, []) ⟨rfl, rfl, Nat.zero_le _, t0, s⟩ ?_
  clear s t0
  rintro ⟨k, l⟩ ⟨_, _⟩ w ⟨rfl, rfl, hkn, ht, s⟩
  simp only at hkn ht
  show WP (weirlaw4_AddrForms.L1 a u1 tail (n : Int) (i : Int) (j : Int) (bstr l) (k : Int)) w _
  unfold weirlaw4_AddrForms.L1
  have hl := ht.len
  have wk : ∀ h : k < n, IntKind.wrap .i64 ((k : Int) + 1) = ((k + 1 : Nat) : Int) := fun h => by rw [wrap_i64 (by omega) (by omega)]; omega
  refine WP.ite (fun hk => ?_) (fun hk => ?_)
  · have hk : k < n := by omega
    refine WP.step (R := fun y w' => y = decide (k = i ∧ i < j) ∧ w = w') (WP.ite (fun h => WP.ret ⟨?_, rfl⟩) (fun h => WP.ret ⟨?_, rfl⟩)) ?_
    · by_cases hh : i < j
      · rw [decide_eq_true (show (i : Int) < j by omega), decide_eq_true ⟨by omega, hh⟩]
      · rw [decide_eq_false (show ¬ (i : Int) < j by omega), decide_eq_false (fun h => hh h.2)]
    · rw [decide_eq_false (fun h' => h (by omega))]
    rintro _ _ ⟨rfl, rfl⟩
    refine WP.ite (fun e => ?_) (fun e => ?_)
    · -- the gap begins
      obtain ⟨rfl, hj⟩ := of_decide_eq_true e
      rw [col2]
      refine WP.chk (by rw [bstr_size, bstr_size]; simp only [List.length_cons, List.length_nil]; omega) ?_
      rw [catb]
      unfold weirlaw4_AddrForms.K6
      refine WP.step (R := fun y w' => y = true ∧ w = w') (WP.ite (fun _ => WP.ret ⟨decide_eq_true (by omega), rfl⟩) (fun h => absurd (by omega) h)) ?_
      rintro _ _ ⟨rfl, rfl⟩
      refine WP.ite (fun _ => ?_) (fun h => absurd rfl h)
      rw [wk hk]
      exact WP.next ⟨(k + 1, l ++ [58, 58]), ⟨rfl, rfl, by simp only; omega, ht.gap hj, s⟩, by simp only; omega⟩
    · have e : ¬ (k = i ∧ i < j) := fun h => e (decide_eq_true h)
      unfold weirlaw4_AddrForms.K6
      refine WP.step (R := fun y w' => y = decide (i ≤ k ∧ k < j) ∧ w = w') (WP.ite (fun h => WP.ret ⟨?_, rfl⟩) (fun h => WP.ret ⟨?_, rfl⟩)) ?_
      · by_cases hh : k < j
        · rw [decide_eq_true (show (k : Int) < j by omega), decide_eq_true ⟨by omega, hh⟩]
        · rw [decide_eq_false (show ¬ (k : Int) < j by omega), decide_eq_false (fun h => hh h.2)]
      · rw [decide_eq_false (fun h' => h (by omega))]
      rintro _ _ ⟨rfl, rfl⟩
      refine WP.ite (fun h => ?_) (fun h => ?_)
      · -- within the gap
        obtain ⟨h1, h2⟩ := of_decide_eq_true h
        rw [wk hk]
        exact WP.next ⟨(k + 1, l), ⟨rfl, rfl, by simp only; omega, ht.on (by omega) h2, s⟩, by simp only; omega⟩
      · have h : ¬ (i ≤ k ∧ k < j) := fun h' => h (decide_eq_true h')
        refine WP.step (R := fun y w' => y = decide (0 < k ∧ k ≠ j) ∧ w = w') (WP.ite (fun h => WP.ret ⟨?_, rfl⟩) (fun h => WP.ret ⟨?_, rfl⟩)) ?_
        · by_cases hh : k = j
          · subst hh
            rw [decide_eq_false (fun h => h.2 rfl)]
            simp
          · rw [decide_eq_true ⟨by omega, hh⟩]
            exact bne_iff_ne.2 (by omega)
        · rw [decide_eq_false (fun h' => h (by omega))]
        rintro _ _ ⟨rfl, rfl⟩
        -- what stands then
        have fin : ∀ m, Grp m (grp a.l k) → Txt a.l i j (k + 1) ((if 0 < k ∧ k ≠ j then l ++ [58] else l) ++ m) := by
          intro m g
          by_cases hki : k < i
          · have := ht.more hki (by omega) g
            by_cases h0 : k = 0
            · rw [if_pos h0] at this
              rw [if_neg (by omega)]
              exact this
            · rw [if_neg h0] at this
              rw [if_pos (by omega)]
              exact this
          · have hki' : i < k ∧ j ≤ k := by
              rcases hg with ⟨h1, h2⟩ | ⟨h1, h2, _⟩ <;> omega
            have := ht.back hki'.1 hki'.2 (by omega) g
            by_cases h0 : k = j
            · rw [if_pos h0] at this
              rw [if_neg (by omega)]
              exact this
            · rw [if_neg h0] at this
              rw [if_pos (by omega)]
              exact this
        refine WP.ite (fun h2 => ?_) (fun h2 => ?_)
        · have h2 := of_decide_eq_true h2
          rw [col1]
          refine WP.chk (by rw [bstr_size, bstr_size]; simp only [List.length_cons, List.length_nil]; omega) ?_
          rw [catb]
          refine forms_K5 s p ep ha (by omega) (by simp only [List.length_append, List.length_cons, List.length_nil]; omega) (fun m w' g s => ?_)
          have := fin m g
          rw [if_pos h2] at this
          exact ⟨(k + 1, l ++ [58] ++ m), ⟨rfl, rfl, by simp only; omega, this, s⟩, by simp only; omega⟩
        · have h2 : ¬ (0 < k ∧ k ≠ j) := fun h => h2 (decide_eq_true h)
          refine forms_K5 s p ep ha (by omega) (by omega) (fun m w' g s => ?_)
          have := fin m g
          rw [if_neg h2] at this
          exact ⟨(k + 1, l ++ m), ⟨rfl, rfl, by simp only; omega, this, s⟩, by simp only; omega⟩
  · have hk : k = n := by omega
    subst hk
    exact WP.step (forms_K3 s t t' et et' ha hn hg ht) (fun b w h => WP.done h)
theorem forms_K8 (s : Ss W Hs w) (t t' : Nat) (et : nth Hs t = some TabN) (et' : nth Hs t' = some TabC) (p : Nat) {u1 : Sl} {ways : List Int} (ep : nth Hs p = some (rdS (cI .i64) false u1 ways)) {a : Vec Int 16} (ha : Byt a.l) {tail : Bool} {n i j : Nat} (hn : n = if tail = true then 6 else 8) (hg : (i = n ∧ j = n) ∨ (i < j ∧ j ≤ n)) :
    WP (weirlaw4_AddrForms.K8 a u1 tail (n : Int) (i : Int) (j : Int)) w (fun r w' => r = true ∧ Ss W Hs w') := by
  have hn8 : n ≤ 8 := by split at hn <;> omega
  unfold weirlaw4_AddrForms.K8
  refine WP.loopG (γ := Nat × Nat × Nat) (fun g (x : Int × Int × Int) w => x.1 = (g.1 : Int) ∧ x.2.1 = (g.2.1 : Int) ∧ x.2.2 = (g.2.2 : Int) ∧ g.2.2 ≤ g.2.1 ∧ ((g.1 = n ∧ g.2.1 = n) ∨ (g.1 < g.2.1 ∧ g.2.1 ≤ n ∧ g.1 ≤ g.2.2 ∧ ∀ k, g.1 ≤ k → k < g.2.2 → grp a.l k = 0)) ∧ Ss W Hs w) (fun g _ => n - g.2.2) (i, j, i) ⟨rfl, rfl, rfl, by simp only; omega, ?_, s⟩ ?_
  · rcases hg with h | h
    · exact .inl h
    · exact .inr ⟨h.1, h.2, Nat.le_refl _, fun k h1 h2 => by simp only at h1 h2; omega⟩
  clear s hg i j
  rintro ⟨i, j, k⟩ ⟨_, _, _⟩ w ⟨rfl, rfl, rfl, hkj, hg, s⟩
  simp only at hkj hg
  have hjn : j ≤ n := by rcases hg with h | h <;> omega
  show WP (weirlaw4_AddrForms.L2 a u1 tail (n : Int) (i : Int) (j : Int) (k : Int)) w _
  unfold weirlaw4_AddrForms.L2
  refine WP.ite (fun hk => ?_) (fun hk => ?_)
  · have hk : k < j := by omega
    rw [show IntKind.wrap .i64 (2 * (k : Int)) = ((2 * k : Nat) : Int) by rw [wrap_i64 (by omega) (by omega)]; omega, show IntKind.wrap .i64 (((2 * k : Nat) : Int) + 1) = ((2 * k + 1 : Nat) : Int) by rw [wrap_i64 (by omega) (by omega)]; omega, show IntKind.wrap .i64 ((k : Int) + 1) = ((k + 1 : Nat) : Int) by rw [wrap_i64 (by omega) (by omega)]; omega]
    have b1 := getD_byt ha (2 * k)
    have b2 := getD_byt ha (2 * k + 1)
    have v1 : Vec.g a ((2 * k : Nat) : Int) 0 = a.l.getD (2 * k) 0 := by unfold Vec.g; rw [Int.toNat_natCast]
    have v2 : Vec.g a ((2 * k + 1 : Nat) : Int) 0 = a.l.getD (2 * k + 1) 0 := by unfold Vec.g; rw [Int.toNat_natCast]
    refine WP.chk ⟨by omega, by omega⟩ ?_
    rw [v1, v2]
    refine WP.step (R := fun y w' => (y = false → grp a.l k = 0) ∧ w = w') (WP.ite (fun h => WP.ret ⟨fun h => (by cases h), rfl⟩) (fun h => WP.chk ⟨by omega, by omega⟩ (WP.ret ⟨fun h2 => ?_, rfl⟩))) ?_
    · have h1 := Decidable.not_not.1 h
      have h2 : a.l.getD (2 * k + 1) 0 = 0 := by
        by_cases e : a.l.getD (2 * k + 1) 0 = 0
        · exact e
        · rw [bne_iff_ne.2 e] at h2
          cases h2
      unfold grp
      rw [h1, h2]
      rfl
    rintro y _ ⟨hy, rfl⟩
    refine WP.ite (fun e => ?_) (fun e => ?_)
    · exact WP.next ⟨(n, n, k + 1), ⟨rfl, rfl, rfl, by simp only; omega, .inl ⟨rfl, rfl⟩, s⟩, by simp only; omega⟩
    · have hz := hy (by simpa using e)
      refine WP.next ⟨(i, j, k + 1), ⟨rfl, rfl, rfl, by simp only; omega, ?_, s⟩, by simp only; omega⟩
      rcases hg with h | ⟨h1, h2, h3, h4⟩
      · exact .inl h
      · refine .inr ⟨h1, h2, by simp only; omega, fun q q1 q2 => ?_⟩
        simp only at q1 q2
        by_cases e : q = k
        · subst e
          exact hz
        · exact h4 q q1 (by omega)
  · have hk : k = j := by omega
    subst hk
    refine WP.step (forms_L1 s t t' et et' p ep ha hn ?_) (fun b w h => WP.done h)
    rcases hg with h | ⟨h1, h2, h3, h4⟩
    · exact .inl h
    · exact .inr ⟨h1, h2, h4⟩
theorem forms_K9 (s : Ss W Hs w) (t t' : Nat) (et : nth Hs t = some TabN) (et' : nth Hs t' = some TabC) (p : Nat) {u1 : Sl} {ways : List Int} (ep : nth Hs p = some (rdS (cI .i64) false u1 ways)) {a : Vec Int 16} (ha : Byt a.l) {tail : Bool} {n : Nat} {i j : Int} (hn : n = if tail = true then 6 else 8) :
    WP (weirlaw4_AddrForms.K9 a u1 i j tail (n : Int)) w (fun r w' => r = true ∧ Ss W Hs w') := by
  unfold weirlaw4_AddrForms.K9
  refine WP.step (R := fun y w' => (y = false → 0 ≤ i ∧ j ≤ n) ∧ w = w') (WP.ite (fun h => WP.ret ⟨fun h => (by cases h), rfl⟩) (fun h => WP.ret ⟨fun h2 => ?_, rfl⟩)) ?_
  · have := of_decide_eq_false h2
    omega
  rintro y _ ⟨hy, rfl⟩
  refine WP.step (R := fun z w' => (z = false → 0 ≤ i ∧ j ≤ n ∧ i < j) ∧ w = w') (WP.ite (fun h => WP.ret ⟨fun h => (by cases h), rfl⟩) (fun h => WP.ret ⟨fun h2 => ?_, rfl⟩)) ?_
  · have := of_decide_eq_false h2
    have := hy (by simpa using h)
    omega
  rintro z _ ⟨hz, rfl⟩
  refine WP.ite (fun e => forms_K8 s t t' et et' p ep ha hn (.inl ⟨rfl, rfl⟩)) (fun e => ?_)
  obtain ⟨h1, h2, h3⟩ := hz (by simpa using e)
  have := forms_K8 (i := i.toNat) (j := j.toNat) s t t' et et' p ep ha hn (.inr ⟨by omega, by omega⟩)
  rwa [show ((i.toNat : Nat) : Int) = i by omega, show ((j.toNat : Nat) : Int) = j by omega] at this
theorem AddrForms_wp (s : Ss W Hs w) (t t' : Nat) (et : nth Hs t = some TabN) (et' : nth Hs t' = some TabC) (p : Nat) {u1 : Sl} {ways : List Int} (ep : nth Hs p = some (rdS (cI .i64) false u1 ways)) (a : Vec Int 16) (ha : Byt a.l) (i j : Int) (tail : Bool) :
    WP (weirlaw4_AddrForms a u1 i j tail) w (fun r w' => r = true ∧ Ss W Hs w') := by
  unfold weirlaw4_AddrForms
  refine WP.slot' s (fun _ w s => WP.ite (fun h => ?_) (fun h => ?_))
  · exact forms_K9 (n := 6) s t t' et et' p ep ha (by rw [if_pos h])
  · exact forms_K9 (n := 8) s t t' et et' p ep ha (by rw [if_neg h])
end
end Go.Proofs.YtddmmgcfanpmmaaDoor.Lx
