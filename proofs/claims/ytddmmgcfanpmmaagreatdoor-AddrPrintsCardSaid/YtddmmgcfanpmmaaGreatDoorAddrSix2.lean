/- The reading of addresses of version 6 (package addr): one group. -/
import Derived.Test.YtddmmgcfanpmmaaGreatDoorAddrSix
set_option linter.unusedVariables false
set_option linter.unusedSimpArgs false
namespace Go.Proofs.YtddmmgcfanpmmaaGreatDoor.Lx
open Go Go.Proofs Go.RowKit
theorem fourF_ok {l : List Int} : ∀ (k i : Nat) (acc a : List Nat) (e : Nat), i ≤ l.length → (∀ n ∈ acc, n ≤ 255) → fourF l k i acc = .ok (a, e) → a.length = acc.length + k ∧ (∀ n ∈ a, n ≤ 255) ∧ i ≤ e ∧ e ≤ l.length
  | 0, i, acc, a, e, hi, hacc, h => by
    cases h
    exact ⟨rfl, hacc, Nat.le_refl _, hi⟩
  | k + 1, i, acc, a, e, hi, hacc, h => by
    unfold fourF at h
    cases hs : sepM l i acc.isEmpty with
    | error f => rw [hs] at h; cases h
    | ok j =>
      have hj : i ≤ j ∧ j ≤ l.length := by
        unfold sepM at hs
        split at hs
        · cases hs; omega
        · split at hs
          · cases hs
          · rename_i h2
            cases hs
            have : ¬ i = l.length := fun h' => h2 (.inl h')
            omega
      rw [hs] at h
      simp only at h
      cases hn : numM l j 255 43 with
      | error f => rw [hn] at h; cases h
      | ok x =>
        obtain ⟨n, e'⟩ := x
        rw [hn] at h
        simp only at h
        obtain ⟨o1, o2, o3⟩ := numM_ok hn hj.2
        obtain ⟨p1, p2, p3, p4⟩ := fourF_ok k e' (acc ++ [n]) a e o3 (fun m hm => by
          rcases List.mem_append.1 hm with hm | hm
          · exact hacc m hm
          · rw [List.mem_singleton] at hm
            omega) h
        refine ⟨?_, p2, by omega, p4⟩
        rw [p1, List.length_append]
        simp only [List.length_cons, List.length_nil]
        omega
theorem fourM_ok {l : List Int} {i : Nat} {a : List Nat} (hi : i ≤ l.length) (h : fourM l i = .ok a) : a.length = 4 ∧ ∀ n ∈ a, n ≤ 255 := by
  unfold fourM at h
  cases hf : fourF l 4 i [] with
  | error f => rw [hf] at h; cases h
  | ok x =>
    obtain ⟨b, e⟩ := x
    rw [hf] at h
    simp only at h
    split at h
    · cases h
    · cases h
      obtain ⟨p1, p2, _, _⟩ := fourF_ok 4 i [] _ _ hi (fun n hn => by cases hn) hf
      exact ⟨p1, p2⟩
theorem hexN_snoc (l : List Int) (c : Int) : hexN (l ++ [c]) = hexN l * 16 % 1048576 + (hexV c).toNat := by
  unfold hexN
  rw [List.foldl_append]
  rfl
theorem hexV_lt (c : Int) : -1 ≤ hexV c ∧ hexV c ≤ 15 := by
  unfold hexV
  split
  · omega
  · split
    · omega
    · split <;> omega
theorem hexN_lt (l : List Int) : hexN l < 1048576 := by
  rcases List.eq_nil_or_concat l with rfl | ⟨l', c, rfl⟩
  · decide
  · rw [List.concat_eq_append, hexN_snoc]
    have := hexV_lt c
    omega
theorem band20 (n : Nat) (h : n < 1000000000) : band .i64 (n : Int) 1048575 = ((n % 1048576 : Nat) : Int) := by
  have e : (BitVec.ofInt 64 (n : Int) &&& BitVec.ofInt 64 1048575).toNat = n % 1048576 := by
    rw [BitVec.toNat_and, BitVec.toNat_ofInt, BitVec.toNat_ofInt]
    have h1 : (((n : Int) % ((2 ^ 64 : Nat) : Int)).toNat) = n := by omega
    have h2 : (((1048575 : Int) % ((2 ^ 64 : Nat) : Int)).toNat) = 2 ^ 20 - 1 := by decide
    rw [h1, h2, Nat.and_two_pow_sub_one_eq_mod]
  show IntKind.wrap .i64 (((BitVec.ofInt 64 (n : Int) &&& BitVec.ofInt 64 1048575).toNat : Nat) : Int) = _
  rw [e]
  exact wrap_i64 (by omega) (by omega)
theorem bor16 (x y : Nat) (hx : x < 1000000000) (hy : y < 16) : bor .i64 ((16 * x : Nat) : Int) (y : Int) = ((16 * x + y : Nat) : Int) := by
  have e : (BitVec.ofInt 64 ((16 * x : Nat) : Int) ||| BitVec.ofInt 64 (y : Int)).toNat = 16 * x + y := by
    rw [BitVec.toNat_or, BitVec.toNat_ofInt, BitVec.toNat_ofInt]
    have h1 : ((((16 * x : Nat) : Int) % ((2 ^ 64 : Nat) : Int)).toNat) = x <<< 4 := by
      rw [Nat.shiftLeft_eq]
      omega
    have h2 : (((y : Int) % ((2 ^ 64 : Nat) : Int)).toNat) = y := by omega
    rw [h1, h2, ← Nat.shiftLeft_add_eq_or_of_lt (by omega), Nat.shiftLeft_eq]
    omega
  show IntKind.wrap .i64 (((BitVec.ofInt 64 ((16 * x : Nat) : Int) ||| BitVec.ofInt 64 (y : Int)).toNat : Nat) : Int) = _
  rw [e]
  exact wrap_i64 (by omega) (by omega)
section
variable {W w : World} {Hs : List HP}
theorem group_wp {b : Nat} {t : ByteArray} {st : S6} (s : Ss W (SixP b t st :: Hs) w) (hg : st.gs.length ≤ 100) (ht : t.size ≤ 1000) (ha : st.at_ ≤ t.size) : WP (addr_six_group (some (pt b 0))) w (StepA W Hs b t (groupM (strI t) st)) := by
  have hl := strI_len t
  obtain ⟨r1, r2⟩ := runE_le (p := isHex) (l := strI t) (i := st.at_) (by omega)
  obtain ⟨g, sp, s⟩ := s.openX
  unfold addr_six_group
  refine WP.nilck (WP.ld s 0 rfl (o := 1) rfl (At_addr_six_at_ _) ?_)
  refine WP.loopG (γ := Nat) (fun k (p : Int × Int) w => p = ((hexN (((strI t).drop st.at_).take (k - st.at_)) : Int), (k : Int)) ∧ st.at_ ≤ k ∧ k ≤ runE isHex (strI t) st.at_ ∧ Ss W (SixHs b t g st sp ++ Hs) w) (fun k _ => t.size - k) st.at_ ⟨by simp [hexN], Nat.le_refl _, r1, s⟩ ?_
  clear s
  rintro k _ w ⟨rfl, k1, k2, s⟩
  show WP (addr_six_group.L1 (some (pt b 0)) (st.at_ : Int) (hexN (((strI t).drop st.at_).take (k - st.at_)) : Int) (k : Int)) w _
  unfold addr_six_group.L1
  have hgo := runE_go k1 k2
  rw [hl] at hgo
  refine WP.nilck (WP.ld s 0 rfl (o := 0) (by simp [Addr.add]) (At_addr_six_s _) ?_)
  refine WP.step (R := fun y w' => y = decide (k < runE isHex (strI t) st.at_) ∧ w = w') (WP.ite (fun h => WP.nilck (WP.ld s 0 rfl (o := 0) (by simp [Addr.add]) (At_addr_six_s _) (WP.chk ⟨by omega, h⟩ (WP.step (hexa_wp _) ?_)))) (fun h => WP.ret ⟨?_, rfl⟩)) ?_
  · rintro _ _ ⟨rfl, rfl⟩
    have h : (k : Int) < (t.size : Int) := h
    refine WP.ret ⟨?_, rfl⟩
    rw [sb_get, Bool.eq_iff_iff, decide_eq_true_iff, decide_eq_true_iff, ← hgo]
    exact ⟨fun h' => ⟨by omega, decide_eq_true h'⟩, fun h' => of_decide_eq_true h'.2⟩
  · have h : ¬ (k : Int) < (t.size : Int) := h
    refine (decide_eq_false fun h' => ?_).symm
    have := hgo.2 h'
    omega
  rintro _ _ ⟨rfl, rfl⟩
  refine WP.ite (fun h => ?_) (fun h => ?_)
  · have hk := of_decide_eq_true h
    have hh := hgo.2 hk
    refine WP.nilck (WP.ld s 0 rfl (o := 0) (by simp [Addr.add]) (At_addr_six_s _) (WP.chk ⟨by omega, by simp only; omega⟩ (WP.step (hexa_wp _) ?_)))
    rintro _ _ ⟨rfl, rfl⟩
    have hv := of_decide_eq_true hh.2
    have htk : ((strI t).drop st.at_).take (k + 1 - st.at_) = ((strI t).drop st.at_).take (k - st.at_) ++ [(strI t).getD k 0] := by
      rw [show k + 1 - st.at_ = (k - st.at_) + 1 by omega, List.take_add_one, List.getElem?_drop, show st.at_ + (k - st.at_) = k by omega, List.getD, List.getElem?_eq_getElem (by omega)]
      rfl
    refine WP.next ⟨k + 1, ⟨?_, by omega, by omega, s⟩, by omega⟩
    rw [htk, hexN_snoc, sb_get]
    have hN := hexN_lt (((strI t).drop st.at_).take (k - st.at_))
    have hx := hexV_lt ((strI t).getD k 0)
    generalize hexN (((strI t).drop st.at_).take (k - st.at_)) = N at hN
    generalize hexV ((strI t).getD k 0) = x at hv hx
    have e1 : IntKind.wrap .i64 ((N : Int) * 2 ^ 4) = ((N * 16 : Nat) : Int) := by
      rw [wrap_i64 (by omega) (by omega)]
      omega
    have e2 : N * 16 % 1048576 = 16 * (N % 65536) := by omega
    have e3 := bor16 (N % 65536) x.toNat (by omega) (by omega)
    rw [e1, band20 _ (by omega), e2, show x = ((x.toNat : Nat) : Int) by omega, e3, wrap_i64 (by omega) (by omega)]
    refine Prod.ext ?_ ?_
    · simp
    · simp
  have hk : k = runE isHex (strI t) st.at_ := by
    have : ¬ k < runE isHex (strI t) st.at_ := fun h' => h (decide_eq_true h')
    omega
  refine WP.step ?_ (fun r w h => WP.done h)
  unfold addr_six_group.K1 groupM
  rw [← hk]
  have hgl := (s.vec_len (i := 1) rfl).1
  rw [List.length_map] at hgl
  refine WP.ite (fun h => ?_) (fun h => ?_)
  · rw [if_pos (by omega)]
    refine WP.nilck (WP.ld s 0 rfl (o := 0) (by simp [Addr.add]) (At_addr_six_s _) (WP.step (missing_wp s t st.at_) ?_))
    rintro _ w ⟨b', rfl, s⟩
    exact WP.ret ⟨b', rfl, (s.use [1, 1] (s := [_, _]) (r := _ :: Hs) rfl).drop.drop⟩
  have hne : ¬ k = st.at_ := by omega
  rw [if_neg hne]
  refine WP.nilck (WP.ld s 0 rfl (o := 0) (by simp [Addr.add]) (At_addr_six_s _) ?_)
  refine WP.step (R := fun y w' => y = decide (k < (strI t).length ∧ (strI t).getD k 0 = 46) ∧ w = w') (WP.ite (fun h => WP.nilck (WP.ld s 0 rfl (o := 0) (by simp [Addr.add]) (At_addr_six_s _) (WP.chk ⟨by omega, h⟩ (WP.ret ⟨?_, rfl⟩)))) (fun h => WP.ret ⟨?_, rfl⟩)) ?_
  · have h : (k : Int) < (t.size : Int) := h
    rw [sb_get, Bool.eq_iff_iff, decide_eq_true_iff, beq_iff_eq]
    exact ⟨fun h' => ⟨by omega, h'⟩, fun h' => h'.2⟩
  · have h : ¬ (k : Int) < (t.size : Int) := h
    exact (decide_eq_false fun h' => by omega).symm
  rintro _ _ ⟨rfl, rfl⟩
  refine WP.step (R := fun y w' => y = decide (k < (strI t).length ∧ (strI t).getD k 0 = 46 ∧ (st.gs ≠ [] ∨ st.gap ≥ 0)) ∧ w = w') (WP.ite (fun h1 => WP.nilck (WP.ld s 0 rfl (o := 2) rfl (At_addr_six_groups _) ?_)) (fun h1 => WP.ret ⟨?_, rfl⟩)) ?_
  · have h1 := of_decide_eq_true h1
    refine WP.step (R := fun y w' => y = decide (k < (strI t).length ∧ (strI t).getD k 0 = 46 ∧ (st.gs ≠ [] ∨ st.gap ≥ 0)) ∧ w = w') (WP.ite (fun h2 => WP.ret ⟨?_, rfl⟩) (fun h2 => WP.nilck (WP.ld s 0 rfl (o := 3) rfl (At_addr_six_gap _) (WP.ret ⟨?_, rfl⟩)))) (fun r w h => WP.ret h)
    · have h2 : (g.len : Int) > 0 := h2
      refine (decide_eq_true ⟨h1.1, h1.2, .inl fun e => ?_⟩).symm
      rw [e] at hgl
      simp at hgl
      omega
    · have h2 : ¬ (g.len : Int) > 0 := h2
      have e : st.gs = [] := List.eq_nil_of_length_eq_zero (by omega)
      exact decide_eq_decide.2 ⟨fun h' => ⟨h1.1, h1.2, .inr h'⟩, fun h' => h'.2.2.resolve_left (fun h3 => h3 e)⟩
  · exact (decide_eq_false fun h' => h1 (decide_eq_true ⟨h'.1, h'.2.1⟩)).symm
  rintro _ _ ⟨rfl, rfl⟩
  have newf : ∀ {w : World} (f : Flt) (y : Bool), Ss W (SixP b t st :: Hs) w → WP (newv 48 c_addr_fault (⟨f.1, (f.2 : Int)⟩ : addr_fault) >>= fun b' => pure (y, some (pt b' 0))) w (StepA W Hs b t (.error f)) := fun f y s =>
    WP.newv s (fun b' w s => WP.ret ⟨b', rfl, (s.use [1] (s := [_]) (r := _ :: Hs) rfl).drop⟩)
  refine WP.ite (fun h => ?_) (fun h => ?_)
  · rw [if_pos (of_decide_eq_true h)]
    refine WP.step (room_wp s.closeX hg) ?_
    rintro _ w ⟨rfl, s⟩
    refine WP.ite (fun h => ?_) (fun h => ?_)
    · rw [if_pos h]
      exact newf (44, st.at_) false s
    rw [if_neg h]
    obtain ⟨g, sp, s⟩ := s.openX
    refine WP.nilck (WP.ld s 0 rfl (o := 0) (by simp [Addr.add]) (At_addr_six_s _) (WP.step (four_wp s t ht st.at_ (by omega)) ?_))
    rintro ⟨v, p⟩ w hr
    unfold FourA at hr
    cases hfm : fourM (strI t) st.at_ with
    | error f =>
      rw [hfm] at hr
      obtain ⟨b', rfl, s⟩ := hr
      have s : Ss W (pts true (pt b' 0) (flt f) :: (SixHs b t g st sp ++ Hs)) w := s
      refine WP.slot' s (fun _ w s => WP.draw' s (fun w s => WP.nilck (WP.ld s 1 rfl (o := 2) rfl (At_addr_six_groups _) (WP.slot' s (fun _ w s => WP.same s 1 rfl (o := 2) rfl (At_addr_six_groups _) ?_)))))
      refine WP.appl s 2 rfl (by simp only [List.length_map, List.length_cons, List.length_nil]; omega) (by decide) (fun g' w sp' s => WP.nilck ?_)
      refine WP.st s 1 rfl (o := 2) rfl (Up_addr_six_groups _ _) (fun w s => WP.ret ⟨b', rfl, ?_⟩)
      exact (s.use [1, 1] (s := [_, _]) (r := _ :: Hs) rfl).drop.drop
    | ok a =>
      rw [hfm] at hr
      obtain ⟨hv, rfl, s⟩ := hr
      obtain ⟨a4, a5⟩ := fourM_ok (by omega) hfm
      obtain ⟨n1, n2, n3, n4, rfl⟩ : ∃ n1 n2 n3 n4, a = [n1, n2, n3, n4] := by
        match a, a4 with
        | [n1, n2, n3, n4], _ => exact ⟨n1, n2, n3, n4, rfl⟩
      have b1 := a5 n1 (by simp)
      have b2 := a5 n2 (by simp)
      have b3 := a5 n3 (by simp)
      have b4 := a5 n4 (by simp)
      have g0 : Vec.g v 0 0 = (n1 : Int) := by show v.l.getD 0 0 = _; rw [hv]; rfl
      have g1 : Vec.g v 1 0 = (n2 : Int) := by show v.l.getD 1 0 = _; rw [hv]; rfl
      have g2 : Vec.g v 2 0 = (n3 : Int) := by show v.l.getD 2 0 = _; rw [hv]; rfl
      have g3 : Vec.g v 3 0 = (n4 : Int) := by show v.l.getD 3 0 = _; rw [hv]; rfl
      simp only
      rw [g0, g1, g2, g3, bor_byte n1 n2 (by omega) (by omega), bor_byte n3 n4 (by omega) (by omega)]
      refine WP.slot' s (fun _ w s => WP.draw' s (fun w s => WP.nilck (WP.ld s 0 rfl (o := 2) rfl (At_addr_six_groups _) (WP.slot' s (fun _ w s => WP.same s 0 rfl (o := 2) rfl (At_addr_six_groups _) ?_)))))
      refine WP.appl s 1 rfl (by simp only [List.length_map, List.length_cons, List.length_nil]; omega) (by decide) (fun g' w sp' s => WP.nilck ?_)
      refine WP.st s 0 rfl (o := 2) rfl (Up_addr_six_groups _ _) (fun w s => WP.ret ⟨rfl, ?_⟩)
      refine Ss.closeX (g := g') (sp := sp') ?_
      unfold SixHs
      rw [List.map_append]
      exact s
  · rw [if_neg (fun h' => h (decide_eq_true h'))]
    refine WP.step (room_wp s.closeX hg) ?_
    rintro _ w ⟨rfl, s⟩
    refine WP.ite (fun h => ?_) (fun h => ?_)
    · rw [if_pos h]
      exact newf (44, st.at_) false s
    rw [if_neg h]
    have ew : IntKind.wrap .i64 ((k : Int) - (st.at_ : Int)) = ((k - st.at_ : Nat) : Int) := by
      rw [wrap_i64 (by omega) (by omega)]
      omega
    rw [ew]
    refine WP.ite (fun h => ?_) (fun h => ?_)
    · rw [if_pos (by omega)]
      exact newf (43, st.at_) false s
    rw [if_neg (by omega)]
    obtain ⟨g, sp, s⟩ := s.openX
    refine WP.nilck (WP.ld s 0 rfl (o := 2) rfl (At_addr_six_groups _) (WP.slot' s (fun _ w s => ?_)))
    refine WP.appl s 1 rfl (by simp only [List.length_map, List.length_cons, List.length_nil]; omega) (by decide) (fun g' w sp' s => WP.nilck ?_)
    refine WP.st s 0 rfl (o := 2) rfl (Up_addr_six_groups _ _) (fun w s => WP.nilck ?_)
    refine WP.st s 0 rfl (o := 1) rfl (Up_addr_six_at_ _ _) (fun w s => WP.ret ⟨rfl, ?_⟩)
    refine Ss.closeX (g := g') (sp := sp') ?_
    unfold SixHs
    rw [List.map_append]
    exact s
end
end Go.Proofs.YtddmmgcfanpmmaaGreatDoor.Lx
