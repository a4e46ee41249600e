/- The laws' own writing of groups and of four numbers (weirlaw4: three, dots, written). -/
import Derived.Test.YtddmmgcfanpmmaaDoorAddrLawBack
set_option linter.unusedVariables false
set_option linter.unusedSimpArgs false
namespace Go.Proofs.YtddmmgcfanpmmaaDoor.Lx
open Go Go.Proofs Go.RowKit
theorem three_tab : ∀ c : _root_.Fin 256, (if (c.val : Int) > 99 then [IntKind.wrap .u8 (48 + (IntKind.wrap .u8 (Int.tdiv (c.val : Int) 100))), IntKind.wrap .u8 (48 + (Int.tmod (IntKind.wrap .u8 (Int.tdiv (c.val : Int) 10)) 10)), IntKind.wrap .u8 (48 + (Int.tmod (c.val : Int) 10))] else if (c.val : Int) > 9 then [IntKind.wrap .u8 (48 + (IntKind.wrap .u8 (Int.tdiv (c.val : Int) 10))), IntKind.wrap .u8 (48 + (Int.tmod (c.val : Int) 10))] else [IntKind.wrap .u8 (48 + (c.val : Int))]) = dec3 c.val := by decide +kernel
theorem hexN_zero (r : List Int) : hexN (48 :: r) = hexN r := by
  unfold hexN
  rw [List.foldl_cons]
  rfl
theorem digs16 : ∀ k : _root_.Fin 16, (hexV (sb str0 (k.val : Int)) = (k.val : Int) ∧ 0 ≤ sb str0 (k.val : Int)) ∧ (hexV (sb str1 (k.val : Int)) = (k.val : Int) ∧ 0 ≤ sb str1 (k.val : Int)) := by decide +kernel
theorem nib_div : ∀ c : _root_.Fin 256, IntKind.wrap .u8 (Int.tdiv (c.val : Int) 16) = ((c.val / 16 : Nat) : Int) ∧ Int.tmod (c.val : Int) 16 = ((c.val % 16 : Nat) : Int) := by decide +kernel
theorem hexN4 {a b c d : Int} {w x y z : Nat} (ha : hexV a = (w : Int)) (hb : hexV b = (x : Int)) (hc : hexV c = (y : Int)) (hd : hexV d = (z : Int)) (h1 : w < 16) (h2 : x < 16) (h3 : y < 16) (h4 : z < 16) : hexN [a, b, c, d] = 256 * (16 * w + x) + (16 * y + z) := by
  unfold hexN
  simp only [List.foldl_cons, List.foldl_nil, ha, hb, hc, hd, Int.toNat_natCast]
  omega
section
variable {W w : World} {Hs : List HP}
theorem three_wp (s : Ss W Hs w) (c : Int) (h : 0 ≤ c ∧ c ≤ 255) : WP (weirlaw4_three c) w (fun r w' => r = bstr (dec3 c.toNat) ∧ Ss W Hs w') := by
  have tab := three_tab ⟨c.toNat, by omega⟩
  simp only [show ((c.toNat : Nat) : Int) = c by omega] at tab
  unfold weirlaw4_three
  refine WP.ite (fun h1 => WP.newv s (fun b w s => WP.toStr s 0 rfl (Holds.rdb (xs := [IntKind.wrap .u8 (48 + (IntKind.wrap .u8 (Int.tdiv c 100))), IntKind.wrap .u8 (48 + (Int.tmod (IntKind.wrap .u8 (Int.tdiv c 10)) 10)), IntKind.wrap .u8 (48 + (Int.tmod c 10))]) Holds.pts) (WP.ret ⟨?_, s.drop⟩))) (fun h1 => ?_)
  · rw [if_pos h1] at tab
    rw [tab]
  rw [if_neg h1] at tab
  refine WP.ite (fun h2 => WP.newv s (fun b w s => WP.toStr s 0 rfl (Holds.rdb (xs := [IntKind.wrap .u8 (48 + (IntKind.wrap .u8 (Int.tdiv c 10))), IntKind.wrap .u8 (48 + (Int.tmod c 10))]) Holds.pts) (WP.ret ⟨?_, s.drop⟩))) (fun h2 => WP.newv s (fun b w s => WP.toStr s 0 rfl (Holds.rdb (xs := [IntKind.wrap .u8 (48 + c)]) Holds.pts) (WP.ret ⟨?_, s.drop⟩)))
  · rw [if_pos h2] at tab
    rw [tab]
  · rw [if_neg h2] at tab
    rw [tab]
def tl4 (a : List Int) : List Int := dec3 (a.getD 12 0).toNat ++ dots [(a.getD 13 0).toNat, (a.getD 14 0).toNat, (a.getD 15 0).toNat]
theorem dots_wp (s : Ss W Hs w) (a : Vec Int 16) (hb : Byt a.l) : WP (weirlaw4_dots a 12) w (fun r w' => r = bstr (tl4 a.l) ∧ Ss W Hs w') := by
  have hdot : str2 = bstr [46] := by decide +kernel
  have hg : ∀ i, 0 ≤ Vec.g a (i : Int) 0 ∧ Vec.g a (i : Int) 0 ≤ 255 := fun i => getD_byt hb _
  have hl : ∀ i, (dec3 (Vec.g a i 0).toNat).length ≤ 3 := fun i => dec3_le (by have := getD_byt hb i.toNat; show (a.l.getD i.toNat 0).toNat < 1000; omega)
  have l12 := hl 12
  have l13 := hl 13
  have l14 := hl 14
  have l15 := hl 15
  have l1 : (bstr [46]).size = 1 := bstr_size _
  unfold weirlaw4_dots
  simp only [show IntKind.wrap .i64 ((12 : Int) + 1) = 13 by decide, show IntKind.wrap .i64 ((12 : Int) + 2) = 14 by decide, show IntKind.wrap .i64 ((12 : Int) + 3) = 15 by decide]
  rw [hdot]
  refine WP.slot' s (fun _ w s => WP.draw' s (fun w s => WP.chk (by decide) (WP.chk (by decide) (WP.chk (by decide) (WP.chk (by decide) (WP.step (three_wp s _ (hg 12)) ?_))))))
  rintro _ w ⟨rfl, s⟩
  refine WP.chk (by simp only [catb, bstr_size, List.length_append, List.length_cons, List.length_nil]; omega) (WP.step (three_wp s _ (hg 13)) ?_)
  rintro _ w ⟨rfl, s⟩
  refine WP.chk (by simp only [catb, bstr_size, List.length_append, List.length_cons, List.length_nil]; omega) (WP.chk (by simp only [catb, bstr_size, List.length_append, List.length_cons, List.length_nil]; omega) (WP.step (three_wp s _ (hg 14)) ?_))
  rintro _ w ⟨rfl, s⟩
  refine WP.chk (by simp only [catb, bstr_size, List.length_append, List.length_cons, List.length_nil]; omega) (WP.chk (by simp only [catb, bstr_size, List.length_append, List.length_cons, List.length_nil]; omega) (WP.step (three_wp s _ (hg 15)) ?_))
  rintro _ w ⟨rfl, s⟩
  refine WP.chk (by simp only [catb, bstr_size, List.length_append, List.length_cons, List.length_nil]; omega) (WP.ret ⟨?_, s⟩)
  simp only [catb]
  congr 1
  simp only [tl4, dots, List.flatMap_cons, List.flatMap_nil, List.append_assoc, List.cons_append, List.nil_append, List.append_nil]
  rfl
theorem written_K1 (s : Ss W Hs w) {hi lo way : Int} (h1 : 0 ≤ hi ∧ hi ≤ 255) (h2 : 0 ≤ lo ∧ lo ≤ 255) (t : ByteArray) (ht : t.size = 16) (hd : ∀ k : Nat, k < 16 → hexV (sb t (k : Int)) = (k : Int)) : WP (weirlaw4_written.K1 hi lo way t) w (fun r w' => (∃ m, Grp m (256 * hi.toNat + lo.toNat) ∧ r = bstr m) ∧ Ss W Hs w') := by
  have t1 := nib_div ⟨hi.toNat, by omega⟩
  have t2 := nib_div ⟨lo.toNat, by omega⟩
  simp only [show ((hi.toNat : Nat) : Int) = hi by omega] at t1
  simp only [show ((lo.toNat : Nat) : Int) = lo by omega] at t2
  unfold weirlaw4_written.K1
  rw [t1.1, t1.2, t2.1, t2.2, ht]
  refine WP.draw' s (fun w s => WP.chk ⟨by omega, by omega⟩ (WP.chk ⟨by omega, by omega⟩ (WP.chk ⟨by omega, by omega⟩ (WP.chk ⟨by omega, by omega⟩ (WP.newv s (fun b w s => WP.toStr s 0 rfl (Holds.rdb (xs := [sb t ((hi.toNat / 16 : Nat) : Int), sb t ((hi.toNat % 16 : Nat) : Int), sb t ((lo.toNat / 16 : Nat) : Int), sb t ((lo.toNat % 16 : Nat) : Int)]) Holds.pts) ?_))))))
  have s := s.drop
  have e1 := hd (hi.toNat / 16) (by omega)
  have e2 := hd (hi.toNat % 16) (by omega)
  have e3 := hd (lo.toNat / 16) (by omega)
  have e4 := hd (lo.toNat % 16) (by omega)
  have hx : ∀ {c : Int} {k : Nat}, hexV c = (k : Int) → isHex c = true := fun h => decide_eq_true (by rw [h]; omega)
  have g0 : Grp [sb t ((hi.toNat / 16 : Nat) : Int), sb t ((hi.toNat % 16 : Nat) : Int), sb t ((lo.toNat / 16 : Nat) : Int), sb t ((lo.toNat % 16 : Nat) : Int)] (256 * hi.toNat + lo.toNat) := by
    refine ⟨fun c hc => ?_, by simp, by simp, ?_⟩
    · simp only [List.mem_cons, List.not_mem_nil, or_false] at hc
      rcases hc with rfl | rfl | rfl | rfl
      · exact hx e1
      · exact hx e2
      · exact hx e3
      · exact hx e4
    · rw [hexN4 e1 e2 e3 e4 (by omega) (by omega) (by omega) (by omega)]
      omega
  refine WP.loopG (γ := List Int) (fun m (x : ByteArray) w => Grp m (256 * hi.toNat + lo.toNat) ∧ x = bstr m ∧ Ss W Hs w) (fun m _ => m.length) _ ⟨g0, rfl, s⟩ ?_
  clear s g0
  rintro m _ w ⟨g, rfl, s⟩
  show WP (weirlaw4_written.L1 way (bstr m)) w _
  unfold weirlaw4_written.L1
  have hby : Byt m := fun c hc => isHex_byt (g.x c hc)
  have hp := g.p
  refine WP.step (R := fun y w' => (y = true → 1 < m.length) ∧ w = w') (WP.ite (fun _ => WP.ret ⟨fun h => ?_, rfl⟩) (fun _ => WP.ret ⟨fun h => (by cases h), rfl⟩)) ?_
  · have := of_decide_eq_true h
    rw [bstr_size] at this
    omega
  rintro y _ ⟨hy, rfl⟩
  refine WP.step (R := fun z w' => (z = true → 1 < m.length ∧ m.getD 0 0 = 48) ∧ w = w') (WP.ite (fun h => WP.chk ⟨by omega, by rw [bstr_size]; omega⟩ (WP.ret ⟨fun h' => ⟨hy h, ?_⟩, rfl⟩)) (fun _ => WP.ret ⟨fun h => (by cases h), rfl⟩)) ?_
  · have := beq_iff_eq.1 h'
    rw [show (0 : Int) = ((0 : Nat) : Int) from rfl, sb_get, strI_bstr hby] at this
    exact this
  rintro z _ ⟨hz, rfl⟩
  refine WP.ite (fun h => ?_) (fun _ => ?_)
  · obtain ⟨z1, z2⟩ := hz h
    refine WP.chk ⟨by omega, by rw [bstr_size]; omega, by omega⟩ (WP.next ?_)
    match m, g, z1, z2 with
    | c :: r, g, z1, z2 =>
      have z2 : c = 48 := z2
      subst z2
      refine ⟨r, ⟨⟨fun c hc => g.x c (List.mem_cons_of_mem _ hc), by simpa using z1, by have := g.q; simp only [List.length_cons] at this; omega, by rw [← g.v, hexN_zero]⟩, ?_, s⟩, by simp⟩
      rw [← bstr_strI (ByteArray.extract _ _ _), strI_extract, strI_bstr hby]
      simp only [bstr_size, List.length_cons]
      congr 1
      simp [Int.toNat]
  · exact WP.done ⟨⟨m, g, rfl⟩, s⟩
theorem written_wp (s : Ss W Hs w) {hi lo : Int} (way : Int) (h1 : 0 ≤ hi ∧ hi ≤ 255) (h2 : 0 ≤ lo ∧ lo ≤ 255) : WP (weirlaw4_written hi lo way) w (fun r w' => (∃ m, Grp m (256 * hi.toNat + lo.toNat) ∧ r = bstr m) ∧ Ss W Hs w') := by
  unfold weirlaw4_written
  refine WP.ite (fun _ => written_K1 s h1 h2 _ (by decide +kernel) (fun k hk => (digs16 ⟨k, hk⟩).2.1)) (fun _ => written_K1 s h1 h2 _ (by decide +kernel) (fun k hk => (digs16 ⟨k, hk⟩).1.1))
end
end Go.Proofs.YtddmmgcfanpmmaaDoor.Lx
