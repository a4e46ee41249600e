/- The law NeighItems, of its program in the M-world: each item that waits is told just once, in order, or waits still: it answers true, and nothing that was there is turned. -/
import Derived.Test.YtlkhijflgbobjaaNeighWait
import Derived.Test.YtlkhijflgbobjaaLxQ
set_option linter.unusedVariables false
set_option linter.unusedSimpArgs false
namespace Go.Proofs.Ytlkhijflgbobjaa.Lx
open Go Go.Proofs Go.RowKit

section
variable {W w : World} {R Hs : List HP} {p : Option Addr} {m : NM}
/-- a row's items, its own -/
def itsH (x : IRow) : HP := fun h => ∃ sp, vec (cI .i64) x.1.Items x.2 sp h
theorem itsH_rdb {z : List IRow} {i : Nat} {x : IRow} (hx : z[i]? = some x) : Rdb (seps (z.map itsH)) (cI .i64) x.1.Items x.2 := by
  intro h hh
  obtain ⟨h1, ⟨sp, a1⟩, l1⟩ := seps_nth hh (nth_map (f := itsH) hx)
  obtain ⟨r1, r2, r3⟩ := vec_rdb (c := cI .i64) h1 a1
  exact ⟨r1, r2, fun j y a hy ha => by
    obtain ⟨sp', hp⟩ := r3 j y a hy ha
    exact ⟨sp', fun q v hv => (hp q v hv).imp fun _ hq => l1 _ _ _ hq⟩⟩
theorem itsH_len {z : List IRow} {i j : Nat} {x : IRow} (s : Ss W Hs w) (e : nth Hs j = some (seps (z.map itsH))) (hx : z[i]? = some x) : x.1.Items.len = x.2.length := by
  obtain ⟨h, hh⟩ := s.has e
  exact (itsH_rdb hx h hh).1
theorem vec_part {α γ : Type} {c : Cod α} {d : Cod γ} {sl : Sl} {l sp : List α} {a : Addr} {x : α} {y : γ} {k o : Nat} (ha : sl.a = some a) (hx : l[k]? = some x) (h : At (c.enc x) o (d.enc y)) : Holds (vec c sl l sp) (a.add (k * c.n + o)) (d.enc y) := by
  obtain ⟨sa, n, cp⟩ := sl
  simp only at ha
  subst ha
  exact vec_holds.at_ ((at_r (by rw [List.getElem?_append_left (List.getElem?_eq_some_iff.1 hx).1]; exact hx)).trans h)
/-- a row's items taken out, and put back with the row turned -/
theorem Ss.itsOut {z : List IRow} {i j : Nat} {x : IRow} (s : Ss W Hs w) (e : nth Hs j = some (seps (z.map itsH))) (hx : z[i]? = some x) : ∃ sp, Ss W (vec (cI .i64) x.1.Items x.2 sp :: up Hs j (seps ((z.eraseIdx i).map itsH))) w := by
  have s1 := s.out j e (nth_map (f := itsH) hx)
  rw [wo_map] at s1
  obtain ⟨hb, k, ⟨h1, h2, e', l1, l2, ⟨sp, a⟩, b⟩, hw⟩ := s1
  exact ⟨sp, hb, k, ⟨h1, h2, e', l1, l2, a, b⟩, hw⟩
theorem Ss.itsIn {z : List IRow} {i j : Nat} {x y : IRow} {sp : List Int} (s : Ss W (vec (cI .i64) y.1.Items y.2 sp :: Hs) w) (e : nth Hs j = some (seps ((z.eraseIdx i).map itsH))) (hx : z[i]? = some x) : Ss W (up Hs j (seps ((z.set i y).map itsH))) w := by
  have s1 := s.first (B := itsH y) (fun h hv => ⟨sp, hv⟩)
  exact s1.into j e (M := (z.set i y).map itsH) (by
    show ((y :: z.eraseIdx i).map itsH).Perm _
    exact (erase_set_perm hx).map itsH)
theorem sum_cut {l : List Nat} (i : Nat) : (l.take i).sum ≤ l.sum := by
  conv => rhs; rw [← List.take_append_drop i l, List.sum_append]
  omega
theorem wait_wp {sl : Sl} {z : List IRow} {sp : List weirlaw15_Row} {j k : Nat} (s : Ss W Hs w) (e : nth Hs j = some (vec cRow sl (z.map (·.1)) sp)) (e2 : nth Hs k = some (seps (z.map itsH))) (hb : (z.map fun x => x.2.length).sum ≤ 1000000) (hn : z.length ≤ 3000000) : WP (weirlaw15_waiting sl) w (fun r w' => r = (((z.map fun x => x.2.length).sum : Nat) : Int) ∧ Ss W Hs w') := by
  unfold weirlaw15_waiting
  have hl := (s.vec_len e).1
  rw [List.length_map] at hl
  refine WP.loopG (γ := Nat) (fun i (x : Int × Int) w => x = (((((z.map fun x => x.2.length).take i).sum : Nat) : Int), (i : Int)) ∧ i ≤ z.length ∧ Ss W Hs w) (fun i _ => z.length - i) 0 ⟨rfl, Nat.zero_le _, s⟩ ?_
  clear s
  rintro i _ w ⟨rfl, hi, s⟩
  show WP (weirlaw15_waiting.L1 sl _ (i : Int)) w _
  unfold weirlaw15_waiting.L1
  refine WP.ite (fun h => ?_) (fun h => WP.done ?_)
  · have hi2 : i < z.length := by omega
    have hx := List.getElem?_eq_getElem hi2
    generalize z[i] = x at hx
    have hx1 : (z.map (·.1))[i]? = some x.1 := by rw [List.getElem?_map, hx]; rfl
    refine WP.rdxp s j e vec_rdb (by omega) (x := x.1) (by rw [Int.toNat_natCast]; exact hx1) rfl (At_weirlaw15_Row_Items _) (WP.next ?_)
    have hil := itsH_len s e2 hx
    have hs2 : ((z.map fun x => x.2.length).take (i + 1)).sum = ((z.map fun x => x.2.length).take i).sum + x.2.length := by
      rw [List.take_add_one, List.getElem?_map, hx, List.sum_append]
      simp
    have h1 := sum_cut (l := z.map fun x => x.2.length) (i + 1)
    refine ⟨i + 1, ⟨?_, by omega, s⟩, by omega⟩
    rw [hs2] at h1 ⊢
    rw [hil, wrap_i64 (by omega) (by omega), wrap_i64 (by omega) (by omega)]
    simp
  · obtain rfl : i = z.length := by omega
    rw [List.take_of_length_le (by rw [List.length_map]; omega)]
    exact ⟨rfl, s⟩
theorem lost_wp {sl ll : Sl} {z : List IRow} {sp : List weirlaw15_Row} {m' : NM} {los spl : List Int} (hlos : los = z.flatMap (gone m')) (hlb : los.length ≤ 65536) (hn : z.length ≤ 3000000)
    (s : Ss W (Cache p m' :: vec cRow sl (z.map (·.1)) sp :: seps (z.map itsH) :: vec (cI .i64) ll los spl :: R) w) :
    WP (weirlaw15_lost p sl ll) w (fun r w' => r = true ∧ Ss W (Cache p m' :: vec cRow sl ((z.map (rowG m')).map (·.1)) sp :: seps ((z.map (rowG m')).map itsH) :: vec (cI .i64) ll los spl :: R) w') := by
  unfold weirlaw15_lost
  have hl := (s.vec_len (i := 1) rfl).1
  rw [List.length_map] at hl
  have hll := (s.vec_len (i := 3) rfl).1
  refine WP.loopG (γ := Nat) (fun i (x : Int × Int) w => x = ((((z.take i).flatMap (gone m')).length : Int), (i : Int)) ∧ i ≤ z.length ∧ Ss W (Cache p m' :: vec cRow sl (((z.take i).map (rowG m') ++ z.drop i).map (·.1)) sp :: seps (((z.take i).map (rowG m') ++ z.drop i).map itsH) :: vec (cI .i64) ll los spl :: R) w) (fun i _ => z.length - i) 0 ⟨rfl, Nat.zero_le _, s⟩ ?_
  clear s
  rintro i _ w ⟨rfl, hi, s⟩
  show WP (weirlaw15_lost.L1 p sl ll _ (i : Int)) w _
  unfold weirlaw15_lost.L1
  refine WP.ite (fun h => ?_) (fun h => WP.done ?_)
  · have hi2 : i < z.length := by omega
    have hx := List.getElem?_eq_getElem hi2
    have hdrop : z.drop i = z[i] :: z.drop (i + 1) := List.drop_eq_getElem_cons hi2
    generalize z[i] = x at hx hdrop
    have hplen : ((z.take i).map (rowG m')).length = i := by rw [List.length_map, List.length_take]; omega
    have hlosl : los.length = ((z.take i).flatMap (gone m')).length + (gone m' x).length + ((z.drop (i + 1)).flatMap (gone m')).length := by
      rw [hlos]
      conv => lhs; rw [← List.take_append_drop i z, hdrop, List.flatMap_append, List.flatMap_cons, List.length_append, List.length_append]
      omega
    have hlosat : ∀ q, q < (gone m' x).length → los[((z.take i).flatMap (gone m')).length + q]? = (gone m' x)[q]? := by
      intro q hq
      rw [hlos]
      conv => lhs; lhs; rw [← List.take_append_drop i z, hdrop, List.flatMap_append, List.flatMap_cons]
      rw [List.getElem?_append_right (by omega), Nat.add_sub_cancel_left, List.getElem?_append_left hq]
    have hfl := flm_succ (g := gone m') hx
    have hst : (z.take (i + 1)).map (rowG m') ++ z.drop (i + 1) = (z.take i).map (rowG m') ++ rowG m' x :: z.drop (i + 1) := by
      rw [List.take_add_one, hx, List.map_append, List.append_assoc]
      rfl
    have hnx : ∀ {k : Int} {w : World}, k = (((z.take i).flatMap (gone m')).length : Int) + ((gone m' x).length : Int) → Ss W (Cache p m' :: vec cRow sl (((z.take i).map (rowG m') ++ rowG m' x :: z.drop (i + 1)).map (·.1)) sp :: seps (((z.take i).map (rowG m') ++ rowG m' x :: z.drop (i + 1)).map itsH) :: vec (cI .i64) ll los spl :: R) w →
        WP.Rd (fun x' w' => ∃ i' : Nat, (x' = ((((z.take i').flatMap (gone m')).length : Int), (i' : Int)) ∧ i' ≤ z.length ∧ Ss W (Cache p m' :: vec cRow sl (((z.take i').map (rowG m') ++ z.drop i').map (·.1)) sp :: seps (((z.take i').map (rowG m') ++ z.drop i').map itsH) :: vec (cI .i64) ll los spl :: R) w') ∧ z.length - i' < z.length - i) (fun r w' => r = true ∧ Ss W (Cache p m' :: vec cRow sl ((z.map (rowG m')).map (·.1)) sp :: seps ((z.map (rowG m')).map itsH) :: vec (cI .i64) ll los spl :: R) w') (LS.next (k, IntKind.wrap .i64 ((i : Int) + 1)) : LS (Int × Int) Bool) w := by
      rintro k w rfl s
      refine ⟨i + 1, ⟨?_, by omega, by rw [hst]; exact s⟩, by omega⟩
      rw [hfl, List.length_append, wrap_i64 (by omega) (by omega)]
      simp
    rw [hdrop] at s
    clear hst hfl
    generalize (z.take i).map (rowG m') = pre at s hplen hnx
    generalize z.drop (i + 1) = rest at s hnx hlosl
    generalize hN : ((z.take i).flatMap (gone m')).length = N at hlosl hlosat hnx
    have hzr : (pre ++ x :: rest)[i]? = some x := by rw [← hplen]; simp
    have hxr : ((pre ++ x :: rest).map (·.1))[((i : Int)).toNat]? = some x.1 := by
      rw [Int.toNat_natCast, List.getElem?_map, hzr]
      rfl
    have hset : ∀ y : IRow, (pre ++ x :: rest).set i y = pre ++ y :: rest := by
      intro y
      rw [← hplen]
      simp
    have k1 : ∀ w, Ss W (Cache p m' :: vec cRow sl ((pre ++ x :: rest).map (·.1)) sp :: seps ((pre ++ x :: rest).map itsH) :: vec (cI .i64) ll los spl :: R) w → WP (weirlaw15_lost.K1 sl ll (N : Int) (i : Int) (m'.get x.1.Port x.1.IP).2) w (WP.Rd (fun x' w' => ∃ i' : Nat, (x' = ((((z.take i').flatMap (gone m')).length : Int), (i' : Int)) ∧ i' ≤ z.length ∧ Ss W (Cache p m' :: vec cRow sl (((z.take i').map (rowG m') ++ z.drop i').map (·.1)) sp :: seps (((z.take i').map (rowG m') ++ z.drop i').map itsH) :: vec (cI .i64) ll los spl :: R) w') ∧ z.length - i' < z.length - i) (fun r w' => r = true ∧ Ss W (Cache p m' :: vec cRow sl ((z.map (rowG m')).map (·.1)) sp :: seps ((z.map (rowG m')).map itsH) :: vec (cI .i64) ll los spl :: R) w')) := by
      clear s
      intro w s
      unfold weirlaw15_lost.K1
      have hil := itsH_len s (j := 2) rfl hzr
      refine WP.step (R := fun y w' => (y = true ↔ ((m'.get x.1.Port x.1.IP).2 = true ∨ x.2 = [])) ∧ w = w') (WP.ite (fun h => WP.ret ⟨⟨fun _ => .inl h, fun _ => rfl⟩, rfl⟩) (fun h => ?_)) ?_
      · refine WP.rdxp s 1 rfl vec_rdb (by omega) (x := x.1) hxr rfl (At_weirlaw15_Row_Items _) (WP.ret ⟨?_, rfl⟩)
        rw [hil, beq_iff_eq]
        constructor
        · intro h'
          exact .inr (List.length_eq_zero_iff.1 (by omega))
        · intro h'
          rw [h'.resolve_left h]
          rfl
      rintro y _ ⟨hy, rfl⟩
      refine WP.ite (fun hh => ?_) (fun hh => ?_)
      · have hc : ¬ (x.2 ≠ [] ∧ (m'.get x.1.Port x.1.IP).2 = false) := by
          rintro ⟨h1, h2⟩
          rcases hy.1 hh with h | h
          · rw [h2] at h; cases h
          · exact h1 h
        have e1 : gone m' x = [] := by unfold gone; rw [if_neg hc]
        have e2 : rowG m' x = x := by unfold rowG; rw [if_neg hc]
        refine WP.ret (hnx ?_ ?_)
        · rw [e1]; simp
        · rw [e2]; exact s
      · have hc : x.2 ≠ [] ∧ (m'.get x.1.Port x.1.IP).2 = false := by
          have h := fun h => hh (hy.2 h)
          refine ⟨fun h' => h (.inr h'), ?_⟩
          cases hg : (m'.get x.1.Port x.1.IP).2 with
          | false => rfl
          | true => exact absurd (.inl hg) h
        have e1 : gone m' x = x.2 := by unfold gone; rw [if_pos hc]
        have e2 : rowG m' x = (⟨x.1.Port, x.1.IP, Sl.nil, x.1.Last, x.1.Count⟩, []) := by unfold rowG; rw [if_pos hc]
        rw [e1] at hlosl hlosat
        refine WP.loopG (γ := Nat) (fun q (v : Int × Int) w => v = ((N : Int) + (q : Int), (q : Int)) ∧ q ≤ x.2.length ∧ Ss W (Cache p m' :: vec cRow sl ((pre ++ x :: rest).map (·.1)) sp :: seps ((pre ++ x :: rest).map itsH) :: vec (cI .i64) ll los spl :: R) w) (fun q _ => x.2.length - q) 0 ⟨by simp, Nat.zero_le _, s⟩ ?_
        clear s
        rintro q _ w ⟨rfl, hq, s⟩
        show WP (weirlaw15_lost.L2 sl ll (i : Int) ((N : Int) + (q : Int)) (q : Int)) w _
        unfold weirlaw15_lost.L2
        refine WP.rdxp s 1 rfl vec_rdb (by omega) (x := x.1) hxr rfl (At_weirlaw15_Row_Items _) ?_
        rw [hil]
        refine WP.ite (fun hlt => ?_) (fun hge => ?_)
        · have hq2 : q < x.2.length := by omega
          have hxq := List.getElem?_eq_getElem hq2
          generalize x.2[q] = u at hxq
          have hla := hlosat q hq2
          rw [hxq] at hla
          refine WP.draw' s (fun w s => ?_)
          refine WP.step (R := fun y w' => y = false ∧ w = w') (WP.ite (fun h => absurd h (by omega)) (fun _ => ?_)) ?_
          · refine WP.rdx s 3 rfl vec_rdb (by omega) (x := u) (by rw [show ((N : Int) + (q : Int)).toNat = N + q by omega]; exact hla) rfl ?_
            refine WP.rdxp s 1 rfl vec_rdb (by omega) (x := x.1) hxr rfl (At_weirlaw15_Row_Items _) ?_
            refine WP.rdx s 2 rfl (itsH_rdb hzr) (by omega) (x := u) (by rw [Int.toNat_natCast]; exact hxq) rfl (WP.ret ⟨by simp, rfl⟩)
          rintro _ _ ⟨rfl, rfl⟩
          refine WP.ite (fun h => by cases h) (fun _ => WP.next ⟨q + 1, ⟨?_, by omega, s⟩, by omega⟩)
          rw [wrap_i64 (by omega) (by omega), wrap_i64 (by omega) (by omega)]
          simp [Int.add_assoc]
        · obtain rfl : q = x.2.length := by omega
          obtain ⟨spi, s⟩ := s.itsOut (j := 2) rfl hzr
          refine WP.stxp s 2 rfl (by omega) hxr rfl (Up_weirlaw15_Row_Items x.1 Sl.nil) (fun w s => WP.done ?_)
          rw [Int.toNat_natCast] at s
          have s := (s.drop).mk0 (A := vec (cI .i64) Sl.nil [] []) vec_nil
          have s := Ss.itsIn (y := (⟨x.1.Port, x.1.IP, Sl.nil, x.1.Last, x.1.Count⟩, [])) (j := 2) s rfl hzr
          refine hnx (by rw [e1]) ?_
          rw [e2, ← hset, List.map_set]
          exact s
    refine WP.draws s (fun σ w s => WP.ite (fun _ => ?_) (fun _ => ?_))
    · refine WP.idxr s 1 rfl vec_rdb (by omega) (x := x.1) hxr rfl (fun a ha => ?_)
      rw [Int.toNat_natCast] at hxr ⊢
      refine WP.ldh s 1 rfl (vec_part ha hxr (At_weirlaw15_Row_Port _)) (by rfl) (WP.idxr s 1 rfl vec_rdb (k := (i : Int)) (by omega) (x := x.1) (by rw [Int.toNat_natCast]; exact hxr) rfl (fun a' ha' => ?_))
      rw [ha] at ha'
      cases ha'
      rw [Int.toNat_natCast]
      refine WP.ldh s 1 rfl (vec_part ha hxr (At_weirlaw15_Row_IP _)) (by rw [add_add]) (WP.step (Get_wp s _ _) ?_)
      rintro g w ⟨rfl, s⟩
      refine WP.slot' s (fun _ w s => WP.sameh s 1 rfl (vec_part ha hxr (At_weirlaw15_Row_IP _)) (by rw [add_add]) (WP.sameh s 1 rfl (vec_part ha hxr (At_weirlaw15_Row_Port _)) (by rfl) ?_))
      rw [← Int.toNat_natCast i] at hxr
      exact k1 w s
    · refine WP.idxr s 1 rfl vec_rdb (by omega) (x := x.1) hxr rfl (fun a ha => ?_)
      rw [Int.toNat_natCast] at hxr ⊢
      refine WP.ldh s 1 rfl (vec_part ha hxr (At_weirlaw15_Row_Port _)) (by rfl) (WP.idxr s 1 rfl vec_rdb (k := (i : Int)) (by omega) (x := x.1) (by rw [Int.toNat_natCast]; exact hxr) rfl (fun a' ha' => ?_))
      rw [ha] at ha'
      cases ha'
      rw [Int.toNat_natCast]
      refine WP.ldh s 1 rfl (vec_part ha hxr (At_weirlaw15_Row_IP _)) (by rw [add_add]) (WP.slot' s (fun _ w s => WP.sameh s 1 rfl (vec_part ha hxr (At_weirlaw15_Row_IP _)) (by rw [add_add]) (WP.sameh s 1 rfl (vec_part ha hxr (At_weirlaw15_Row_Port _)) (by rfl) (WP.step (Get_wp s _ _) ?_))))
      rintro g w ⟨rfl, s⟩
      exact k1 w s
  · obtain rfl : i = z.length := by omega
    rw [List.take_length] at s ⊢
    rw [List.drop_length, List.append_nil] at s
    refine ⟨?_, s⟩
    rw [← hlos, hll]
    simp
end
theorem NeighItems_true : ∀ (W : World) (u0 : api_NeighConfig) (u1 : Sl), (G23 W u0) → (GSl c_weirlaw15_Op (Try.prog.bytesOf 36) (fun W u => G36 W u) W u1) → u1.len ≤ 1048576 → ∃ W', weirlaw15_NeighItems u0 u1 W = some (true, W') ∧ Below W.heap.size W W' := by
  intro W u0 u1 _ g hb
  obtain ⟨ops, ho, _, s⟩ := (Ss.start W).args g (by decide)
  have hbt : ∀ o ∈ ops, Bts o.IP.A.l ∧ Bts o.Mac.l := fun o h => by
    obtain ⟨_, _, _, h1, h2, _⟩ := ho o h
    exact ⟨fun x hx => wf_u8 (h1.2 x hx), fun x hx => wf_u8 (h2 x hx)⟩
  have hl := (s.rd_len (i := 0) rfl rdS_rdb).1
  have main : WP (weirlaw15_NeighItems u0 u1) W (fun r W' => r = true ∧ Below W.heap.size W W') := by
    unfold weirlaw15_NeighItems
    refine WP.slot' s (fun _ w s => WP.step (cache_wp s u0) ?_)
    rintro r w ⟨ck, _, s⟩
    obtain ⟨pa, b, pl, hp, _⟩ := s.openC
    refine WP.slot' s (fun _ w s => WP.step (R := fun y w' => y = false ∧ Ss W (Cache r.1 (firstM r.2) :: rdS c_weirlaw15_Op false u1 ops :: []) w') (WP.ite (fun h => by rw [hp] at h; cases h) (fun _ => WP.step (first_wp s) ?_)) ?_)
    · rintro _ w ⟨rfl, s⟩
      exact WP.ret ⟨rfl, s⟩
    rintro _ w ⟨rfl, s⟩
    refine WP.ite (fun h => by cases h) (fun _ => ?_)
    have B0 : IBook (firstM r.2) [] := ⟨List.Pairwise.nil, by simp, fun k its h => by
      obtain ⟨h0, e, he, _, h1⟩ := h
      simp only [firstM, List.mem_singleton] at he
      subst he
      exact absurd h1.symm h0⟩
    have s0 : Ss W (Cache r.1 (firstM r.2) :: vec cRow Sl.nil (([] : List IRow).map (·.1)) [] :: seps (([] : List IRow).map itsH) :: rdS c_weirlaw15_Op false u1 ops :: []) w := ((s.mk0 (A := seps []) trivial).mk0 (A := vec cRow Sl.nil [] []) vec_nil).use [2, 0, 0] (s := [_, _, _]) (r := [_]) rfl
    refine WP.loopG (γ := Nat × NM × List IRow) (fun g (x : Sl × Int) w => x.2 = (g.1 : Int) ∧ g.1 ≤ ops.length ∧ g.2.2.length ≤ g.1 ∧ IBook g.2.1 g.2.2 ∧ ∃ sp Hs, Ss W (Cache r.1 g.2.1 :: vec cRow x.1 (g.2.2.map (·.1)) sp :: seps (g.2.2.map itsH) :: rdS c_weirlaw15_Op false u1 ops :: Hs) w) (fun g _ => ops.length - g.1) (0, firstM r.2, []) ⟨rfl, Nat.zero_le _, Nat.le_refl _, B0, [], [], s0⟩ ?_
    clear s s0
    rintro ⟨i, m, z⟩ ⟨sl, _⟩ w ⟨rfl, hi, hll, B, sp, Hs, s⟩
    simp only at hi hll B s
    show WP (weirlaw15_NeighItems.L1 u1 r sl (i : Int)) w _
    unfold weirlaw15_NeighItems.L1
    refine WP.ite (fun h => ?_) (fun h => WP.done ⟨rfl, s.below⟩)
    have h : i < ops.length := by omega
    have hx := List.getElem?_eq_getElem h
    generalize ops[i] = o at hx
    obtain ⟨b1, b2⟩ := hbt o (List.mem_of_getElem? hx)
    have ok := s.okC
    have nx : ∀ {sl : Sl} {w : World} (m' : NM) (z' : List IRow) (sp : List weirlaw15_Row) (Hs : List HP), z'.length ≤ i + 1 → IBook m' z' → Ss W (Cache r.1 m' :: vec cRow sl (z'.map (·.1)) sp :: seps (z'.map itsH) :: rdS c_weirlaw15_Op false u1 ops :: Hs) w →
        WP (weirlaw15_NeighItems.K1 r (i : Int) sl) w (WP.Rd (fun x' w' => ∃ g' : Nat × NM × List IRow, (x'.2 = (g'.1 : Int) ∧ g'.1 ≤ ops.length ∧ g'.2.2.length ≤ g'.1 ∧ IBook g'.2.1 g'.2.2 ∧ ∃ sp Hs, Ss W (Cache r.1 g'.2.1 :: vec cRow x'.1 (g'.2.2.map (·.1)) sp :: seps (g'.2.2.map itsH) :: rdS c_weirlaw15_Op false u1 ops :: Hs) w') ∧ ops.length - g'.1 < ops.length - i) (fun r W' => r = true ∧ Below W.heap.size W W')) := by
      clear s
      intro sl w m' z' sp Hs h2 B' s
      unfold weirlaw15_NeighItems.K1
      have ok' := s.okC
      have hwt := wait_eq ok' B'
      have hwl : m'.waiting ≤ 65536 := by
        have h1 := ok'.n
        have h2 := ok'.c.m1
        have h4 := sum_le (l := m'.l.map (·.items.length)) (k := 64) (fun x hx => by
          obtain ⟨u, hu, rfl⟩ := List.mem_map.1 hx
          have h5 := (ok'.e u hu).i
          have := ok'.c.l1
          omega)
        rw [List.length_map] at h4
        unfold NM.waiting
        omega
      refine WP.step (Waiting_wp s) ?_
      rintro _ w ⟨rfl, s⟩
      refine WP.step (wait_wp s (j := 1) (k := 2) rfl rfl (by omega) (by omega)) ?_
      rintro _ w ⟨rfl, s⟩
      rw [← hwt]
      exact WP.ite (fun h => absurd rfl h) (fun _ => WP.next ⟨(i + 1, m', z'), ⟨by rw [wrap_i64 (by omega) (by omega)]; simp, by simp only; omega, h2, B', sp, Hs, s⟩, by simp only; omega⟩)
    refine WP.rdx s 3 rfl rdS_rdb (by omega) (x := o) (by rw [Int.toNat_natCast]; exact hx) rfl (WP.slot' s (fun _ w s => ?_))
    refine WP.ite (fun _ => ?_) (fun _ => ?_)
    · refine WP.step (Want_wp s _ _ b1 _) ?_
      rintro ⟨q1, q2, q3⟩ w ⟨hq, s⟩
      refine WP.slot' s (fun _ w s => WP.step (lnum_wp _) ?_)
      rintro x3 _ ⟨he, rfl⟩
      have he := he.symm
      subst he
      have hv := NM.want_wt ok o.Port o.IP o.N
      rw [← hq] at hv
      refine WP.step (R := fun y w' => (y = true ↔ (q3 = 0 ∧ (q2 = 3 ∨ q2 = 4))) ∧ w = w') (WP.ite (fun h0 => ?_) (fun h0 => WP.ret ⟨⟨(fun h => by cases h), fun h => absurd h.1 h0⟩, rfl⟩)) ?_
      · have h0 : q3 = 0 := h0
        refine WP.step (R := fun y w' => (y = true ↔ (q2 = 3 ∨ q2 = 4)) ∧ w = w') (WP.ite (fun h2 => WP.ret ⟨⟨fun _ => .inl h2, fun _ => rfl⟩, rfl⟩) (fun h2 => WP.ret ⟨?_, rfl⟩)) ?_
        · have h2 : ¬ q2 = 3 := h2
          show (q2 == 4) = true ↔ _
          rw [beq_iff_eq]
          exact ⟨.inr, fun h => h.resolve_left h2⟩
        · rintro y _ ⟨hy, rfl⟩
          exact WP.ret ⟨⟨fun h => ⟨h0, hy.1 h⟩, fun h => hy.2 h.2⟩, rfl⟩
      rintro y _ ⟨hy, rfl⟩
      generalize (m.want o.Port o.IP o.N).1 = m' at s hv
      rcases hv with ⟨v1, v2, old, v3, v4, v5, v6⟩ | ⟨v1, v3⟩
      · refine WP.ite (fun _ => ?_) (fun hh => absurd (hy.2 ⟨v1, v2⟩) hh)
        have s1 : Ss W (vec cRow sl (z.map (·.1)) sp :: Cache r.1 m' :: seps (z.map itsH) :: rdS c_weirlaw15_Op false u1 ops :: Hs) w := s.perm (List.Perm.swap _ _ _)
        refine WP.step (row_wp s1 (by rw [List.length_map]; omega) _ _) ?_
        -- the rows, with that one
        obtain ⟨z', j, x, hz1, hz2, hj, hxk, hxo, hzl, hzs, hzm, hzi, hzp⟩ : ∃ (z' : List IRow) (j : Nat) (x : IRow), (rows (z.map (·.1)) ⟨o.Port, o.IP⟩).1 = z'.map (·.1) ∧ (rows (z.map (·.1)) ⟨o.Port, o.IP⟩).2 = j ∧ z'[j]? = some x ∧ rkey x.1 = ⟨o.Port, o.IP⟩ ∧ x.2 = old ∧ z'.length ≤ i + 1 ∧ Rsort (z'.map (·.1)) ∧ (∀ u ∈ z', rkey u.1 ≠ ⟨o.Port, o.IP⟩ → u ∈ z) ∧ (∀ u ∈ z, u ∈ z') ∧ (∀ {w : World} {A B : HP} {Hs : List HP}, Ss W (A :: B :: seps (z.map itsH) :: Hs) w → Ss W (A :: B :: seps (z'.map itsH) :: Hs) w) := by
          unfold rows
          cases hf : rfind (z.map (·.1)) ⟨o.Port, o.IP⟩ with
          | some j =>
            obtain ⟨e, he, hk⟩ := rfind_some hf
            rw [List.getElem?_map] at he
            obtain ⟨x, hx, rfl⟩ := Option.map_eq_some_iff.1 he
            refine ⟨z, j, x, rfl, rfl, hx, hk, ?_, by omega, B.s, fun u hu _ => hu, fun u hu => hu, fun s => s⟩
            by_cases h0 : x.2 = []
            · rw [h0]
              by_cases h1 : old = []
              · exact h1.symm
              · obtain ⟨u, hu, hku, hui⟩ := B.e _ _ (v4 h1)
                obtain ⟨j', hj'⟩ := List.getElem?_of_mem hu
                have := z_inj B.s hx hj' (hk.trans hku.symm)
                subst this
                rw [hx] at hj'
                cases hj'
                rw [← hui, h0]
            · have := B.r x (List.mem_of_getElem? hx) h0
              rw [hk] at this
              exact v3 _ this
          | none =>
            have hno := rfind_none hf
            have hold : old = [] := Classical.byContradiction fun h1 => by
              obtain ⟨u, hu, hku, hui⟩ := B.e _ _ (v4 h1)
              exact hno u.1 (List.mem_map_of_mem hu) hku
            refine ⟨z.take (rAt (z.map (·.1)) ⟨o.Port, o.IP⟩) ++ (rnew ⟨o.Port, o.IP⟩, []) :: z.drop (rAt (z.map (·.1)) ⟨o.Port, o.IP⟩), rAt (z.map (·.1)) ⟨o.Port, o.IP⟩, (rnew ⟨o.Port, o.IP⟩, []), ?_, rfl, ?_, rfl, hold.symm, ?_, ?_, ?_, ?_, ?_⟩
            · unfold rins
              rw [List.map_append, List.map_cons, List.map_take, List.map_drop]
            · have hle := rAt_le (z.map (·.1)) ⟨o.Port, o.IP⟩
              rw [List.length_map] at hle
              rw [List.getElem?_append_right (by rw [List.length_take]; omega), List.length_take, Nat.min_eq_left hle, Nat.sub_self]
              rfl
            · have hle := rAt_le (z.map (·.1)) ⟨o.Port, o.IP⟩
              rw [List.length_map] at hle
              rw [List.length_append, List.length_cons, List.length_take, List.length_drop]
              omega
            · have := rins_sorted B.s hno
              unfold rins at this
              rw [List.map_append, List.map_cons, List.map_take, List.map_drop]
              exact this
            · intro u hu hne
              rcases List.mem_append.1 hu with h | h
              · exact List.mem_of_mem_take h
              · rcases List.mem_cons.1 h with rfl | h
                · exact absurd rfl hne
                · exact List.mem_of_mem_drop h
            · intro u hu
              rw [← List.take_append_drop (rAt (z.map (·.1)) ⟨o.Port, o.IP⟩) z] at hu
              rcases List.mem_append.1 hu with h | h
              · exact List.mem_append_left _ h
              · exact List.mem_append_right _ (List.mem_cons_of_mem _ h)
            · intro w A B' Hs' s
              have s2 := s.mk0 (A := itsH (rnew ⟨o.Port, o.IP⟩, [])) ⟨[], vec_nil⟩
              exact s2.into 2 rfl (M := (z.take (rAt (z.map (·.1)) ⟨o.Port, o.IP⟩) ++ (rnew ⟨o.Port, o.IP⟩, []) :: z.drop (rAt (z.map (·.1)) ⟨o.Port, o.IP⟩)).map itsH) ((insPerm z _ _).map itsH)
        rw [hz1, hz2]
        rintro ⟨sl', _⟩ w ⟨rfl, sp', s⟩
        have s := hzp s
        simp only at s
        have hjl := (List.getElem?_eq_some_iff.1 hj).1
        have hj1 : (z'.map (·.1))[j]? = some x.1 := by rw [List.getElem?_map, hj]; rfl
        simp only
        refine WP.draw' s (fun w s => WP.idxr s 0 rfl vec_rdb (k := (j : Int)) (by omega) (x := x.1) (by rw [Int.toNat_natCast]; exact hj1) rfl (fun a ha => ?_))
        rw [Int.toNat_natCast]
        refine WP.ldh s 0 rfl (vec_part ha hj1 (At_weirlaw15_Row_Items _)) (by rw [add_add]) (WP.slot' s (fun _ w s => WP.sameh s 0 rfl (vec_part ha hj1 (At_weirlaw15_Row_Items _)) (by rw [add_add]) ?_))
        obtain ⟨spi, s⟩ := s.itsOut (j := 2) rfl hj
        refine WP.appl s 0 rfl (by rw [hxo, List.length_singleton]; omega) (by decide) (fun r2 w spi s => ?_)
        refine WP.stxp s 1 rfl (k := (j : Int)) (by omega) (by rw [Int.toNat_natCast]; exact hj1) rfl (Up_weirlaw15_Row_Items x.1 r2) (fun w s => ?_)
        rw [Int.toNat_natCast] at s
        have s := Ss.itsIn (z := z') (i := j) (x := x) (y := (⟨x.1.Port, x.1.IP, r2, x.1.Last, x.1.Count⟩, x.2 ++ [o.N])) (j := 2) s rfl hj
        have B' := IBook.put (m := m) (m' := m') (y := (⟨x.1.Port, x.1.IP, r2, x.1.Last, x.1.Count⟩, x.2 ++ [o.N])) hzs hj hxk hxk
          (fun u hu hne hi => B.r u (hzm u hu hne) hi) (fun k' its hne hw => by
            obtain ⟨u, hu, h⟩ := B.e k' its hw
            exact ⟨u, hzi u hu, h⟩)
          (fun k' its hne => by rw [v6]; simp [hne]) (fun _ => (v6 _ _).2 (.inl ⟨rfl, by rw [hxo]⟩)) (fun its hw => by
            rcases (v6 _ _).1 hw with ⟨_, h⟩ | ⟨h, _⟩
            · rw [h, hxo]
            · exact absurd rfl h)
        refine nx m' (z'.set j (⟨x.1.Port, x.1.IP, r2, x.1.Last, x.1.Count⟩, x.2 ++ [o.N])) sp' Hs (by rw [List.length_set]; exact hzl) B' ?_
        rw [List.map_set (f := fun x : IRow => x.1)]
        exact s.perm (List.Perm.swap _ _ _)
      · refine WP.ite (fun hh => absurd (hy.1 hh) v1) (fun _ => ?_)
        exact nx m' z sp Hs (by omega) (B.same v3) s
    refine WP.ite (fun _ => ?_) (fun _ => ?_)
    · refine WP.step (Learn_wp s _ _ b1 _ b2 _) ?_
      rintro ⟨q, e⟩ w ⟨hq, s⟩
      simp only at hq s
      have hv := NM.learn_wt ok o.Port o.IP o.Mac o.N
      have hlen := learn_len ok o.Port o.IP o.Mac o.N
      rw [← hq] at hv
      generalize (m.learn o.Port o.IP o.Mac o.N).1 = m' at s hv
      generalize (m.learn o.Port o.IP o.Mac o.N).2.1 = its at s hv hlen
      refine WP.step (rplace_wp s (j := 2) rfl vec_rdb (by rw [List.length_map]; omega) _ _) ?_
      rintro _ w ⟨rfl, s⟩
      have k2 : ∀ {sw : Sl} {A : HP} {w : World} (z' : List IRow) (ws spw : List Int), z'.length ≤ i + 1 → IBook m' z' → ws = its → Ss W (vec (cI .i64) sw ws spw :: vec (cI .i64) q its [] :: Cache r.1 m' :: vec cRow sl (z'.map (·.1)) sp :: seps (z'.map itsH) :: rdS c_weirlaw15_Op false u1 ops :: Hs) w →
          WP (weirlaw15_NeighItems.K2 r sl (i : Int) (q, e) sw) w (WP.Rd (fun x' w' => ∃ g' : Nat × NM × List IRow, (x'.2 = (g'.1 : Int) ∧ g'.1 ≤ ops.length ∧ g'.2.2.length ≤ g'.1 ∧ IBook g'.2.1 g'.2.2 ∧ ∃ sp Hs, Ss W (Cache r.1 g'.2.1 :: vec cRow x'.1 (g'.2.2.map (·.1)) sp :: seps (g'.2.2.map itsH) :: rdS c_weirlaw15_Op false u1 ops :: Hs) w') ∧ ops.length - g'.1 < ops.length - i) (fun r W' => r = true ∧ Below W.heap.size W W')) := by
        intro sw A w z' ws spw h1 B' hws s
        unfold weirlaw15_NeighItems.K2
        subst hws
        refine WP.step (sameInts_wp s 1 rfl vec_rdb 0 rfl vec_rdb (by omega)) ?_
        rintro _ w ⟨rfl, s⟩
        exact WP.ite (fun h => absurd (by simp) h) (fun _ => nx m' z' sp Hs h1 B' s.drop.drop)
      cases hf : rfind (z.map (·.1)) ⟨o.Port, o.IP⟩ with
      | none =>
        refine WP.step (R := fun y w' => y = false ∧ w = w') (WP.ite (fun h => absurd h (by simp only [rI]; omega)) (fun _ => WP.ret ⟨rfl, rfl⟩)) ?_
        rintro _ _ ⟨rfl, rfl⟩
        refine WP.ite (fun h => by cases h) (fun _ => ?_)
        have hno : ∀ t, ¬ Wt m ⟨o.Port, o.IP⟩ t := fun t h => by
          obtain ⟨x, hxx, hk, _⟩ := B.e _ _ h
          exact rfind_none hf x.1 (List.mem_map_of_mem hxx) hk
        rcases hv with ⟨_, v1, v2⟩ | ⟨_, v1, v2, v3⟩
        · exact k2 (A := seps []) z [] [] (by omega) (by rw [v1]; exact B) v2.symm (s.mk0 vec_nil)
        · have hits : its = [] := Classical.byContradiction fun h => hno _ (v1 h)
          refine k2 (A := seps []) z [] [] (by omega) (B.same (fun k t => ?_)) hits.symm (s.mk0 vec_nil)
          rw [v3]
          exact ⟨fun h => h.2, fun h => ⟨fun hk => by subst hk; exact hno t h, h⟩⟩
      | some j =>
        obtain ⟨e1, he1, hk⟩ := rfind_some hf
        have he0 := he1
        rw [List.getElem?_map] at he1
        obtain ⟨x, hxx, rfl⟩ := Option.map_eq_some_iff.1 he1
        refine WP.step (R := fun y w' => y = decide (e = 0) ∧ w = w') (WP.ite (fun _ => WP.step (lnum_wp _) ?_) (fun h => absurd h (by simp only [rI]; omega))) ?_
        · rintro _ _ ⟨rfl, rfl⟩
          exact WP.ret ⟨rfl, rfl⟩
        rintro _ _ ⟨rfl, rfl⟩
        rcases hv with ⟨v0, v1, v2⟩ | ⟨v0, v1, v2, v3⟩
        · refine WP.ite (fun h => absurd (of_decide_eq_true h) v0) (fun _ => ?_)
          exact k2 (A := seps []) z [] [] (by omega) (by rw [v1]; exact B) v2.symm (s.mk0 vec_nil)
        · refine WP.ite (fun _ => ?_) (fun h => absurd (decide_eq_true v0) h)
          have hxi : x.2 = its := by
            by_cases h0 : x.2 = []
            · by_cases h1 : its = []
              · rw [h0, h1]
              · obtain ⟨u, hu, hku, hui⟩ := B.e _ _ (v1 h1)
                obtain ⟨j', hj'⟩ := List.getElem?_of_mem hu
                have := z_inj B.s hxx hj' (hk.trans hku.symm)
                subst this
                rw [hxx] at hj'
                cases hj'
                exact hui
            · have := B.r x (List.mem_of_getElem? hxx) h0
              rw [hk] at this
              exact v2 _ this
          simp only [rI]
          refine WP.rdxp s 2 rfl vec_rdb (k := (j : Int)) (by omega) (x := x.1) (by rw [Int.toNat_natCast]; exact he0) rfl (At_weirlaw15_Row_Items _) ?_
          obtain ⟨spi, s⟩ := s.itsOut (j := 3) rfl hxx
          refine WP.stxp s 3 rfl (k := (j : Int)) (by omega) (by rw [Int.toNat_natCast]; exact he0) rfl (Up_weirlaw15_Row_Items x.1 Sl.nil) (fun w s => ?_)
          rw [Int.toNat_natCast] at s
          have s := s.mk0 (A := vec (cI .i64) Sl.nil [] []) vec_nil
          have s := Ss.itsIn (z := z) (i := j) (x := x) (y := (⟨x.1.Port, x.1.IP, Sl.nil, x.1.Last, x.1.Count⟩, [])) (j := 4) s rfl hxx
          have B' := IBook.put (m := m) (m' := m') (y := (⟨x.1.Port, x.1.IP, Sl.nil, x.1.Last, x.1.Count⟩, [])) B.s hxx hk hk
            (fun u hu hne hi => B.r u hu hi) (fun k' t hne hw => B.e k' t hw) (fun k' t hne => by rw [v3]; simp [hne]) (fun h => absurd rfl h) (fun t hw => absurd rfl ((v3 _ _).1 hw).1)
          refine k2 (A := seps []) (z.set j (⟨x.1.Port, x.1.IP, Sl.nil, x.1.Last, x.1.Count⟩, [])) x.2 spi (by rw [List.length_set]; omega) B' hxi ?_
          rw [List.map_set (f := fun x : IRow => x.1)]
          exact s
    refine WP.ite (fun _ => ?_) (fun _ => ?_)
    · have okt := NM.tick_ok ok
      have htl := (tick_len ok).2
      refine WP.step (Tick_wp s) ?_
      rintro q w ⟨sp1, sp2, s⟩
      have s1 : Ss W (Cache r.1 m.tick.1 :: vec cRow sl (z.map (·.1)) sp :: seps (z.map itsH) :: vec (cI .i64) q.2 m.tick.2.2 sp2 :: vec c_api_Ask q.1 m.tick.2.1 sp1 :: rdS c_weirlaw15_Op false u1 ops :: Hs) w := s.use [2, 2, 2, 1, 0] (s := [_, _, _, _, _]) (r := _ :: Hs) rfl
      refine WP.step (lost_wp (lost_are ok B) htl (by omega) s1) ?_
      rintro _ w ⟨rfl, s⟩
      refine WP.ite (fun h => absurd rfl h) (fun _ => ?_)
      have s2 := s.use [0, 0, 0, 2] (s := [_, _, _, _]) (r := _ :: _ :: Hs) rfl
      exact nx m.tick.1 _ sp _ (by rw [List.length_map]; omega) (B.tick ok) s2
    · exact nx m z sp Hs (by omega) B s
  obtain ⟨r, W', h1, rfl, h2⟩ := main
  exact ⟨W', h1, h2⟩
end Go.Proofs.Ytlkhijflgbobjaa.Lx
