/- The law NeighBounds, of its program in the M-world: never more entries, no longer lines than may be; all are told in order: it answers true, and nothing that was there is turned. -/
import Derived.Test.YtlkhijflgbobjaaNeighOut
import Derived.Test.YtlkhijflgbobjaaNeighLess2
import Derived.Test.YtlkhijflgbobjaaLxQ
set_option linter.unusedVariables false
set_option linter.unusedSimpArgs false
namespace Go.Proofs.Ytlkhijflgbobjaa.Lx
open Go Go.Proofs Go.RowKit

theorem sum_take {l : List Nat} (i : Nat) : (l.take i).sum ≤ l.sum := by
  conv => rhs; rw [← List.take_append_drop i l, List.sum_append]
  omega
theorem waiting_le {m : NM} (ok : m.Ok) : m.waiting ≤ 65536 := by
  have h1 := ok.n
  have h2 := ok.c.m1
  have h4 := sum_le (l := m.l.map (·.items.length)) (k := 64) (fun x hx => by
    obtain ⟨u, hu, rfl⟩ := List.mem_map.1 hx
    have h5 := (ok.e u hu).i
    have := ok.c.l1
    omega)
  rw [List.length_map] at h4
  unfold NM.waiting
  omega
theorem NeighBounds_true : ∀ (W : World) (u0 : api_NeighConfig) (u1 : Sl), (G23 W u0) → (GSl c_weirlaw15_Op (Try.prog.bytesOf 36) (fun W u => G36 W u) W u1) → ∃ W', weirlaw15_NeighBounds u0 u1 W = some (true, W') ∧ Below W.heap.size W W' := by
  intro W u0 u1 _ g
  have b36 : Try.prog.bytesOf 36 = 64 := by kernel_rfl
  have hr : reachBytes = 140737488351232 := rfl
  obtain ⟨ops, ho, hb, s⟩ := (Ss.start W).args g (by decide)
  rw [b36, hr] at hb
  have hbt : ∀ o ∈ ops, Bts o.IP.A.l ∧ Bts o.Mac.l := fun o h => by
    obtain ⟨_, _, _, h1, h2, _⟩ := ho o h
    exact ⟨fun x hx => wf_u8 (h1.2 x hx), fun x hx => wf_u8 (h2 x hx)⟩
  have hl := (s.rd_len (i := 0) rfl rdS_rdb).1
  have main : WP (weirlaw15_NeighBounds u0 u1) W (fun r W' => r = true ∧ Below W.heap.size W W') := by
    unfold weirlaw15_NeighBounds
    refine WP.slot' s (fun _ w s => begin_wp s u0 (fun r w ck s => ?_))
    refine WP.loopG (γ := Nat × NM) (fun g (x : Int) w => x = (g.1 : Int) ∧ g.1 ≤ ops.length ∧ g.2.c = r.2 ∧ ∃ Hs, Ss W (Cache r.1 g.2 :: rdS c_weirlaw15_Op false u1 ops :: Hs) w) (fun g _ => ops.length - g.1) (0, firstM r.2) ⟨rfl, Nat.zero_le _, rfl, [], s⟩ ?_
    clear s
    rintro ⟨i, m⟩ _ w ⟨rfl, hi, hmc, Hs, s⟩
    simp only at hi s hmc
    show WP (weirlaw15_NeighBounds.L1 u1 r (i : Int)) w _
    unfold weirlaw15_NeighBounds.L1
    refine WP.ite (fun h => ?_) (fun h => WP.done ⟨rfl, s.below⟩)
    have h : i < ops.length := by omega
    have hx := List.getElem?_eq_getElem h
    generalize ops[i] = o at hx
    obtain ⟨b1, b2⟩ := hbt o (List.mem_of_getElem? hx)
    refine WP.rdx s 1 rfl rdS_rdb (by omega) (x := o) (by rw [Int.toNat_natCast]; exact hx) rfl (WP.slot' s (fun _ w s => ?_))
    have k2 : ∀ {w : World} (m' : NM) (Hs : List HP), m'.c = r.2 → Ss W (Cache r.1 m' :: rdS c_weirlaw15_Op false u1 ops :: Hs) w → WP (weirlaw15_NeighBounds.K2 r (i : Int)) w (WP.Rd (fun x' w' => ∃ g' : Nat × NM, (x' = (g'.1 : Int) ∧ g'.1 ≤ ops.length ∧ g'.2.c = r.2 ∧ ∃ Hs, Ss W (Cache r.1 g'.2 :: rdS c_weirlaw15_Op false u1 ops :: Hs) w') ∧ ops.length - g'.1 < ops.length - i) (fun r W' => r = true ∧ Below W.heap.size W W')) := by
      clear s
      intro w m' Hs hmc' s
      have ok := s.okC
      have hw := waiting_le ok
      have hn := ok.n
      have hc := ok.c
      have := hc.m1
      unfold weirlaw15_NeighBounds.K2
      refine WP.step (All_wp s) ?_
      rintro q w ⟨sp, s⟩
      have hql := (s.vec_len (i := 0) rfl).1
      have hal : m'.all.length = m'.l.length := by unfold NM.all; rw [List.length_map]
      refine WP.loopG (γ := Nat) (fun j (x : Int × Int) w => x = (((((m'.l.map (·.items.length)).take j).sum : Nat) : Int), (j : Int)) ∧ j ≤ m'.l.length ∧ Ss W (vec c_api_Neighbour q m'.all sp :: Cache r.1 m' :: rdS c_weirlaw15_Op false u1 ops :: Hs) w) (fun j _ => m'.l.length - j) 0 ⟨rfl, Nat.zero_le _, s⟩ ?_
      clear s
      rintro j _ w ⟨rfl, hj, s⟩
      show WP (weirlaw15_NeighBounds.L2 r (i : Int) q _ (j : Int)) w _
      unfold weirlaw15_NeighBounds.L2
      have hsj := sum_take (l := m'.l.map (·.items.length)) j
      have hsw : (m'.l.map (·.items.length)).sum = m'.waiting := rfl
      refine WP.ite (fun hh => WP.draw' s (fun w s => ?_)) (fun hh => ?_)
      · have hj2 : j < m'.l.length := by omega
        have hx := List.getElem?_eq_getElem hj2
        generalize m'.l[j] = e at hx
        have ek := ok.e e (List.mem_of_getElem? hx)
        have hxa : m'.all[j]? = some e.told := by unfold NM.all; rw [List.getElem?_map, hx]; rfl
        refine WP.rdxp s 0 rfl vec_rdb (by omega) (x := e.told) (by rw [Int.toNat_natCast]; exact hxa) rfl (At_api_Neighbour_Waiting _) ?_
        have hil := ek.i
        refine WP.step (R := fun y w' => y = false ∧ Ss W (vec c_api_Neighbour q m'.all sp :: Cache r.1 m' :: rdS c_weirlaw15_Op false u1 ops :: Hs) w') (WP.ite (fun hl => absurd hl (by show ¬ (e.items.length : Int) > r.2.Line; rw [← hmc']; omega)) (fun _ => ?_)) ?_
        · refine WP.step (R := fun y w' => y = false ∧ Ss W (vec c_api_Neighbour q m'.all sp :: Cache r.1 m' :: rdS c_weirlaw15_Op false u1 ops :: Hs) w') (WP.ite (fun h0 => ?_) (fun _ => WP.ret ⟨rfl, s⟩)) (fun r w h => WP.ret h)
          obtain ⟨j', rfl⟩ : ∃ j', j = j' + 1 := ⟨j - 1, by omega⟩
          have hx' := List.getElem?_eq_getElem (show j' < m'.l.length by omega)
          have hs := ok.s
          rw [List.pairwise_iff_getElem] at hs
          have hlt := hs j' (j' + 1) (by omega) hj2 (by omega)
          rw [(List.getElem?_eq_some_iff.1 hx).2] at hlt
          generalize m'.l[j']'(by omega) = e' at hx' hlt
          have hxa' : m'.all[j']? = some e'.told := by unfold NM.all; rw [List.getElem?_map, hx']; rfl
          rw [show IntKind.wrap .i64 (((j' + 1 : Nat) : Int) - 1) = (j' : Int) by rw [wrap_i64 (by omega) (by omega)]; omega]
          refine WP.rdxp0 s 0 rfl vec_rdb (k := (j' : Int)) (by omega) (x := e'.told) (by rw [Int.toNat_natCast]; exact hxa') rfl (At_api_Neighbour_Port _) ?_
          refine WP.rdxp s 0 rfl vec_rdb (k := (j' : Int)) (by omega) (x := e'.told) (by rw [Int.toNat_natCast]; exact hxa') rfl (At_api_Neighbour_IP _) ?_
          refine WP.rdxp0 s 0 rfl vec_rdb (by omega) (x := e.told) (by rw [Int.toNat_natCast]; exact hxa) rfl (At_api_Neighbour_Port _) ?_
          refine WP.rdxp s 0 rfl vec_rdb (by omega) (x := e.told) (by rw [Int.toNat_natCast]; exact hxa) rfl (At_api_Neighbour_IP _) ?_
          refine WP.step (lawLess_wp s _ _ _ _) ?_
          rintro _ w ⟨rfl, s⟩
          refine WP.ret ⟨?_, s⟩
          show (!klt e'.k e.k) = false
          rw [hlt]
          rfl
        rintro _ w ⟨rfl, s⟩
        refine WP.step (R := fun y w' => y = false ∧ w = w') (WP.ite (fun h => by cases h) (fun _ => ?_)) ?_
        · refine WP.rdxp s 0 rfl vec_rdb (by omega) (x := e.told) (by rw [Int.toNat_natCast]; exact hxa) rfl (At_api_Neighbour_State _) ?_
          refine WP.rdxp s 0 rfl vec_rdb (by omega) (x := e.told) (by rw [Int.toNat_natCast]; exact hxa) rfl (At_api_Neighbour_Waiting _) (WP.ret ⟨?_, rfl⟩)
          have hie := ek.ie
          show (!((decide (e.st = 1)) == decide ((e.items.length : Int) > 0))) = false
          by_cases h1 : e.st = 1
          · have := List.length_pos_iff.2 (hie.1 h1)
            rw [decide_eq_true h1, decide_eq_true (show (e.items.length : Int) > 0 by omega)]
            rfl
          · have : e.items = [] := Classical.byContradiction fun hne => h1 (hie.2 hne)
            rw [decide_eq_false h1, this]
            rfl
        rintro _ _ ⟨rfl, rfl⟩
        refine WP.ite (fun h => by cases h) (fun _ => ?_)
        refine WP.rdxp s 0 rfl vec_rdb (by omega) (x := e.told) (by rw [Int.toNat_natCast]; exact hxa) rfl (At_api_Neighbour_Waiting _) (WP.next ?_)
        have hs2 : ((m'.l.map (·.items.length)).take (j + 1)).sum = ((m'.l.map (·.items.length)).take j).sum + e.items.length := by
          rw [List.take_add_one, List.getElem?_map, hx, List.sum_append]
          simp
        have hsj2 := sum_take (l := m'.l.map (·.items.length)) (j + 1)
        refine ⟨j + 1, ⟨?_, by omega, s⟩, by omega⟩
        rw [hs2] at hsj2 ⊢
        rw [wrap_i64 (by show _ ≤ _ + (e.items.length : Int); omega) (by show _ + (e.items.length : Int) ≤ _; omega), wrap_i64 (by omega) (by omega)]
        simp [NE.told]
      · obtain rfl : j = m'.l.length := by omega
        have ht : (m'.l.map (·.items.length)).take m'.l.length = m'.l.map (·.items.length) := by rw [List.take_of_length_le (by rw [List.length_map]; omega)]
        rw [ht, hsw]
        refine WP.step (R := WP.Rd _ _) ?_ (fun b w h => WP.done h)
        unfold weirlaw15_NeighBounds.K1
        refine WP.step (R := fun y w' => y = false ∧ Ss W (Cache r.1 m' :: rdS c_weirlaw15_Op false u1 ops :: Hs) w') (WP.ite (fun hl => absurd hl (by rw [← hmc']; omega)) (fun _ => WP.step (Waiting_wp s.drop) ?_)) ?_
        · rintro _ w ⟨rfl, s⟩
          exact WP.ret ⟨by simp, s⟩
        rintro _ w ⟨rfl, s⟩
        exact WP.ite (fun h => by cases h) (fun _ => WP.next ⟨(i + 1, m'), ⟨by rw [wrap_i64 (by omega) (by omega)]; simp, by simp only; omega, hmc', Hs, s⟩, by simp only; omega⟩)
    refine WP.ite (fun _ => ?_) (fun _ => ?_)
    · refine WP.step (Want_wp s _ _ b1 _) ?_
      rintro q w ⟨hq, s⟩
      exact k2 _ _ (by rw [NM.want_c]; exact hmc) s
    refine WP.ite (fun _ => ?_) (fun _ => ?_)
    · refine WP.step (Learn_wp s _ _ b1 _ b2 _) ?_
      rintro q w ⟨hq, s⟩
      unfold weirlaw15_NeighBounds.K3
      exact k2 _ _ (by rw [NM.learn_c]; exact hmc) s.drop
    refine WP.ite (fun _ => ?_) (fun _ => ?_)
    · refine WP.step (Tick_wp s) ?_
      rintro q w ⟨sp1, sp2, s⟩
      unfold weirlaw15_NeighBounds.K4 weirlaw15_NeighBounds.K3
      exact k2 m.tick.1 _ hmc s.drop.drop
    · unfold weirlaw15_NeighBounds.K4 weirlaw15_NeighBounds.K3
      exact k2 _ _ hmc s
  obtain ⟨r, W', h1, rfl, h2⟩ := main
  exact ⟨W', h1, h2⟩
end Go.Proofs.Ytlkhijflgbobjaa.Lx
