/- The document's answer of layer 15, of its programs in the M-world: Tick, Get, All, Waiting. -/
import Derived.Test.YtlkhijflgbobjaaNeighRef3
set_option linter.unusedVariables false
set_option linter.unusedSimpArgs false
namespace Go.Proofs.Ytlkhijflgbobjaa.Lx
open Go Go.Proofs Go.RowKit
section
variable {W w : World} {Hs : List HP} {r : weirref15_Cache} {m : NM} {L : Sl} {z z' : List (weirref15_Entry × NE)}
def oldE (c : api_NeighConfig) (x : weirref15_Entry × NE) : weirref15_Entry × NE := (⟨(NM.older c x.2).told, x.1.Items⟩, NM.older c x.2)
theorem older_wp {w : World} (s : Ss W Hs w) (hc : r.C = m.c) (ck : CfgOk m.c) {x : weirref15_Entry × NE} (hN : x.1.N = x.2.told) (ek : EOk m.c x.2) : WP (weirref15_older r x.1) w (fun y w' => y = (oldE m.c x).1 ∧ Ss W Hs w') := by
  unfold weirref15_older
  have ha0 := ek.a0
  have ha1 := ek.a1
  obtain ⟨⟨⟨⟩, It⟩, e⟩ := x
  simp only at hN
  cases hN
  have ha0 : 0 ≤ e.age := ha0
  have ha1 : e.age ≤ 1048576 := ha1
  unfold oldE NM.older
  simp only
  refine WP.slot' s (fun _ w s => WP.slot' s (fun _ w s => WP.slot' s (fun _ w s => ?_)))
  refine WP.step (R := fun y w' => y = decide (e.st ≠ 3 ∨ e.age < 1048576) ∧ w = w') (WP.ite (fun h1 => WP.ret ⟨?_, rfl⟩) (fun h1 => WP.ret ⟨?_, rfl⟩)) ?_
  · exact (decide_eq_true (.inl h1)).symm
  · have h1 : ¬ e.st ≠ 3 := h1
    exact decide_eq_decide.2 ⟨.inr, fun h => h.resolve_left h1⟩
  rintro _ _ ⟨rfl, rfl⟩
  have k1 : ∀ (e1 : NE), e1.items = e.items → WP (weirref15_older.K1 r ⟨e1.told, It⟩) w (fun y w' => y = (⟨(if e1.st = 2 ∧ e1.age = m.c.Fresh then { e1 with st := 3, age := 0 } else e1).told, It⟩ : weirref15_Entry) ∧ Ss W Hs w') := by
    intro e1 hit
    unfold weirref15_older.K1
    rw [hc]
    refine WP.step (R := fun y w' => y = decide (e1.st = 2 ∧ e1.age = m.c.Fresh) ∧ w = w') (WP.ite (fun h1 => WP.ret ⟨?_, rfl⟩) (fun h1 => WP.ret ⟨?_, rfl⟩)) ?_
    · show decide (e1.age = m.c.Fresh) = _
      exact decide_eq_decide.2 ⟨fun h => ⟨h1, h⟩, fun h => h.2⟩
    · exact (decide_eq_false (fun h => h1 h.1)).symm
    rintro _ _ ⟨rfl, rfl⟩
    refine WP.ite (fun h => WP.ret ⟨?_, s⟩) (fun h => WP.ret ⟨?_, s⟩)
    · rw [if_pos (of_decide_eq_true h)]
      rfl
    · rw [if_neg (fun hh => h (decide_eq_true hh))]
  refine WP.ite (fun h => ?_) (fun h => ?_)
  · have h := of_decide_eq_true h
    rw [if_pos h]
    have hw : IntKind.wrap .i64 (e.age + 1) = e.age + 1 := wrap_i64 (by omega) (by omega)
    rw [hw]
    exact k1 { e with age := e.age + 1 } rfl
  · have h : ¬ (e.st ≠ 3 ∨ e.age < 1048576) := fun hh => h (decide_eq_true hh)
    rw [if_neg h]
    exact k1 e rfl
def stepR (c : api_NeighConfig) (x : weirref15_Entry × NE) : Option (weirref15_Entry × NE) := (NM.stepE c x.2).1.map fun e => (⟨e.told, x.1.Items⟩, e)
theorem stepE_items {c : api_NeighConfig} (ck : CfgOk c) {e e' : NE} (ek : EOk c e) (h : (NM.stepE c e).1 = some e') : e'.items = e.items := by
  have ho := (NM.older_spec ck ek).2.2.2.1
  unfold NM.stepE at h
  simp only at h
  split at h
  · split at h
    · cases h
      exact ho
    · cases h
  · cases h
    exact ho
theorem refTick_wp (s : Ss W (RefC r m :: Hs) w) (ok : m.Ok) : WP (weirref15_Tick r) w (fun q w' => ∃ sp1 sp2, Ss W (vec c_api_Ask q.2.1 m.tick.2.1 sp1 :: vec (cI .i64) q.2.2 m.tick.2.2 sp2 :: RefC q.1 m.tick.1 :: Hs) w') := by
  unfold weirref15_Tick
  refine WP.slot' s (fun _ w s => WP.slot' s (fun _ w s => ?_))
  obtain ⟨z, hc, hz, s⟩ := s.openF
  have hzl : z.length = m.l.length := by rw [← hz, List.length_map]
  have hmax := ok.n
  have hm1 := ok.c.m1
  obtain ⟨hl, hcp, hrow⟩ := RefZ_len s (i := 0) rfl
  have hek : ∀ x ∈ z, EOk m.c x.2 := fun x hx => ok.e x.2 (by rw [← hz]; exact List.mem_map_of_mem hx)
  have s0 := ((s.mk0 (A := vec (cI .i64) Sl.nil [] []) vec_nil).mk0 (A := vec c_api_Ask Sl.nil [] []) vec_nil).mk0 (A := vec cE Sl.nil [] []) vec_nil
  refine WP.loopG (γ := Nat × List weirref15_Entry × List api_Ask × List Int) (fun g (x : Sl × Sl × Sl × Int) w => x.2.2.2 = (g.1 : Int) ∧ g.1 ≤ z.length ∧ Ss W (vec cE x.1 (((z.take g.1).filterMap (stepR m.c)).map (·.1)) g.2.1 :: vec c_api_Ask x.2.1 ((z.take g.1).flatMap (fun x => (NM.stepE m.c x.2).2.1)) g.2.2.1 :: vec (cI .i64) x.2.2.1 ((z.take g.1).flatMap (fun x => (NM.stepE m.c x.2).2.2)) g.2.2.2 :: RefZ r.L z :: Hs) w) (fun g _ => z.length - g.1) (0, [], [], []) ⟨rfl, Nat.zero_le _, s0⟩ ?_
  clear s s0
  rintro ⟨i, g1, g2, g3⟩ ⟨s3, s4, s5, x6⟩ w ⟨rfl, hi, s⟩
  simp only at hi s
  show WP (weirref15_Tick.L1 r s3 s4 s5 (i : Int)) w _
  unfold weirref15_Tick.L1
  have h0 : ((z.take i).filterMap (stepR m.c)).length ≤ 1024 := by
    have := List.length_filterMap_le (stepR m.c) (z.take i)
    rw [List.length_take] at this
    omega
  have h1 : ((z.take i).flatMap (fun x : weirref15_Entry × NE => (NM.stepE m.c x.2).2.1)).length ≤ 1024 := by
    have := flm_len (l := z.take i) (g := fun x : weirref15_Entry × NE => (NM.stepE m.c x.2).2.1) (k := 1) (fun x _ => ask_len m.c (none, x.2))
    rw [List.length_take] at this
    omega
  have h2 : ((z.take i).flatMap (fun x : weirref15_Entry × NE => (NM.stepE m.c x.2).2.2)).length ≤ 65536 := by
    have := flm_len (l := z.take i) (g := fun x : weirref15_Entry × NE => (NM.stepE m.c x.2).2.2) (k := 64) (fun x hx => lost_len ok.c (x := (none, x.2)) (hek x (List.mem_of_mem_take hx)))
    rw [List.length_take] at this
    omega
  refine WP.ite (fun h => ?_) (fun h => WP.done ?_)
  · have hi2 : i < z.length := by omega
    have hx := List.getElem?_eq_getElem hi2
    generalize z[i] = x at hx
    have hxz := List.mem_of_getElem? hx
    have ek := hek x hxz
    obtain ⟨hN, hIt⟩ := hrow x hxz
    have hx1 : (z.map (·.1))[i]? = some x.1 := by rw [List.getElem?_map, hx]; rfl
    have hfm := fm_succ (g := stepR m.c) hx
    have hfa := flm_succ (g := fun x : weirref15_Entry × NE => (NM.stepE m.c x.2).2.1) hx
    have hfl := flm_succ (g := fun x : weirref15_Entry × NE => (NM.stepE m.c x.2).2.2) hx
    have osp := NM.older_spec ok.c ek
    have hi64 := ek.i
    have hl64 := ok.c.l1
    have ht0 := ek.t0
    have ht1 := ek.t1
    have hct := ok.c.t1
    have hnx : ∀ {s3 s4 s5 : Sl} {g1 : List weirref15_Entry} {g2 : List api_Ask} {g3 : List Int} {w : World}, Ss W (vec cE s3 ((((z.take i).filterMap (stepR m.c)) ++ (stepR m.c x).toList).map (·.1)) g1 :: vec c_api_Ask s4 ((z.take i).flatMap (fun x => (NM.stepE m.c x.2).2.1) ++ (NM.stepE m.c x.2).2.1) g2 :: vec (cI .i64) s5 ((z.take i).flatMap (fun x => (NM.stepE m.c x.2).2.2) ++ (NM.stepE m.c x.2).2.2) g3 :: RefZ r.L z :: Hs) w →
        WP (pure (LS.next (s3, s4, s5, IntKind.wrap .i64 ((i : Int) + 1))) : M (LS (Sl × Sl × Sl × Int) (weirref15_Cache × Sl × Sl))) w (WP.Rd (fun x' w' => ∃ g' : Nat × List weirref15_Entry × List api_Ask × List Int, (x'.2.2.2 = (g'.1 : Int) ∧ g'.1 ≤ z.length ∧ Ss W (vec cE x'.1 (((z.take g'.1).filterMap (stepR m.c)).map (·.1)) g'.2.1 :: vec c_api_Ask x'.2.1 ((z.take g'.1).flatMap (fun x => (NM.stepE m.c x.2).2.1)) g'.2.2.1 :: vec (cI .i64) x'.2.2.1 ((z.take g'.1).flatMap (fun x => (NM.stepE m.c x.2).2.2)) g'.2.2.2 :: RefZ r.L z :: Hs) w') ∧ z.length - g'.1 < z.length - i) (fun q w' => ∃ sp1 sp2, Ss W (vec c_api_Ask q.2.1 m.tick.2.1 sp1 :: vec (cI .i64) q.2.2 m.tick.2.2 sp2 :: RefC q.1 m.tick.1 :: Hs) w')) := by
      intro s3 s4 s5 g1 g2 g3 w s
      refine WP.next ⟨(i + 1, g1, g2, g3), ⟨by rw [wrap_i64 (by omega) (by omega)]; simp, by simp only; omega, ?_⟩, by simp only; omega⟩
      rw [hfm, hfa, hfl]
      exact s
    have k1 : ∀ (b54 : Nat) w, Ss W (vec cE s3 (((z.take i).filterMap (stepR m.c)).map (·.1)) g1 :: vec c_api_Ask s4 ((z.take i).flatMap (fun x => (NM.stepE m.c x.2).2.1)) g2 :: vec (cI .i64) s5 ((z.take i).flatMap (fun x => (NM.stepE m.c x.2).2.2)) g3 :: RefZ r.L z :: Hs) w →
        WP (weirref15_Tick.K1 r s3 s4 s5 (i : Int) b54 (oldE m.c x).1) w (WP.Rd (fun x' w' => ∃ g' : Nat × List weirref15_Entry × List api_Ask × List Int, (x'.2.2.2 = (g'.1 : Int) ∧ g'.1 ≤ z.length ∧ Ss W (vec cE x'.1 (((z.take g'.1).filterMap (stepR m.c)).map (·.1)) g'.2.1 :: vec c_api_Ask x'.2.1 ((z.take g'.1).flatMap (fun x => (NM.stepE m.c x.2).2.1)) g'.2.2.1 :: vec (cI .i64) x'.2.2.1 ((z.take g'.1).flatMap (fun x => (NM.stepE m.c x.2).2.2)) g'.2.2.2 :: RefZ r.L z :: Hs) w') ∧ z.length - g'.1 < z.length - i) (fun q w' => ∃ sp1 sp2, Ss W (vec c_api_Ask q.2.1 m.tick.2.1 sp1 :: vec (cI .i64) q.2.2 m.tick.2.2 sp2 :: RefC q.1 m.tick.1 :: Hs) w')) := by
      clear s
      intro b54 w s
      have hold : ∃ o, NM.older m.c x.2 = o := ⟨_, rfl⟩
      obtain ⟨o, ho⟩ := hold
      rw [ho] at osp
      unfold weirref15_Tick.K1 oldE
      rw [ho, hc]
      simp only
      refine WP.step (R := fun y w' => y = decide (o.st = 1 ∨ o.st = 4) ∧ w = w') (WP.ite (fun h1 => WP.ret ⟨?_, rfl⟩) (fun h1 => WP.ret ⟨?_, rfl⟩)) ?_
      · exact (decide_eq_true (.inl h1)).symm
      · have h1 : ¬ o.st = 1 := h1
        show decide (o.st = 4) = _
        exact decide_eq_decide.2 ⟨.inr, fun h => h.resolve_left h1⟩
      rintro _ _ ⟨rfl, rfl⟩
      refine WP.step (R := fun y w' => y = decide ((o.st = 1 ∨ o.st = 4) ∧ o.age = m.c.Every) ∧ w = w') (WP.ite (fun h1 => WP.ret ⟨?_, rfl⟩) (fun h1 => WP.ret ⟨?_, rfl⟩)) ?_
      · have h1 := of_decide_eq_true h1
        show decide (o.age = m.c.Every) = _
        exact decide_eq_decide.2 ⟨fun h => ⟨h1, h⟩, fun h => h.2⟩
      · have h1 : ¬ (o.st = 1 ∨ o.st = 4) := fun hh => h1 (decide_eq_true hh)
        exact (decide_eq_false (fun h => h1 h.1)).symm
      rintro _ _ ⟨rfl, rfl⟩
      refine WP.step (R := fun y w' => y = decide (((o.st = 1 ∨ o.st = 4) ∧ o.age = m.c.Every) ∧ o.tries ≥ m.c.Tries) ∧ w = w') (WP.ite (fun h1 => WP.ret ⟨?_, rfl⟩) (fun h1 => WP.ret ⟨?_, rfl⟩)) ?_
      · have h1 := of_decide_eq_true h1
        exact decide_eq_decide.2 ⟨fun h => ⟨h1, h⟩, fun h => h.2⟩
      · have h1 : ¬ ((o.st = 1 ∨ o.st = 4) ∧ o.age = m.c.Every) := fun hh => h1 (decide_eq_true hh)
        exact (decide_eq_false (fun h => h1 h.1)).symm
      rintro _ _ ⟨rfl, rfl⟩
      refine WP.ite (fun hl => ?_) (fun hl => ?_)
      · obtain ⟨hd, ht⟩ := of_decide_eq_true hl
        have hst : NM.stepE m.c x.2 = (none, [], o.items) := by
          unfold NM.stepE
          simp only [ho, if_pos hd, if_neg (show ¬ o.tries < m.c.Tries by omega)]
        refine WP.appS s 3 rfl (RefZ_items hxz) (by decide) (WP.appl s 2 rfl (by omega) (by decide) (fun r2 w sp' s => hnx (g1 := g1) (g2 := g2) (g3 := sp') ?_))
        rw [show stepR m.c x = none by unfold stepR; rw [hst]; rfl, hst]
        simp only [Option.toList_none, List.append_nil]
        rw [osp.2.2.2.1]
        exact s
      · have hl : ¬ (((o.st = 1 ∨ o.st = 4) ∧ o.age = m.c.Every) ∧ o.tries ≥ m.c.Tries) := fun hh => hl (decide_eq_true hh)
        refine WP.ite (fun hd => ?_) (fun hd => ?_)
        · have hd := of_decide_eq_true hd
          have ht : o.tries < m.c.Tries := by
            rcases Int.lt_or_le o.tries m.c.Tries with h | h
            · exact h
            · exact absurd ⟨hd, h⟩ hl
          have hst : NM.stepE m.c x.2 = (some { o with age := 0, tries := o.tries + 1 }, [({ o with age := 0, tries := o.tries + 1 } : NE).ask], []) := by
            unfold NM.stepE
            simp only [ho, if_pos hd, if_pos ht]
          have ho3 := osp.2.2.1
          have hw : IntKind.wrap .i64 (o.told.Tries + 1) = o.tries + 1 := wrap_i64 (by show _ ≤ o.tries + 1; omega) (by show o.tries + 1 ≤ _; omega)
          rw [hw]
          refine WP.slot' s (fun _ w s => WP.appl s 1 rfl (by rw [List.length_singleton]; omega) (by decide) (fun r2 w sp2 s => WP.slot' s (fun _ w s => WP.appl s 0 rfl (by rw [List.length_map, List.length_singleton]; omega) (by decide) (fun r3 w sp3 s => hnx (g1 := sp3) (g2 := sp2) (g3 := g3) ?_))))
          rw [show stepR m.c x = some (⟨({ o with age := 0, tries := o.tries + 1 } : NE).told, x.1.Items⟩, { o with age := 0, tries := o.tries + 1 }) by unfold stepR; rw [hst]; rfl, hst]
          simp only [Option.toList_some, List.append_nil, List.map_append, List.map_cons, List.map_nil]
          exact s
        · have hd : ¬ ((o.st = 1 ∨ o.st = 4) ∧ o.age = m.c.Every) := fun hh => hd (decide_eq_true hh)
          have hst : NM.stepE m.c x.2 = (some o, [], []) := by
            unfold NM.stepE
            simp only [ho, if_neg hd]
          refine WP.slot' s (fun _ w s => WP.appl s 0 rfl (by rw [List.length_map, List.length_singleton]; omega) (by decide) (fun r3 w sp3 s => hnx (g1 := sp3) (g2 := g2) (g3 := g3) ?_))
          rw [show stepR m.c x = some (⟨o.told, x.1.Items⟩, o) by unfold stepR; rw [hst]; rfl, hst]
          simp only [Option.toList_some, List.append_nil, List.map_append, List.map_cons, List.map_nil]
          exact s
    refine WP.draws s (fun σ w s => WP.ite (fun _ => ?_) (fun _ => ?_))
    · refine WP.idxr s 3 rfl RefZ_rdb (by omega) (x := x.1) (by rw [Int.toNat_natCast]; exact hx1) rfl (fun a ha => ?_)
      refine WP.ldr s 3 rfl RefZ_rdb hx1 ha (by rw [Int.toNat_natCast]) ?_
      refine WP.step (older_wp s hc ok.c hN ek) ?_
      rintro _ w ⟨rfl, s⟩
      refine WP.slot' s (fun _ w s => WP.samer s 3 rfl RefZ_rdb hx1 ha (by rw [Int.toNat_natCast]) (k1 _ w s))
    · refine WP.idxr s 3 rfl RefZ_rdb (by omega) (x := x.1) (by rw [Int.toNat_natCast]; exact hx1) rfl (fun a ha => ?_)
      refine WP.ldr s 3 rfl RefZ_rdb hx1 ha (by rw [Int.toNat_natCast]) (WP.slot' s (fun _ w s => WP.samer s 3 rfl RefZ_rdb hx1 ha (by rw [Int.toNat_natCast]) ?_))
      refine WP.step (older_wp s hc ok.c hN ek) ?_
      rintro _ w ⟨rfl, s⟩
      exact k1 _ w s
  · obtain rfl : i = z.length := by omega
    rw [List.take_length] at s
    have e1 : z.flatMap (fun x => (NM.stepE m.c x.2).2.1) = m.tick.2.1 := by
      show _ = m.l.flatMap _
      rw [← hz, List.flatMap_map]
    have e2 : z.flatMap (fun x => (NM.stepE m.c x.2).2.2) = m.tick.2.2 := by
      show _ = m.l.flatMap _
      rw [← hz, List.flatMap_map]
    have e3 : (z.filterMap (stepR m.c)).map (·.2) = m.tick.1.l := by
      show _ = m.l.filterMap _
      rw [← hz, List.filterMap_map, List.map_filterMap]
      congr 1
      funext x
      simp [stepR, Function.comp_def]
    rw [e1, e2] at s
    have s1 := s.vec_freeze
    have s2 : Ss W (rdS cE false s3 ((z.filterMap (stepR m.c)).map (·.1)) :: RefZ r.L z :: vec c_api_Ask s4 m.tick.2.1 g2 :: vec (cI .i64) s5 m.tick.2.2 g3 :: Hs) w := s1.use [0, 2, 0, 0] (s := [_, _, _, _]) (r := Hs) rfl
    have s3' := s2.mkZ (fun h hh u hu => by
      obtain ⟨x, hx, hu⟩ := List.mem_filterMap.1 hu
      obtain ⟨e, he, rfl⟩ := Option.map_eq_some_iff.1 hu
      exact ⟨rfl, by
        show rdI x.1.Items e.items h
        rw [stepE_items ok.c (hek x hx) he]
        exact (hh.2 x hx).2⟩)
    have s4' := Ss.closeF (r := ⟨r.C, s3⟩) (m := m.tick.1) s3' hc e3
    exact ⟨g2, g3, s4'.use [1, 1, 0] (s := [_, _, _]) (r := Hs) rfl⟩
theorem refGet_wp (s : Ss W (RefC r m :: Hs) w) (ok : m.Ok) (port : Int) (ip : api_IP) : WP (weirref15_Get r port ip) w (fun q w' => q = m.get port ip ∧ Ss W (RefC r m :: Hs) w') := by
  unfold weirref15_Get NM.get
  refine WP.slot' s (fun _ w s => WP.slot' s (fun _ w s => WP.slot' s (fun _ w s => ?_)))
  obtain ⟨z, hc, hz, s⟩ := s.openF
  have hzl : z.length = m.l.length := by rw [← hz, List.length_map]
  have hmax := ok.n
  have hm1 := ok.c.m1
  refine WP.step (find_wp s (j := 0) rfl (by omega) port ip) ?_
  rintro _ w ⟨rfl, s⟩
  rw [hz]
  obtain ⟨hl, hcp, hrow⟩ := RefZ_len s (i := 0) rfl
  cases hf : NM.find m.l ⟨port, ip⟩ with
  | none => exact WP.ite (fun _ => WP.ret ⟨rfl, Ss.closeF s hc hz⟩) (fun h => absurd (by decide) h)
  | some i =>
    obtain ⟨e, he, hk⟩ := NM.find_some hf
    obtain ⟨x, hx, rfl, hx1, hxz⟩ := z_at hz he
    have hi := (List.getElem?_eq_some_iff.1 hx).1
    obtain ⟨hN, hIt⟩ := hrow x hxz
    refine WP.ite (fun h => absurd h (by simp only [fI]; omega)) (fun _ => ?_)
    refine WP.rdxp0 s 0 rfl RefZ_rdb (k := (i : Int)) (by omega) (x := x.1) (by rw [Int.toNat_natCast]; exact hx1) rfl (At_weirref15_Entry_N _) (WP.ret ⟨?_, Ss.closeF s hc hz⟩)
    rw [hN]
    simp only [Option.bind_some, he]
theorem refAll_wp (s : Ss W (RefC r m :: Hs) w) (ok : m.Ok) : WP (weirref15_All r) w (fun q w' => ∃ sp, Ss W (vec cN q m.all sp :: RefC r m :: Hs) w') := by
  unfold weirref15_All
  refine WP.slot' s (fun _ w s => ?_)
  obtain ⟨z, hc, hz, s⟩ := s.openF
  have hzl : z.length = m.l.length := by rw [← hz, List.length_map]
  have hmax := ok.n
  have hm1 := ok.c.m1
  obtain ⟨hl, hcp, hrow⟩ := RefZ_len s (i := 0) rfl
  refine WP.loopG (γ := Nat × List api_Neighbour) (fun g (x : Sl × Int) w => x.2 = (g.1 : Int) ∧ g.1 ≤ z.length ∧ Ss W (vec cN x.1 ((z.take g.1).map (·.2.told)) g.2 :: RefZ r.L z :: Hs) w) (fun g _ => z.length - g.1) (0, []) ⟨rfl, Nat.zero_le _, s.mk0 vec_nil⟩ ?_
  clear s
  rintro ⟨i, sp⟩ ⟨o, x2⟩ w ⟨rfl, hi, s⟩
  simp only at hi s
  show WP (weirref15_All.L1 r o (i : Int)) w _
  unfold weirref15_All.L1
  refine WP.ite (fun h => ?_) (fun h => WP.done ?_)
  · have hi2 : i < z.length := by omega
    have hx := List.getElem?_eq_getElem hi2
    generalize z[i] = x at hx
    have hxz := List.mem_of_getElem? hx
    obtain ⟨hN, hIt⟩ := hrow x hxz
    have hx1 : (z.map (·.1))[i]? = some x.1 := by rw [List.getElem?_map, hx]; rfl
    refine WP.rdxp0 s 1 rfl RefZ_rdb (by omega) (x := x.1) (by rw [Int.toNat_natCast]; exact hx1) rfl (At_weirref15_Entry_N _) (WP.slot' s (fun _ w s => WP.appl s 0 rfl (by rw [List.length_map, List.length_take, List.length_singleton]; omega) (by decide) (fun r2 w sp' s => WP.next ?_)))
    refine ⟨(i + 1, sp'), ⟨by rw [wrap_i64 (by omega) (by omega)]; simp, by simp only; omega, ?_⟩, by simp only; omega⟩
    rw [List.take_add_one, hx, List.map_append]
    rw [hN] at s
    exact s
  · obtain rfl : i = z.length := by omega
    rw [List.take_length] at s
    have hm : z.map (·.2.told) = m.all := by unfold NM.all; rw [← hz, List.map_map]; rfl
    rw [hm] at s
    exact ⟨sp, (Ss.closeF (s.perm (List.Perm.swap _ _ _)) hc hz).perm (List.Perm.swap _ _ _)⟩
theorem refWaiting_wp (s : Ss W (RefC r m :: Hs) w) (ok : m.Ok) : WP (weirref15_Waiting r) w (fun q w' => q = (m.waiting : Int) ∧ Ss W (RefC r m :: Hs) w') := by
  unfold weirref15_Waiting
  refine WP.slot' s (fun _ w s => ?_)
  obtain ⟨z, hc, hz, s⟩ := s.openF
  have hzl : z.length = m.l.length := by rw [← hz, List.length_map]
  have hmax := ok.n
  have hm1 := ok.c.m1
  obtain ⟨hl, hcp, hrow⟩ := RefZ_len s (i := 0) rfl
  have hsum : ∀ i, i ≤ z.length → ((z.take i).map (·.2.items.length)).sum ≤ 65536 := by
    intro i hi
    have h4 := sum_le (l := (z.take i).map (·.2.items.length)) (k := 64) (fun x hx => by
      obtain ⟨u, hu, rfl⟩ := List.mem_map.1 hx
      have h5 := (ok.e u.2 (by rw [← hz]; exact List.mem_map_of_mem (List.mem_of_mem_take hu))).i
      have := ok.c.l1
      omega)
    rw [List.length_map, List.length_take] at h4
    omega
  refine WP.loopG (γ := Nat) (fun i (x : Int × Int) w => x = (((((z.take i).map (·.2.items.length)).sum : Nat) : Int), (i : Int)) ∧ i ≤ z.length ∧ Ss W (RefZ r.L z :: Hs) w) (fun i _ => z.length - i) 0 ⟨rfl, Nat.zero_le _, s⟩ ?_
  clear s
  rintro i _ w ⟨rfl, hi, s⟩
  show WP (weirref15_Waiting.L1 r _ (i : Int)) w _
  unfold weirref15_Waiting.L1
  refine WP.ite (fun h => ?_) (fun h => WP.done ?_)
  · have hi2 : i < z.length := by omega
    have hx := List.getElem?_eq_getElem hi2
    generalize z[i] = x at hx
    have hxz := List.mem_of_getElem? hx
    obtain ⟨hN, hIt⟩ := hrow x hxz
    have hx1 : (z.map (·.1))[i]? = some x.1 := by rw [List.getElem?_map, hx]; rfl
    refine WP.rdxp s 0 rfl RefZ_rdb (by omega) (x := x.1) (by rw [Int.toNat_natCast]; exact hx1) rfl (At_weirref15_Entry_Items _) (WP.next ?_)
    have h1 := hsum i hi
    have h2 := hsum (i + 1) (by omega)
    rw [List.take_add_one, hx, List.map_append, List.sum_append] at h2
    simp only [Option.toList_some, List.map_cons, List.map_nil, List.sum_cons, List.sum_nil, Nat.add_zero] at h2
    refine ⟨i + 1, ⟨?_, by omega, s⟩, by omega⟩
    rw [hIt, wrap_i64 (by omega) (by omega), wrap_i64 (by omega) (by omega), List.take_add_one, hx, List.map_append, List.sum_append]
    simp
  · obtain rfl : i = z.length := by omega
    rw [List.take_length]
    refine ⟨?_, Ss.closeF s hc hz⟩
    unfold NM.waiting
    rw [← hz, List.map_map]
    rfl
end
end Go.Proofs.Ytlkhijflgbobjaa.Lx
