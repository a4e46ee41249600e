/- A side's steps: bytes written through a window, a look, the places told; a step. -/
import Derived.Test.YtoddkagehbcfjaaRingSide2
set_option linter.unusedVariables false
set_option linter.unusedSimpArgs false
namespace Go.Proofs.Ytoddkagehbcfjaa.Lx
open Go Go.Proofs Go.RowKit

theorem tmod_bound (a : Int) {n : Int} (hn : 0 < n) : -n < Int.tmod a n ∧ Int.tmod a n < n := by
  refine ⟨?_, Int.tmod_lt_of_pos a hn⟩
  by_cases h : 0 ≤ a
  · have := Int.tmod_nonneg n h
    omega
  · have := Int.tmod_lt_of_pos (-a) hn
    rw [Int.neg_tmod] at this
    omega
section
variable {W w : World} {R : List HP} {p : Option Addr} {m : RM} {ad : List (Option Addr)} {r : weirref3_Port} {T c : Nat} {sd : weirlaw3_Side}
theorem one_wp {n : Nat} (s : Ss W R w) (hn : sd.W.len = n) (h0 : 0 < n) (h1 : n ≤ 4000000000000000000) (i : Int) : WP (weirlaw3_one sd i) w (fun x w' => 0 ≤ x ∧ x < n ∧ Ss W R w') := by
  unfold weirlaw3_one
  have hb := tmod_bound i (n := (n : Int)) (by omega)
  refine WP.slot' s (fun _ w s => WP.chk (by rw [hn]; omega) ?_)
  rw [hn]
  refine WP.ite (fun h => WP.ret ?_) (fun h => WP.ret ⟨by omega, by omega, s⟩)
  rw [wrap_i64 (by omega) (by omega)]
  exact ⟨by omega, by omega, s⟩
theorem looked_wp (s : Ss W (Sd sd m c T :: R) w) (h0 : 0 < c) (h1 : c ≤ 4000000000000) (i : Int) : WP (weirlaw3_looked sd i) w (fun x w' => x = true ∧ Ss W (Sd sd m c T :: R) w') := by
  unfold weirlaw3_looked
  obtain ⟨ad, wins, spw, hw1, hw2, s⟩ := s.openS
  have ok := s.okR
  have hs1 := ok.s1
  have hwl := (s.vec_len (i := 2) rfl).1
  have key : ∀ (b : Nat) (k : Int) (w : World), 0 ≤ k → k < wins.length → ∀ x, wins[k.toNat]? = some x → Ss W (Port sd.P m ad :: RefP sd.R m T :: vec cWin sd.W wins spw :: R) w → WP (weirlaw3_looked.K1 sd b x) w (fun x w' => x = true ∧ Ss W (Sd sd m c T :: R) w') := by
    intro b k w k0 k1 x hx s
    obtain ⟨i, a, n, rfl, ha, hn, hi⟩ := hw1 x (List.mem_of_getElem? hx)
    unfold weirlaw3_looked.K1
    obtain ⟨d, hd⟩ : ∃ d, m.dat[i]? = some d := ⟨_, List.getElem?_eq_getElem hi⟩
    have hdd := ok.d _ (List.mem_of_getElem? hd)
    have rw1 : Rdb (Port sd.P m ad) (cI .u8) ⟨some a, n, n⟩ (d.take n) := Port.rdb ha hd (by omega)
    refine WP.draw' s (fun w s => WP.step (R_Bytes (s.use [1] rfl) ok hi hn) ?_)
    rintro y w ⟨sp, s⟩
    have e : m.dat.getD i [] = d := by rw [List.getD, hd]; rfl
    rw [e] at s
    have hby : Bytes (d.take n) := fun x hx => hdd.2 x (List.mem_of_mem_take hx)
    refine WP.step (alike_wp s 2 rfl rw1 1 rfl vec_rdb hby hby) ?_
    rintro _ w ⟨rfl, s⟩
    have s := (s.use [1] rfl).drop
    refine WP.ret ⟨by simp, ?_⟩
    obtain ⟨P, R', V⟩ := sd
    exact (s.use [1] rfl).closeS hw1 hw2
  refine WP.slot' s (fun _ w s => WP.draws s (fun o w s => ?_))
  refine WP.ite (fun _ => WP.step (one_wp s hwl (by omega) (by omega) i) ?_) (fun _ => WP.slot' s (fun b w s => WP.step (one_wp s hwl (by omega) (by omega) i) ?_))
  · rintro k w ⟨k0, k1, s⟩
    have hx := List.getElem?_eq_getElem (show k.toNat < wins.length by omega)
    generalize wins[k.toNat] = x at hx
    refine WP.idxr s 2 rfl vec_rdb k0 hx rfl (fun a ha => ?_)
    refine WP.ldr s 2 rfl vec_rdb hx ha rfl (WP.slot' s (fun b w s => ?_))
    exact WP.samer s 2 rfl vec_rdb hx ha rfl (key b k w k0 k1 x hx s)
  · rintro k w ⟨k0, k1, s⟩
    have hx := List.getElem?_eq_getElem (show k.toNat < wins.length by omega)
    generalize wins[k.toNat] = x at hx
    exact WP.rdx s 2 rfl vec_rdb k0 hx rfl (key b k w k0 k1 x hx s)
theorem told_wp (s : Ss W (Sd sd m c T :: R) w) : WP (weirlaw3_told sd) w (fun x w' => x = true ∧ Ss W (Sd sd m c T :: R) w') := by
  unfold weirlaw3_told
  obtain ⟨ad, wins, spw, hw1, hw2, s⟩ := s.openS
  have ok := s.okR
  have hn1 := ok.n1
  have hpl := ok.pl
  refine WP.slot' s (fun _ w s => WP.step (Places_wp s) ?_)
  intro l w s
  refine WP.step (R_Places (s.use [2] rfl) ok) ?_
  rintro l2 w ⟨sp, s⟩
  have s : Ss W (Port sd.P m ad :: RefP sd.R m T :: vec cWin sd.W wins spw :: vec (cI .i64) l m.place [] :: vec (cI .i64) l2 m.place sp :: R) w := s.use [3, 0, 2, 1] rfl
  have hl := (s.vec_len (i := 3) rfl).1
  have hl2 := (s.vec_len (i := 4) rfl).1
  refine WP.draw' s (fun w s => ?_)
  refine WP.step (R := fun y w' => y = false ∧ Ss W (Port sd.P m ad :: RefP sd.R m T :: vec cWin sd.W wins spw :: vec (cI .i64) l m.place [] :: vec (cI .i64) l2 m.place sp :: R) w') (WP.ite (fun h => absurd (by rw [hl, hl2]) h) (fun _ => WP.step (Stat_wp s) ?_)) ?_
  · rintro _ w ⟨rfl, s⟩
    refine WP.step (R_Stat (s.use [1] rfl) ok) ?_
    rintro _ w ⟨rfl, s⟩
    refine WP.ret ⟨?_, s.use [1] rfl⟩
    rw [(eqv_iff (x := statOf m.place)).2 rfl]
    rfl
  rintro _ w ⟨rfl, s⟩
  refine WP.ite (fun h => by cases h) (fun _ => ?_)
  refine WP.loop (fun (k : Int) w' => 0 ≤ k ∧ k ≤ m.place.length ∧ ∃ ys : List Int, ys.length = m.place.length ∧ (∀ j, k ≤ (j : Nat) → ys[j]? = m.place[j]?) ∧ Ss W (Port sd.P m ad :: RefP sd.R m T :: vec cWin sd.W wins spw :: vec (cI .i64) l ys [] :: vec (cI .i64) l2 m.place sp :: R) w') (fun k _ => ((m.place.length : Int) - k).toNat) ⟨by omega, by omega, m.place, rfl, fun _ _ => rfl, s⟩ ?_
  clear s
  rintro k w ⟨k0, k1, ys, hy, hyj, s⟩
  unfold weirlaw3_told.L1
  refine WP.ite (fun hk => WP.draw' s (fun w s => ?_)) (fun hk => WP.done ⟨rfl, ?_⟩)
  · rw [hl] at hk
    have hx := List.getElem?_eq_getElem (show k.toNat < m.place.length by omega)
    have hx2 : ys[k.toNat]? = some m.place[k.toNat] := by rw [hyj _ (by omega), hx]
    refine WP.rdx s 3 rfl vec_rdb k0 hx2 rfl (WP.rdx s 4 rfl vec_rdb k0 hx rfl ?_)
    refine WP.ite (fun h => absurd rfl h) (fun _ => WP.stx s 3 rfl k0 (by omega) rfl (fun w s => WP.next ?_))
    rw [wrap_i64 (by omega) (by omega)]
    refine ⟨⟨by omega, by omega, _, by rw [List.length_set]; exact hy, fun j hj => ?_, s⟩, by omega⟩
    rw [List.getElem?_set_ne (by omega)]
    exact hyj j (by omega)
  · have s := ((s.use [3, 3] rfl).drop).drop
    obtain ⟨P, R', V⟩ := sd
    exact s.closeS hw1 hw2
theorem written_wp {A : HP} {xs : List Int} (s : Ss W (Sd sd m c T :: R) w) (h0 : 0 < c) (h1 : c ≤ 4000000000000) (o : weirlaw3_Op) (j : Nat) (e : nth R j = some A) (rb : Rdb A (cI .u8) o.B xs) (hx : Bytes xs) (hl : xs.length ≤ 140737488355000) : WP (weirlaw3_written sd o) w (fun x w' => ∃ m', Akin m m' ∧ Ss W (Sd x m' c T :: R) w') := by
  unfold weirlaw3_written
  obtain ⟨P, r, V⟩ := sd
  obtain ⟨ad, wins, spw, hw1, hw2, s⟩ := s.openS
  have hwl := (s.vec_len (i := 2) rfl).1
  have hb := (s.rd_len (i := j + 3) e rb).1
  refine WP.slot' s (fun _ w s => WP.slot' s (fun _ w s => WP.slot' s (fun _ w s => WP.step (one_wp s hwl (by omega) (by omega) o.I) ?_)))
  rintro k w ⟨k0, k1, s⟩
  have hwx := List.getElem?_eq_getElem (show k.toNat < wins.length by omega)
  generalize wins[k.toNat] = x at hwx
  obtain ⟨i, a, n, rfl, ha, hn, hi⟩ := hw1 x (List.mem_of_getElem? hwx)
  refine WP.rdx s 2 rfl vec_rdb k0 hwx rfl (WP.slot' s (fun _ w s => ?_))
  refine WP.loop (fun (y : Int × weirlaw3_Side) w' => 0 ≤ y.1 ∧ y.1 ≤ xs.length ∧ ∃ m' r', y.2 = ⟨P, r', V⟩ ∧ Akin m m' ∧ Ss W (Port P m' ad :: RefP r' m' T :: vec cWin V wins spw :: R) w') (fun y _ => ((xs.length : Int) - y.1).toNat) ⟨by simp, by simp, m, r, rfl, Akin.refl m, s⟩ ?_
  clear s
  rintro ⟨q, s9⟩ w ⟨q0, q1, m', r', hs9, hak, s⟩
  simp only at q0 q1 hs9
  subst hs9
  show WP (weirlaw3_written.L1 o ⟨⟨some a, n, n⟩, (i : Int)⟩ q ⟨P, r', V⟩) w _
  unfold weirlaw3_written.L1
  have ok := s.okR
  have hs1 := ok.s1
  have hsame := hak.same
  have hi' : i < m'.n := by rw [hsame.2.2.2]; exact hi
  have hn' : n ≤ m'.size := by rw [hsame.1]; exact hn
  obtain ⟨d, hd⟩ : ∃ d, m'.dat[i]? = some d := ⟨_, List.getElem?_eq_getElem hi'⟩
  have hdd := ok.d _ (List.mem_of_getElem? hd)
  refine WP.ite (fun hq => ?_) (fun hq => ?_)
  · rw [hb] at hq
    have hxx := List.getElem?_eq_getElem (show q.toNat < xs.length by omega)
    have hxv := hx _ (List.getElem_mem (show q.toNat < xs.length by omega))
    generalize xs[q.toNat] = v at hxx hxv
    generalize IntKind.wrap .i64 (o.N + q) = at_
    refine WP.step (R := fun y w' => y = decide (at_ ≥ 0 ∧ at_ < n) ∧ w = w') (WP.ite (fun h => WP.ret ⟨?_, rfl⟩) (fun h => WP.ret ⟨by simp [h], rfl⟩)) ?_
    · refine decide_eq_decide.2 ?_
      constructor
      · intro h2
        exact ⟨h, h2⟩
      · intro h2
        exact h2.2
    rintro _ _ ⟨rfl, rfl⟩
    refine WP.ite (fun h => WP.draw' s (fun w s => ?_)) (fun h => WP.next ?_)
    · obtain ⟨h2, h3⟩ := of_decide_eq_true h
      refine WP.rdx s (j + 3) e rb q0 hxx rfl ?_
      refine WP.stwin (n := n) s ha hd h2 h3 (by omega) hxv (fun w s => WP.draw' s (fun w s => ?_))
      refine WP.rdx s (j + 3) e rb q0 hxx rfl ?_
      obtain ⟨k2, rfl⟩ : ∃ k : Nat, at_ = k := ⟨at_.toNat, by omega⟩
      rw [Int.toNat_natCast] at s
      refine WP.step (R_Write (s.use [1] rfl) ok hi' (k := k2) (by omega) v) ?_
      intro r2 w s
      have ed : m'.dat.getD i [] = d := by rw [List.getD, hd]; rfl
      rw [ed] at s
      refine WP.next ?_
      rw [wrap_i64 (by omega) (by omega)]
      exact ⟨⟨by simp only; omega, by simp only; omega, _, r2, rfl, hak.trans (Akin.setd m' i _), s.use [1] rfl⟩, by simp only; omega⟩
    · rw [wrap_i64 (by omega) (by omega)]
      exact ⟨⟨by simp only; omega, by simp only; omega, m', r', rfl, hak, s⟩, by simp only; omega⟩
  · refine WP.step (R := fun x w' => ∃ m', Akin m m' ∧ Ss W (Sd x m' c T :: R) w') ?_ (fun r w h => WP.done h)
    unfold weirlaw3_written.K1
    have rw1 : Rdb (Port P m' ad) (cI .u8) ⟨some a, n, n⟩ (d.take n) := Port.rdb ha hd (by omega)
    have hln : (d.take n).length = n := by rw [List.length_take]; omega
    refine WP.slot' s (fun _ w s => ?_)
    refine WP.applR (l := d.take n) s 0 rfl rw1 (by rw [hln]; simp) (by rw [hln]; simp only [List.length_cons, List.length_nil]; omega) (by decide) (by decide) (fun g w spg s => ?_)
    have hg := (s.vec_len (i := 0) rfl).1
    simp only [List.length_append, hln, List.length_cons, List.length_nil] at hg
    have fin : ∀ {w : World}, Ss W (Port P m' ad :: RefP r' m' T :: vec cWin V wins spw :: R) w → ∃ m', Akin m m' ∧ Ss W (Sd ⟨P, r', V⟩ m' c T :: R) w := fun s => ⟨m', hak, s.closeS (fun x hx => (hw1 x hx).more hsame (Ext.refl _)) hw2⟩
    refine WP.ite (fun _ => ?_) (fun h => by omega)
    rw [hg, wrap_i64 (by omega) (by omega)]
    rw [← hg]
    refine WP.stx s 0 rfl (by omega) (by simp only [List.length_append, hln, List.length_cons, List.length_nil]; omega) rfl (fun w s => WP.ret (fin s.drop))
theorem step_wp {A : HP} {xs : List Int} (s : Ss W (Sd sd m c T :: R) w) (hT : T + 8192 ≤ big) (hc : c ≤ 4000000000000) (o : weirlaw3_Op) (j : Nat) (e : nth R j = some A) (rb : Rdb A (cI .u8) o.B xs) (hx : Bytes xs) (hl : xs.length ≤ 140737488355000) : WP (weirlaw3_step sd o) w (fun x w' => x.2 = true ∧ ∃ m', Akin (m.next o.Kind o.I o.N xs).1 m' ∧ Ss W (Sd x.1 m' (c + (m.next o.Kind o.I o.N xs).2) (T + 8192) :: R) w') := by
  unfold weirlaw3_step
  refine WP.slot' s (fun _ w s => WP.slot' s (fun _ w s => WP.slot' s (fun _ w s => ?_)))
  refine WP.ite (fun h2 => WP.step (arrived_wp s hT j e rb hx hl) ?_) (fun h2 => ?_)
  · rintro x w ⟨h, s⟩
    have en : m.next o.Kind o.I o.N xs = ((m.arrive xs).1, 0) := by unfold RM.next; rw [h2]; simp
    rw [en]
    exact WP.ret ⟨h, _, Akin.refl _, s⟩
  have ans : ∀ {w : World}, Ss W (Sd sd m c T :: R) w → (o.Kind = 3 ∨ o.Kind = 4 ∨ o.Kind = 5) → WP (weirlaw3_step.K4 sd o true) w (fun x w' => x.2 = true ∧ ∃ m', Akin (m.next o.Kind o.I o.N xs).1 m' ∧ Ss W (Sd x.1 m' (c + (m.next o.Kind o.I o.N xs).2) (T + 8192) :: R) w') := by
    intro w s hk
    unfold weirlaw3_step.K4
    refine WP.ite (fun _ => WP.step (answered_wp s hT hc o xs hk) ?_) (fun h => absurd rfl h)
    rintro x w ⟨h, s⟩
    exact WP.ret ⟨h, _, Akin.refl _, s⟩
  have mov : ∀ {w : World}, Ss W (Sd sd m c T :: R) w → (o.Kind = 1 ∨ o.Kind = 6 ∨ o.Kind = 7 ∨ o.Kind = 8) → WP (weirlaw3_step.K1 sd o true) w (fun x w' => x.2 = true ∧ ∃ m', Akin (m.next o.Kind o.I o.N xs).1 m' ∧ Ss W (Sd x.1 m' (c + (m.next o.Kind o.I o.N xs).2) (T + 8192) :: R) w') := by
    intro w s hk
    unfold weirlaw3_step.K1
    refine WP.ite (fun _ => WP.step (smoved_wp s hT o xs hk) ?_) (fun h => absurd rfl h)
    rintro x w ⟨h, s⟩
    exact WP.ret ⟨h, _, Akin.refl _, s⟩
  have rest : ∀ {w : World}, Ss W (Sd sd m c T :: R) w → ¬ (o.Kind = 1 ∨ o.Kind = 2 ∨ o.Kind = 3 ∨ o.Kind = 4 ∨ o.Kind = 5 ∨ o.Kind = 6 ∨ o.Kind = 7 ∨ o.Kind = 8) → WP (weirlaw3_step.K1 sd o false) w (fun x w' => x.2 = true ∧ ∃ m', Akin (m.next o.Kind o.I o.N xs).1 m' ∧ Ss W (Sd x.1 m' (c + (m.next o.Kind o.I o.N xs).2) (T + 8192) :: R) w') := by
    intro w s hk
    have en : m.next o.Kind o.I o.N xs = (m, 0) := by
      unfold RM.next
      rw [if_neg (by omega), if_neg (by omega), if_neg (by omega), if_neg (by omega), if_neg (by omega), if_neg (by omega), if_neg (by omega), if_neg (by omega)]
    rw [en]
    have hwl : sd.W.len = c := by
      obtain ⟨ad, wins, spw, hw1, hw2, s⟩ := s.openS
      rw [(s.vec_len (i := 2) rfl).1, hw2]
    unfold weirlaw3_step.K1
    refine WP.ite (fun h => by cases h) (fun _ => WP.ite (fun h9 => WP.step (told_wp s) ?_) (fun h9 => WP.ite (fun h10 => ?_) (fun h10 => WP.ite (fun h11 => ?_) (fun h11 => WP.ret ⟨rfl, m, Akin.refl _, s.moreS (by omega)⟩))))
    · rintro _ w ⟨rfl, s⟩
      exact WP.ret ⟨rfl, m, Akin.refl _, s.moreS (by omega)⟩
    · refine WP.ite (fun h => WP.step (written_wp s (by omega) hc o j e rb hx hl) ?_) (fun h => WP.ret ⟨rfl, m, Akin.refl _, s.moreS (by omega)⟩)
      rintro x w ⟨m', ha, s⟩
      exact WP.ret ⟨rfl, m', ha, s.moreS (by omega)⟩
    · refine WP.step (R := fun y w' => y = true ∧ Ss W (Sd sd m c T :: R) w') (WP.ite (fun _ => WP.ret ⟨rfl, s⟩) (fun h => WP.step (looked_wp s (by omega) hc o.I) ?_)) ?_
      · rintro _ w ⟨rfl, s⟩
        exact WP.ret ⟨rfl, s⟩
      rintro _ w ⟨rfl, s⟩
      exact WP.ret ⟨rfl, m, Akin.refl _, s.moreS (by omega)⟩
  have k4 : ∀ {w : World}, Ss W (Sd sd m c T :: R) w → ¬ (o.Kind = 2 ∨ o.Kind = 3 ∨ o.Kind = 4 ∨ o.Kind = 5) → WP (weirlaw3_step.K4 sd o false) w (fun x w' => x.2 = true ∧ ∃ m', Akin (m.next o.Kind o.I o.N xs).1 m' ∧ Ss W (Sd x.1 m' (c + (m.next o.Kind o.I o.N xs).2) (T + 8192) :: R) w') := by
    intro w s hk
    unfold weirlaw3_step.K4
    refine WP.ite (fun h => by cases h) (fun _ => WP.ite (fun h => ?_) (fun h1 => WP.ite (fun h => ?_) (fun h6 => WP.ite (fun h => ?_) (fun h7 => ?_))))
    · rw [h, show ((1 : Int) == 1) = true from rfl, ← h]
      exact mov s (by omega)
    · unfold weirlaw3_step.K2
      rw [h, show ((6 : Int) == 6) = true from rfl, ← h]
      exact mov s (by omega)
    · unfold weirlaw3_step.K3 weirlaw3_step.K2
      rw [h, show ((7 : Int) == 7) = true from rfl, ← h]
      exact mov s (by omega)
    · unfold weirlaw3_step.K3 weirlaw3_step.K2
      by_cases h8 : o.Kind = 8
      · rw [h8, show ((8 : Int) == 8) = true from rfl, ← h8]
        exact mov s (by omega)
      · rw [show (o.Kind == 8) = false from by simpa using h8]
        exact rest s (by omega)
  refine WP.ite (fun h3 => ?_) (fun h3 => WP.ite (fun h4 => ?_) (fun h4 => ?_))
  · rw [h3, show ((3 : Int) == 3) = true from rfl, ← h3]
    exact ans s (by omega)
  · unfold weirlaw3_step.K5
    rw [h4, show ((4 : Int) == 4) = true from rfl, ← h4]
    exact ans s (by omega)
  · unfold weirlaw3_step.K5
    by_cases h5 : o.Kind = 5
    · rw [h5, show ((5 : Int) == 5) = true from rfl, ← h5]
      exact ans s (by omega)
    · rw [show (o.Kind == 5) = false from by simpa using h5]
      exact k4 s (by omega)
end
end Go.Proofs.Ytoddkagehbcfjaa.Lx
