/- The document's answer of layer 15, of its programs in the M-world: Want, Learn, and what asks. -/
import Derived.Test.YtlkhijflgbobjaaNeighRef2
set_option linter.unusedVariables false
set_option linter.unusedSimpArgs false
namespace Go.Proofs.Ytlkhijflgbobjaa.Lx
open Go Go.Proofs Go.RowKit
section
variable {W w : World} {Hs : List HP} {r : weirref15_Cache} {m : NM} {L : Sl} {z z' : List (weirref15_Entry × NE)}
theorem Ss.mkZ2 {r I : Sl} {xs : List Int} (s : Ss W (rdS cE false r (z'.map (·.1)) :: rdI I xs :: RefZ L z :: Hs) w) (x : weirref15_Entry × NE) (hx : x.1.N = x.2.told) (hI : x.1.Items = I) (hxs : x.2.items = xs) (hz : ∀ y ∈ z', y ∈ z ∨ y = x) : Ss W (RefZ r z' :: Hs) w := by
  have s1 : Ss W (rdI I xs :: RefZ L z :: rdS cE false r (z'.map (·.1)) :: Hs) w := s.use [1, 1, 0] (s := [_, _, _]) (r := Hs) rfl
  have s2 := s1.merge (C := fun h => rowE x h ∧ ∀ y ∈ z, rowE y h) (fun h1 h2 h l1 l2 a b => ⟨rowE_up l1 ⟨hx, by rw [hI, hxs]; exact a⟩, fun y hy => rowE_up l2 (b.2 y hy)⟩)
  refine (s2.perm (List.Perm.swap _ _ _)).mkZ (fun h hh y hy => ?_)
  rcases hz y hy with h' | rfl
  · exact hh.2 y h'
  · exact hh.1
theorem Ss.mkZset {r : Sl} (s : Ss W (rdS cE false r (z'.map (·.1)) :: RefZ L z :: Hs) w) {x y : weirref15_Entry × NE} (hx : x ∈ z) (hy : y.1.N = y.2.told) (hI : y.1.Items = x.1.Items) (hxs : y.2.items = x.2.items) (hz : ∀ u ∈ z', u ∈ z ∨ u = y) : Ss W (RefZ r z' :: Hs) w := by
  refine s.mkZ (fun h hh u hu => ?_)
  rcases hz u hu with h' | rfl
  · exact hh.2 u h'
  · exact ⟨hy, by rw [hI, hxs]; exact (hh.2 x hx).2⟩
theorem ins_map {x : weirref15_Entry × NE} {l : List NE} (hz : z.map (·.2) = l) : (z.take (NM.insAt (z.map (·.2)) x.2.k) ++ x :: z.drop (NM.insAt (z.map (·.2)) x.2.k)).map (·.2) = NM.ins l x.2 := by
  unfold NM.ins
  rw [List.map_append, List.map_cons, List.map_take, List.map_drop, hz]
theorem ins_in {x y : weirref15_Entry × NE} {n : Nat} (h : y ∈ z.take n ++ x :: z.drop n) : y ∈ z ∨ y = x := by
  rcases List.mem_append.1 h with h | h
  · exact .inl (List.mem_of_mem_take h)
  · rcases List.mem_cons.1 h with h | h
    · exact .inr h
    · exact .inl (List.mem_of_mem_drop h)
theorem refGuard_wp {w : World} (s : Ss W Hs w) (port : Int) (ip : api_IP) : WP (weirref15_address ip >>= fun r6 => (if ¬ (r6 = true) then pure true else weirref15_out port 0 7 >>= fun r7 => pure r7)) w (fun y w' => y = decide (placeB port ip = false) ∧ Ss W Hs w') := by
  refine WP.step (refAddr_wp s ip) ?_
  rintro _ w ⟨rfl, s⟩
  unfold placeB
  refine WP.ite (fun h => WP.ret ⟨?_, s⟩) (fun h => WP.step (out_wp _ _ _) ?_)
  · have h : addrB ip = false := by simpa using h
    rw [h]
    simp
  · rintro _ _ ⟨rfl, rfl⟩
    have h : addrB ip = true := by simpa using h
    rw [h, Bool.and_true]
    refine WP.ret ⟨decide_eq_decide.2 ?_, s⟩
    rw [Bool.and_eq_false_iff, decide_eq_false_iff_not, decide_eq_false_iff_not]
    omega
theorem bind_asc {α β γ : Type} {x : M α} {f : α → M β} {g : β → M γ} {w : World} {Q : γ → World → Prop} (h : WP ((x >>= f) >>= g) w Q) : WP (x >>= fun a => f a >>= g) w Q := by
  rw [← bind_assoc']
  exact h
theorem z_at (hz : z.map (·.2) = m.l) {i : Nat} {e : NE} (h : m.l[i]? = some e) : ∃ x, z[i]? = some x ∧ x.2 = e ∧ (z.map (·.1))[i]? = some x.1 ∧ x ∈ z := by
  rw [← hz, List.getElem?_map] at h
  obtain ⟨x, hx, rfl⟩ := Option.map_eq_some_iff.1 h
  exact ⟨x, hx, rfl, by rw [List.getElem?_map, hx]; rfl, List.mem_of_getElem? hx⟩
theorem set_in {x y : weirref15_Entry × NE} {i : Nat} (h : y ∈ z.set i x) : y ∈ z ∨ y = x := List.mem_or_eq_of_mem_set h
theorem refWant_wp (s : Ss W (RefC r m :: Hs) w) (ok : m.Ok) (port : Int) (ip : api_IP) (item : Int) : WP (weirref15_Want r port ip item) w (fun q w' => q.2 = (m.want port ip item).2 ∧ Ss W (RefC q.1 (m.want port ip item).1 :: Hs) w') := by
  unfold weirref15_Want NM.want
  refine WP.slot' s (fun _ w s => WP.slot' s (fun _ w s => WP.slot' s (fun _ w s => WP.slot' s (fun _ w s => WP.slot' s (fun _ w s => ?_)))))
  refine bind_asc (WP.step (refGuard_wp s port ip) ?_)
  rintro _ w ⟨rfl, s⟩
  refine WP.ite (fun h => ?_) (fun h => ?_)
  · have h := of_decide_eq_true h
    simp only [if_pos h]
    exact WP.draw' s (fun w s => WP.ret ⟨rfl, s⟩)
  have h : ¬ placeB port ip = false := fun hh => h (decide_eq_true hh)
  simp only [if_neg h]
  obtain ⟨z, hc, hz, s⟩ := s.openF
  have hzl : z.length = m.l.length := by rw [← hz, List.length_map]
  have hmax := ok.n
  have hm1 := ok.c.m1
  have hl1 := ok.c.l1
  refine WP.step (find_wp s (j := 0) rfl (by omega) port ip) ?_
  rintro _ w ⟨rfl, s⟩
  rw [hz]
  obtain ⟨hl, hcp, hrow⟩ := RefZ_len s (i := 0) rfl
  cases hf : NM.find m.l ⟨port, ip⟩ with
  | none =>
    simp only
    refine WP.ite (fun _ => ?_) (fun h => absurd (by decide) h)
    refine WP.step (refRoom_wp s (j := 0) rfl ok hc hz) ?_
    rintro q w (⟨hq, hqc, m', z', hr, hz', hsub, s⟩ | ⟨hq, hr, s⟩)
    · refine WP.slot' s (fun _ w s => WP.ite (fun h => absurd hq h) (fun _ => ?_))
      simp only [hr]
      have hzl' : z'.length ≤ 1024 := by
        have h1 := (NM.room_spec ok hr).2.2.1
        have : z'.length = m'.l.length := by rw [← hz', List.length_map]
        omega
      have s := s.mkZ (fun h hh x hx => hh.2 x (hsub x hx))
      refine WP.newv s (fun b w s => ?_)
      have s := (s.first (B := vec (cI .i64) ⟨some (pt b 0), 1, 1⟩ [item] []) (fun h hp => ⟨rfl, rfl, hp⟩)).vec_freeze
      let n : NE := ⟨⟨port, ip⟩, zm, 1, 0, 1, [item]⟩
      let x : weirref15_Entry × NE := (⟨⟨port, ip, z_api_Neighbour.Mac, 1, z_api_Neighbour.Age, 1, 1⟩, ⟨some (pt b 0), 1, 1⟩⟩, n)
      refine WP.step (with_wp s (j := 1) rfl hzl' x rfl) (fun r2 w s => WP.draw' s (fun w s => WP.ret ⟨rfl, ?_⟩))
      have s2 := Ss.mkZ2 s x rfl rfl rfl (fun y hy => ins_in hy)
      exact Ss.closeF (r := ⟨q.1.C, r2⟩) s2 (by rw [← (NM.room_spec ok hr).2.1] at hc; exact hqc.trans hc) (ins_map hz')
    · refine WP.slot' s (fun _ w s => WP.ite (fun _ => ?_) (fun h => absurd (by rw [hq]; decide) h))
      simp only [hr]
      exact WP.draw' s (fun w s => WP.ret ⟨rfl, Ss.closeF s hc hz⟩)
  | some i =>
    obtain ⟨e, he, hk⟩ := NM.find_some hf
    simp only [he]
    obtain ⟨x, hx, rfl, hx1, hxz⟩ := z_at hz he
    have hi := (List.getElem?_eq_some_iff.1 hx).1
    obtain ⟨hN, hIt⟩ := hrow x hxz
    have ek := ok.e x.2 (List.mem_of_getElem? he)
    refine WP.ite (fun h => absurd h (by simp only [fI]; omega)) (fun _ => ?_)
    refine WP.rdx s 0 rfl RefZ_rdb (k := (i : Int)) (by omega) (x := x.1) (by rw [Int.toNat_natCast]; exact hx1) rfl (WP.slot' s (fun _ w s => ?_))
    have hst : x.1.N.State = x.2.st := by rw [hN]; rfl
    have k1 : ∀ (j23 : Bool) w, (j23 = true ↔ (x.2.st = 2 ∨ x.2.st = 4)) → Ss W (RefZ r.L z :: Hs) w → WP (weirref15_Want.K1 r item (i : Int) x.1 j23) w (fun q w' => q.2 = (if x.2.st = 3 then (m.put i { x.2 with st := 4, age := 0, tries := 1 }, x.2.mac, (2 : Int), (0 : Int)) else if x.2.st ≠ 1 then (m, x.2.mac, 1, 0) else if (x.2.items.length : Int) = m.c.Line then (m, zm, 5, 152) else (m.put i { x.2 with items := x.2.items ++ [item] }, zm, 4, 0)).2 ∧ Ss W (RefC q.1 (if x.2.st = 3 then (m.put i { x.2 with st := 4, age := 0, tries := 1 }, x.2.mac, (2 : Int), (0 : Int)) else if x.2.st ≠ 1 then (m, x.2.mac, 1, 0) else if (x.2.items.length : Int) = m.c.Line then (m, zm, 5, 152) else (m.put i { x.2 with items := x.2.items ++ [item] }, zm, 4, 0)).1 :: Hs) w') := by
      clear s
      intro j w hj s
      unfold weirref15_Want.K1
      refine WP.ite (fun hh => ?_) (fun hh => ?_)
      · have h24 := hj.1 hh
        simp only [if_neg (show ¬ x.2.st = 3 by omega), if_pos (show x.2.st ≠ 1 by omega)]
        exact WP.draw' s (fun w s => WP.ret ⟨by rw [hN]; rfl, Ss.closeF s hc hz⟩)
      · have h24 : ¬ (x.2.st = 2 ∨ x.2.st = 4) := fun h => hh (hj.2 h)
        rw [hst]
        refine WP.ite (fun h3 => ?_) (fun h3 => ?_)
        · simp only [if_pos h3]
          let y : weirref15_Entry × NE := (⟨⟨x.1.N.Port, x.1.N.IP, x.1.N.Mac, 4, 0, 1, x.1.N.Waiting⟩, x.1.Items⟩, { x.2 with st := 4, age := 0, tries := 1 })
          refine WP.step (put_wp s (j := 0) rfl (by omega) hi y) (fun r2 w s => WP.draw' s (fun w s => WP.ret ⟨by rw [hN]; rfl, ?_⟩))
          have s2 := Ss.mkZset s (y := y) hxz (by show (⟨x.1.N.Port, x.1.N.IP, x.1.N.Mac, 4, 0, 1, x.1.N.Waiting⟩ : api_Neighbour) = _; rw [hN]; rfl) rfl rfl (fun u hu => set_in hu)
          exact Ss.closeF (r := ⟨r.C, r2⟩) (m := m.put i { x.2 with st := 4, age := 0, tries := 1 }) s2 hc (by rw [List.map_set, hz]; rfl)
        · have h1 : x.2.st = 1 := by have := ek.s0; have := ek.s1; omega
          simp only [if_neg h3, if_neg (show ¬ x.2.st ≠ 1 by omega)]
          rw [hIt, hc]
          have hle := ek.i
          refine WP.ite (fun hL => ?_) (fun hL => ?_)
          · simp only [if_pos (show (x.2.items.length : Int) = m.c.Line by omega)]
            exact WP.draw' s (fun w s => WP.ret ⟨rfl, Ss.closeF s hc hz⟩)
          · simp only [if_neg (show ¬ (x.2.items.length : Int) = m.c.Line by omega)]
            refine WP.appS s 0 rfl (RefZ_items hxz) (by decide) (WP.appl0 s (by omega) (by decide) (fun r1 w sp s => WP.slot' s (fun _ w s => WP.appl s 0 rfl (by rw [List.length_singleton]; omega) (by decide) (fun r2 w sp s => ?_))))
            have hlen := (s.vec_len (i := 0) rfl).1
            have s := Ss.vec_freeze (xs := x.2.items ++ [item]) s
            let y : weirref15_Entry × NE := (⟨⟨x.1.N.Port, x.1.N.IP, x.1.N.Mac, x.2.st, x.1.N.Age, x.1.N.Tries, (r2.len : Int)⟩, r2⟩, { x.2 with items := x.2.items ++ [item] })
            have key := put_wp s (j := 1) rfl (by omega) hi y
            refine WP.step key (fun r3 w s => ?_)
            refine WP.draw' s (fun w s => WP.ret ⟨rfl, ?_⟩)
            have s2 := Ss.mkZ2 s y (by show (⟨x.1.N.Port, x.1.N.IP, x.1.N.Mac, x.2.st, x.1.N.Age, x.1.N.Tries, (r2.len : Int)⟩ : api_Neighbour) = _; rw [hN, hlen]; rfl) rfl rfl (fun u hu => set_in hu)
            exact Ss.closeF (r := ⟨m.c, r3⟩) (m := m.put i { x.2 with items := x.2.items ++ [item] }) s2 rfl (by rw [List.map_set, hz]; rfl)
    rw [hst]
    refine WP.ite (fun h2 => k1 _ w (by simp [h2]) s) (fun h2 => k1 _ w (by simp [h2]) s)
theorem refLearn_wp (s : Ss W (RefC r m :: Hs) w) (ok : m.Ok) (port : Int) (ip : api_IP) (mac : Vec Int 6) (hm : Bts mac.l) (how : Int) : WP (weirref15_Learn r port ip mac how) w (fun q w' => q.2.2 = (m.learn port ip mac how).2.2 ∧ Ss W (rdI q.2.1 (m.learn port ip mac how).2.1 :: RefC q.1 (m.learn port ip mac how).1 :: Hs) w') := by
  unfold weirref15_Learn NM.learn
  refine WP.slot' s (fun _ w s => WP.slot' s (fun _ w s => WP.slot' s (fun _ w s => WP.slot' s (fun _ w s => WP.slot' s (fun _ w s => ?_)))))
  refine bind_asc (WP.step (refGuard_wp s port ip) ?_)
  rintro _ w ⟨rfl, s⟩
  have hg := g0_bts hm (by decide)
  have hstat : stationB mac = false ↔ (mac = zm ∨ (mac.g 0 0).tmod 2 = 1) := by
    unfold stationB
    rw [Bool.and_eq_false_iff, decide_eq_false_iff_not, decide_eq_false_iff_not, Int.tmod_eq_emod_of_nonneg hg.1]
    constructor
    · rintro (h | h)
      · exact .inl (Decidable.not_not.1 h)
      · exact .inr (by omega)
    · rintro (h | h)
      · exact .inl (fun hh => hh h)
      · exact .inr (by omega)
  refine WP.step (R := fun y w' => y = decide (placeB port ip = false ∨ mac = zm) ∧ w = w') (WP.ite (fun h => WP.ret ⟨?_, rfl⟩) (fun h => WP.ret ⟨?_, rfl⟩)) ?_
  · exact (decide_eq_true (.inl (of_decide_eq_true h))).symm
  · have h : ¬ placeB port ip = false := fun hh => h (decide_eq_true hh)
    refine eqv_of ?_
    rw [decide_eq_true_eq]
    exact ⟨fun hh => hh.resolve_left h, .inr⟩
  rintro _ _ ⟨rfl, rfl⟩
  refine WP.step (R := fun y w' => y = decide (placeB port ip = false ∨ stationB mac = false) ∧ w = w') (WP.ite (fun h => WP.ret ⟨?_, rfl⟩) (fun h => WP.ret ⟨?_, rfl⟩)) ?_
  · have h := of_decide_eq_true h
    exact (decide_eq_true (h.imp (fun h => h) (fun h => hstat.2 (.inl h)))).symm
  · have h : ¬ (placeB port ip = false ∨ mac = zm) := fun hh => h (decide_eq_true hh)
    show decide ((mac.g 0 0).tmod 2 = 1) = _
    refine decide_eq_decide.2 ⟨fun hh => .inr (hstat.2 (.inr hh)), fun hh => ?_⟩
    rcases hh with hh | hh
    · exact absurd (.inl hh) h
    · exact (hstat.1 hh).resolve_left (fun h' => h (.inr h'))
  rintro _ _ ⟨rfl, rfl⟩
  refine WP.step (orRef_wp _ _ _) ?_
  rintro _ _ ⟨rfl, rfl⟩
  refine WP.ite (fun h => ?_) (fun h => ?_)
  · have h := of_decide_eq_true h
    rw [or_assoc] at h
    simp only [if_pos h]
    exact WP.ret ⟨rfl, s.mk0 rdS_nil⟩
  have h : ¬ (placeB port ip = false ∨ stationB mac = false ∨ how < 1 ∨ how > 3) := fun hh => h (decide_eq_true (or_assoc.2 hh))
  simp only [if_neg h]
  obtain ⟨z, hc, hz, s⟩ := s.openF
  have hzl : z.length = m.l.length := by rw [← hz, List.length_map]
  have hmax := ok.n
  have hm1 := ok.c.m1
  refine WP.step (find_wp s (j := 0) rfl (by omega) port ip) ?_
  rintro _ w ⟨rfl, s⟩
  rw [hz]
  obtain ⟨hl, hcp, hrow⟩ := RefZ_len s (i := 0) rfl
  cases hf : NM.find m.l ⟨port, ip⟩ with
  | none =>
    simp only
    refine WP.ite (fun _ => ?_) (fun h => absurd (by decide) h)
    refine WP.ite (fun h2 => ?_) (fun h2 => ?_)
    · simp only [if_pos h2]
      exact WP.ret ⟨rfl, (Ss.closeF s hc hz).mk0 rdS_nil⟩
    simp only [if_neg h2]
    refine WP.step (refRoom_wp s (j := 0) rfl ok hc hz) ?_
    rintro q w (⟨hq, hqc, m', z', hr, hz', hsub, s⟩ | ⟨hq, hr, s⟩)
    · refine WP.slot' s (fun _ w s => WP.ite (fun h => absurd hq h) (fun _ => ?_))
      simp only [hr]
      have hzl' : z'.length ≤ 1024 := by
        have h1 := (NM.room_spec ok hr).2.2.1
        have : z'.length = m'.l.length := by rw [← hz', List.length_map]
        omega
      have s := (s.mkZ (fun h hh x hx => hh.2 x (hsub x hx))).mk0 (A := rdI Sl.nil []) rdS_nil
      let n : NE := ⟨⟨port, ip⟩, mac, 3, 0, 0, []⟩
      let x : weirref15_Entry × NE := (⟨⟨port, ip, mac, 3, z_api_Neighbour.Age, z_api_Neighbour.Tries, z_api_Neighbour.Waiting⟩, z_weirref15_Entry.Items⟩, n)
      refine WP.step (with_wp s (j := 1) rfl hzl' x rfl) (fun r2 w s => WP.ret ⟨rfl, ?_⟩)
      have s2 := Ss.mkZ2 s x rfl rfl rfl (fun y hy => ins_in hy)
      exact (Ss.closeF (r := ⟨q.1.C, r2⟩) (m := { m' with l := NM.ins m'.l n }) s2 (by rw [← (NM.room_spec ok hr).2.1] at hc; exact hqc.trans hc) (ins_map hz')).mk0 rdS_nil
    · refine WP.slot' s (fun _ w s => WP.ite (fun _ => ?_) (fun h => absurd (by rw [hq]; decide) h))
      simp only [hr]
      exact WP.ret ⟨rfl, (Ss.closeF s hc hz).mk0 rdS_nil⟩
  | some i =>
    obtain ⟨e, he, hk⟩ := NM.find_some hf
    simp only [he]
    obtain ⟨x, hx, rfl, hx1, hxz⟩ := z_at hz he
    have hi := (List.getElem?_eq_some_iff.1 hx).1
    obtain ⟨hN, hIt⟩ := hrow x hxz
    have ek := ok.e x.2 (List.mem_of_getElem? he)
    refine WP.ite (fun h => absurd h (by simp only [fI]; omega)) (fun _ => ?_)
    refine WP.rdx s 0 rfl RefZ_rdb (k := (i : Int)) (by omega) (x := x.1) (by rw [Int.toNat_natCast]; exact hx1) rfl (WP.slot' s (fun _ w s => ?_))
    have hst : x.1.N.State = x.2.st := by rw [hN]; rfl
    have hmc : x.1.N.Mac = x.2.mac := by rw [hN]; rfl
    rw [hst, hmc]
    refine WP.step (R := fun y w' => y = decide (how ≠ 1 ∧ x.2.st ≠ 1) ∧ w = w') (WP.ite (fun h1 => WP.ret ⟨?_, rfl⟩) (fun h1 => WP.ret ⟨?_, rfl⟩)) ?_
    · by_cases h : x.2.st = 1 <;> simp [h, h1]
    · exact (decide_eq_false (fun h => h1 h.1)).symm
    rintro _ _ ⟨rfl, rfl⟩
    refine WP.step (R := fun y w' => (y = true ↔ ((how ≠ 1 ∧ x.2.st ≠ 1) ∧ x.2.mac = mac)) ∧ w = w') (WP.ite (fun h1 => WP.ret ⟨?_, rfl⟩) (fun h1 => WP.ret ⟨?_, rfl⟩)) ?_
    · have h1 := of_decide_eq_true h1
      rw [eqv_true]
      exact ⟨fun h => ⟨h1, h⟩, fun h => h.2⟩
    · have h1 : ¬ (how ≠ 1 ∧ x.2.st ≠ 1) := fun hh => h1 (decide_eq_true hh)
      exact ⟨fun h => (by cases h), fun h => absurd h.1 h1⟩
    rintro y _ ⟨hy, rfl⟩
    refine WP.ite (fun hh => ?_) (fun hh => ?_)
    · obtain ⟨⟨g1, g2⟩, g3⟩ := hy.1 hh
      simp only [if_neg g1, if_neg (show ¬ (x.2.st = 1 ∨ x.2.mac ≠ mac) from fun h => h.elim g2 (fun h => h g3))]
      exact WP.ret ⟨rfl, (Ss.closeF s hc hz).mk0 rdS_nil⟩
    · have hh : ¬ ((how ≠ 1 ∧ x.2.st ≠ 1) ∧ x.2.mac = mac) := fun h => hh (hy.2 h)
      have fin : ∀ {w : World} (st : Int), Ss W (RefZ r.L z :: Hs) w → WP (weirref15_Learn.K1 r (i : Int) x.1 ⟨⟨port, ip, mac, st, z_api_Neighbour.Age, z_api_Neighbour.Tries, z_api_Neighbour.Waiting⟩, Sl.nil⟩) w (fun q w' => q.2.2 = 0 ∧ Ss W (rdI q.2.1 x.2.items :: RefC q.1 (m.put i ⟨x.2.k, mac, st, 0, 0, []⟩) :: Hs) w') := by
        clear s
        intro w st s
        unfold weirref15_Learn.K1
        let y : weirref15_Entry × NE := (⟨⟨port, ip, mac, st, z_api_Neighbour.Age, z_api_Neighbour.Tries, z_api_Neighbour.Waiting⟩, Sl.nil⟩, ⟨x.2.k, mac, st, 0, 0, []⟩)
        have s := (s.dup (i := 0) rfl Ro.refZ).first (B := rdI x.1.Items x.2.items) (fun h hh => (hh.2 x hxz).2)
        have s := s.mk0 (A := rdI Sl.nil []) rdS_nil
        refine WP.step (put_wp s (j := 2) rfl (by omega) hi y) (fun r3 w s => WP.ret ⟨rfl, ?_⟩)
        have s1 : Ss W (rdS cE false r3 ((z.set i y).map (·.1)) :: rdI Sl.nil [] :: RefZ r.L z :: rdI x.1.Items x.2.items :: Hs) w := s.use [0, 0, 1, 0] (s := [_, _, _, _]) (r := Hs) rfl
        have s2 := Ss.mkZ2 s1 y (by rw [show y.2.told = ⟨x.2.k.port, x.2.k.ip, mac, st, 0, 0, 0⟩ from rfl, hk]; rfl) rfl rfl (fun u hu => set_in hu)
        exact (Ss.closeF (r := ⟨r.C, r3⟩) (m := m.put i ⟨x.2.k, mac, st, 0, 0, []⟩) s2 hc (by rw [List.map_set, hz]; rfl)).perm (List.Perm.swap _ _ _)
      refine WP.ite (fun h1 => ?_) (fun h1 => ?_)
      · simp only [if_pos h1]
        exact fin 2 s
      · have hor : x.2.st = 1 ∨ x.2.mac ≠ mac := by
          by_cases g : x.2.st = 1
          · exact .inl g
          · exact .inr (fun g3 => hh ⟨⟨h1, g⟩, g3⟩)
        simp only [if_neg h1, if_pos hor]
        exact fin 3 s
end
end Go.Proofs.Ytlkhijflgbobjaa.Lx
