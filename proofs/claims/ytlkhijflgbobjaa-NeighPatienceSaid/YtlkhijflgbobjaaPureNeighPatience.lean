/- The law NeighPatience, of its program in the M-world: what stays asked or probed is asked just every Every ticks, at most Tries times, and is then gone: it answers true, and nothing that was there is turned. -/
import Derived.Test.YtlkhijflgbobjaaNeighAsk
import Derived.Test.YtlkhijflgbobjaaLxQ
set_option linter.unusedVariables false
set_option linter.unusedSimpArgs false
namespace Go.Proofs.Ytlkhijflgbobjaa.Lx
open Go Go.Proofs Go.RowKit

section
variable {W w : World} {R : List HP} {p : Option Addr} {m : NM}
theorem filt_at {α β : Type} {f : α → Option β} {l : List α} {i : Nat} {x : α} {y : β} (hx : l[i]? = some x) (hy : f x = some y) : (l.filterMap f)[((l.take i).filterMap f).length]? = some y := by
  obtain ⟨hi, he⟩ := List.getElem?_eq_some_iff.1 hx
  have h1 : l = l.take i ++ x :: l.drop (i + 1) := by
    conv => lhs; rw [← List.take_append_drop i l, List.drop_eq_getElem_cons hi, he]
  conv => lhs; lhs; rw [h1, List.filterMap_append]
  rw [List.getElem?_append_right (Nat.le_refl _), Nat.sub_self, List.filterMap_cons, hy]
  rfl
theorem due_wp {sl asl : Sl} {asks : List api_Ask} {l sp : List weirlaw15_Row} {spa : List api_Ask} {m' : NM} {now : Int} (ok : m.Ok) (ok' : m'.Ok) (B : PBook m now l) (hm' : m' = m.tick.1) (ha : asks = m.tick.2.1) (h0 : 0 ≤ now) (hb : now + 1 ≤ 3000000000000) (hn : l.length ≤ 3000000000000)
    (s : Ss W (Cache p m' :: vec cRow sl l sp :: vec c_api_Ask asl asks spa :: R) w) :
    WP (weirlaw15_due p m.c sl asl (now + 1)) w (fun r w' => r = true ∧ Ss W (Cache p m' :: vec cRow sl (l.map (rowR m.c (now + 1))) sp :: vec c_api_Ask asl asks spa :: R) w') := by
  unfold weirlaw15_due
  have hal := (tick_len ok).1
  have hpr : asks.map prj = l.filterMap (dueR m.c (now + 1)) := by rw [ha]; exact asks_are ok B
  have hall : asks.length ≤ 1024 := by rw [ha]; exact hal
  refine WP.slot' s (fun _ w s => ?_)
  have hl := (s.vec_len (i := 1) rfl).1
  have hla := (s.vec_len (i := 2) rfl).1
  refine WP.loopG (γ := Nat) (fun i (x : Int × Int) w => x = ((((l.take i).filterMap (dueR m.c (now + 1))).length : Int), (i : Int)) ∧ i ≤ l.length ∧ Ss W (Cache p m' :: vec cRow sl ((l.take i).map (rowR m.c (now + 1)) ++ l.drop i) sp :: vec c_api_Ask asl asks spa :: R) w) (fun i _ => l.length - i) 0 ⟨rfl, Nat.zero_le _, s⟩ ?_
  clear s
  rintro i _ w ⟨rfl, hi, s⟩
  show WP (weirlaw15_due.L1 p m.c sl asl (now + 1) _ (i : Int)) w _
  unfold weirlaw15_due.L1
  have hfl : ((l.take i).filterMap (dueR m.c (now + 1))).length ≤ asks.length := by
    have h1 := congrArg List.length hpr
    rw [List.length_map] at h1
    rw [h1]
    exact ((List.take_sublist i l).filterMap _).length_le
  refine WP.ite (fun h => WP.draw' s (fun w s => ?_)) (fun h => WP.done ?_)
  · have hi2 : i < l.length := by omega
    have hx := List.getElem?_eq_getElem hi2
    have hdrop : l.drop i = l[i] :: l.drop (i + 1) := List.drop_eq_getElem_cons hi2
    generalize l[i] = x at hx hdrop
    have hxm := List.mem_of_getElem? hx
    have hplen : ((l.take i).map (rowR m.c (now + 1))).length = i := by rw [List.length_map, List.length_take]; omega
    have hxr : ((l.take i).map (rowR m.c (now + 1)) ++ l.drop i)[((i : Int)).toNat]? = some x := by
      rw [Int.toNat_natCast, List.getElem?_append_right (by omega), hplen, Nat.sub_self, hdrop]
      rfl
    have hset : ∀ y, ((l.take i).map (rowR m.c (now + 1)) ++ l.drop i).set i y = (l.take i).map (rowR m.c (now + 1)) ++ y :: l.drop (i + 1) := by
      intro y
      have := set_mid (l := (l.take i).map (rowR m.c (now + 1))) (r := l.drop (i + 1)) (x := x) (y := y)
      rw [hplen] at this
      rw [hdrop]
      exact this
    have hnx : ∀ {k : Int} {y : weirlaw15_Row} {w : World}, rowR m.c (now + 1) x = y → k = (((l.take i).filterMap (dueR m.c (now + 1))).length : Int) + ((dueR m.c (now + 1) x).toList.length : Int) → Ss W (Cache p m' :: vec cRow sl ((l.take i).map (rowR m.c (now + 1)) ++ y :: l.drop (i + 1)) sp :: vec c_api_Ask asl asks spa :: R) w →
        WP (pure (LS.next (k, IntKind.wrap .i64 ((i : Int) + 1))) : M (LS (Int × Int) Bool)) w (WP.Rd (fun x' w' => ∃ i' : Nat, (x' = ((((l.take i').filterMap (dueR m.c (now + 1))).length : Int), (i' : Int)) ∧ i' ≤ l.length ∧ Ss W (Cache p m' :: vec cRow sl ((l.take i').map (rowR m.c (now + 1)) ++ l.drop i') sp :: vec c_api_Ask asl asks spa :: R) w') ∧ l.length - i' < l.length - i) (fun r w' => r = true ∧ Ss W (Cache p m' :: vec cRow sl (l.map (rowR m.c (now + 1))) sp :: vec c_api_Ask asl asks spa :: R) w')) := by
      rintro k y w rfl rfl s
      refine WP.next ⟨i + 1, ⟨?_, by omega, ?_⟩, by omega⟩
      · rw [fm_succ hx, List.length_append, wrap_i64 (by omega) (by omega)]
        simp
      · rw [List.take_add_one, hx, List.map_append, List.append_assoc]
        exact s
    refine WP.rdxp0 s 1 rfl vec_rdb (by omega) (x := x) hxr rfl (At_weirlaw15_Row_Port _) ?_
    refine WP.rdxp s 1 rfl vec_rdb (by omega) (x := x) hxr rfl (At_weirlaw15_Row_IP _) ?_
    refine WP.step (asking_wp s _ _) ?_
    rintro is w ⟨his, s⟩
    have hisq : is = true ↔ ∃ t a, Ask m' (rkey x) t a := by rw [his]; exact NM.get_ask ok' _ _
    clear his
    refine WP.rdxp s 1 rfl vec_rdb (by omega) (x := x) hxr rfl (At_weirlaw15_Row_Count _) ?_
    have htv : ∀ t a, Ask m' (rkey x) t a ↔ ∃ t0 a0, Ask m (rkey x) t0 a0 ∧ ((a0 + 1 ≠ m.c.Every ∧ t = t0 ∧ a = a0 + 1) ∨ (a0 + 1 = m.c.Every ∧ t0 < m.c.Tries ∧ t = t0 + 1 ∧ a = 0)) := by
      intro t a
      rw [hm']
      exact NM.tick_view ok _ _ _
    refine WP.ite (fun hc => ?_) (fun hc => ?_)
    · -- it is not asked for
      have hno : is = false := by
        cases his : is with
        | false => rfl
        | true =>
          obtain ⟨t, a, ha⟩ := hisq.1 his
          obtain ⟨t0, a0, ha0, _⟩ := (htv t a).1 ha
          obtain ⟨y, hy, hk, hcy⟩ := B.e _ _ _ ha0
          obtain ⟨j, hj⟩ := List.getElem?_of_mem hy
          have := (rsort_inj B.s hj hx hk).2
          subst this
          exact absurd hc hcy
      rw [hno]
      refine WP.ite (fun h => by cases h) (fun _ => hnx (y := x) ?_ ?_ (by rw [hdrop] at s; exact s))
      · unfold rowR
        rw [if_neg (fun h => h.1 hc)]
      · unfold dueR
        rw [if_neg (fun h => h.1 hc)]
        simp
    · have hc : x.Count ≠ 0 := hc
      obtain ⟨hask, hc1, hl0, hl1⟩ := B.r x hxm hc
      have hev : now - x.Last < m.c.Every := by
        obtain ⟨e, he, _, hs, _, hag⟩ := hask
        have := (ok.e e he).ad hs
        omega
      have hct : x.Count ≤ m.c.Tries := by
        obtain ⟨e, he, _, _, ht, _⟩ := hask
        have := (ok.e e he).t1
        omega
      have htr := ok.c.t1
      have hyes : ∀ t0 a0, Ask m (rkey x) t0 a0 → t0 = x.Count ∧ a0 = now - x.Last := fun t0 a0 h => ask_uniq ok h hask
      have hisv : is = !(decide (now + 1 - x.Last = m.c.Every) && decide (x.Count ≥ m.c.Tries)) := by
        rw [Bool.eq_iff_iff, hisq]
        constructor
        · rintro ⟨t, a, ha⟩
          obtain ⟨t0, a0, ha0, h⟩ := (htv t a).1 ha
          obtain ⟨rfl, rfl⟩ := hyes _ _ ha0
          rcases h with ⟨h1, _⟩ | ⟨h1, h2, _⟩
          · rw [decide_eq_false (by omega)]; rfl
          · rw [decide_eq_false (show ¬ x.Count ≥ m.c.Tries by omega), Bool.and_false]; rfl
        · intro h
          have h : ¬ (now + 1 - x.Last = m.c.Every ∧ x.Count ≥ m.c.Tries) := by
            rintro ⟨h1, h2⟩
            rw [decide_eq_true h1, decide_eq_true h2] at h
            cases h
          by_cases hov : now + 1 - x.Last = m.c.Every
          · exact ⟨_, _, (htv _ _).2 ⟨_, _, hask, .inr ⟨by omega, by omega, rfl, rfl⟩⟩⟩
          · exact ⟨_, _, (htv _ _).2 ⟨_, _, hask, .inl ⟨by omega, rfl, rfl⟩⟩⟩
      have hw1 : IntKind.wrap .i64 (now + 1 - x.Last) = now + 1 - x.Last := wrap_i64 (by omega) (by omega)
      refine WP.draw' s (fun w s => WP.rdxp s 1 rfl vec_rdb (by omega) (x := x) hxr rfl (At_weirlaw15_Row_Last _) (WP.draw' s (fun w s => WP.rdxp s 1 rfl vec_rdb (by omega) (x := x) hxr rfl (At_weirlaw15_Row_Last _) ?_)))
      rw [hw1]
      refine WP.step (R := fun y w' => y = false ∧ w = w') (WP.ite (fun h => absurd h (by omega)) (fun _ => ?_)) ?_
      · refine WP.step (R := fun y w' => y = (decide (now + 1 - x.Last = m.c.Every) && decide (x.Count ≥ m.c.Tries)) ∧ w = w') (WP.ite (fun ho => ?_) (fun ho => WP.ret ⟨by rw [decide_eq_false ho]; rfl, rfl⟩)) ?_
        · exact WP.rdxp s 1 rfl vec_rdb (by omega) (x := x) hxr rfl (At_weirlaw15_Row_Count _) (WP.ret ⟨by rw [decide_eq_true ho, Bool.true_and], rfl⟩)
        · rintro _ _ ⟨rfl, rfl⟩
          refine WP.ret ⟨?_, rfl⟩
          rw [hisv]
          cases (decide (now + 1 - x.Last = m.c.Every) && decide (x.Count ≥ m.c.Tries)) <;> rfl
      rintro _ _ ⟨rfl, rfl⟩
      refine WP.ite (fun h => by cases h) (fun _ => WP.ite (fun hov => ?_) (fun hov => ?_))
      · refine hnx (y := x) ?_ ?_ (by rw [hdrop] at s; exact s)
        · unfold rowR
          rw [if_neg (fun h => hov h.2)]
        · unfold dueR
          rw [if_neg (fun h => hov h.2.1)]
          simp
      · have hov : now + 1 - x.Last = m.c.Every := Decidable.not_not.1 hov
        refine WP.ite (fun hni => ?_) (fun hyi => ?_)
        · have hge : ¬ x.Count < m.c.Tries := by
            intro hlt
            apply hni
            rw [hisv, decide_eq_false (show ¬ x.Count ≥ m.c.Tries by omega), Bool.and_false]
            rfl
          refine WP.stxp s 1 rfl (by omega) hxr rfl (Up_weirlaw15_Row_Count x 0) (fun w s => hnx (y := ⟨x.Port, x.IP, x.Items, x.Last, 0⟩) ?_ ?_ ?_)
          · unfold rowR
            rw [if_pos ⟨hc, hov⟩, if_neg hge]
          · unfold dueR
            rw [if_neg (fun h => hge h.2.2)]
            simp
          · rw [Int.toNat_natCast, hset] at s
            exact s
        · have hyi : is = true := Decidable.not_not.1 hyi
          have hlt : x.Count < m.c.Tries := by
            rw [hisv, decide_eq_true hov, Bool.true_and] at hyi
            have : ¬ x.Count ≥ m.c.Tries := fun h => by rw [decide_eq_true h] at hyi; cases hyi
            omega
          have hdue : dueR m.c (now + 1) x = some (rkey x, x.Count + 1) := by
            unfold dueR
            rw [if_pos ⟨hc, hov, hlt⟩]
          have hat := filt_at hx hdue
          rw [← hpr, List.getElem?_map] at hat
          obtain ⟨a, haa, hpa⟩ := Option.map_eq_some_iff.1 hat
          have hnl := (List.getElem?_eq_some_iff.1 haa).1
          have hap : a.Port = x.Port ∧ a.IP = x.IP ∧ a.Try = x.Count + 1 := by
            unfold prj rkey at hpa
            have h1 := congrArg (fun q : neigh_key × Int => q.1.port) hpa
            have h2 := congrArg (fun q : neigh_key × Int => q.1.ip) hpa
            have h3 := congrArg (fun q : neigh_key × Int => q.2) hpa
            exact ⟨h1, h2, h3⟩
          obtain ⟨hp1, hp2, hp3⟩ := hap
          generalize hq : ((l.take i).filterMap (dueR m.c (now + 1))).length = q at haa hnl hfl hnx
          have haq : asks[((q : Nat) : Int).toNat]? = some a := by rw [Int.toNat_natCast]; exact haa
          refine WP.draw' s (fun w s => ?_)
          refine WP.step (R := fun y w' => y = false ∧ w = w') (WP.ite (fun h => absurd h (by omega)) (fun _ => ?_)) ?_
          · refine WP.rdxp0 s 2 rfl vec_rdb (by omega) (x := a) haq rfl (At_api_Ask_Port _) ?_
            refine WP.rdxp0 s 1 rfl vec_rdb (by omega) (x := x) hxr rfl (At_weirlaw15_Row_Port _) (WP.ret ⟨by rw [hp1]; simp, rfl⟩)
          rintro _ _ ⟨rfl, rfl⟩
          refine WP.step (R := fun y w' => y = false ∧ w = w') (WP.ite (fun h => by cases h) (fun _ => ?_)) ?_
          · refine WP.rdxp s 2 rfl vec_rdb (by omega) (x := a) haq rfl (At_api_Ask_IP _) ?_
            refine WP.rdxp s 1 rfl vec_rdb (by omega) (x := x) hxr rfl (At_weirlaw15_Row_IP _) (WP.ret ⟨by rw [hp2, eqv_refl]; rfl, rfl⟩)
          rintro _ _ ⟨rfl, rfl⟩
          have hw2 : IntKind.wrap .i64 (x.Count + 1) = x.Count + 1 := wrap_i64 (by omega) (by omega)
          refine WP.step (R := fun y w' => y = false ∧ w = w') (WP.ite (fun h => by cases h) (fun _ => ?_)) ?_
          · refine WP.rdxp s 2 rfl vec_rdb (by omega) (x := a) haq rfl (At_api_Ask_Try _) ?_
            refine WP.rdxp s 1 rfl vec_rdb (by omega) (x := x) hxr rfl (At_weirlaw15_Row_Count _) (WP.ret ⟨by rw [hp3, hw2]; simp, rfl⟩)
          rintro _ _ ⟨rfl, rfl⟩
          refine WP.ite (fun h => by cases h) (fun _ => ?_)
          refine WP.stxp s 1 rfl (by omega) hxr rfl (Up_weirlaw15_Row_Last x (now + 1)) (fun w s => ?_)
          rw [Int.toNat_natCast, hset] at s
          have s : Ss W (Cache p m' :: vec cRow sl ((l.take i).map (rowR m.c (now + 1)) ++ (⟨x.Port, x.IP, x.Items, now + 1, x.Count⟩ : weirlaw15_Row) :: l.drop (i + 1)) sp :: vec c_api_Ask asl asks spa :: R) w := s
          have hxr2 : ((l.take i).map (rowR m.c (now + 1)) ++ (⟨x.Port, x.IP, x.Items, now + 1, x.Count⟩ : weirlaw15_Row) :: l.drop (i + 1))[((i : Int)).toNat]? = some ⟨x.Port, x.IP, x.Items, now + 1, x.Count⟩ := by
            rw [Int.toNat_natCast, List.getElem?_append_right (by omega), hplen, Nat.sub_self]
            rfl
          refine WP.rdxp s 1 rfl vec_rdb (by omega) (x := ⟨x.Port, x.IP, x.Items, now + 1, x.Count⟩) hxr2 rfl (At_weirlaw15_Row_Count _) ?_
          refine WP.stxp s 1 rfl (by omega) hxr2 rfl (Up_weirlaw15_Row_Count _ _) (fun w s => ?_)
          rw [show IntKind.wrap .i64 ((q : Int) + 1) = (q : Int) + 1 by exact wrap_i64 (by omega) (by omega)]
          refine hnx (y := ⟨x.Port, x.IP, x.Items, now + 1, x.Count + 1⟩) ?_ ?_ ?_
          · unfold rowR
            rw [if_pos ⟨hc, hov⟩, if_pos hlt]
          · rw [hdue]
            rfl
          · rw [Int.toNat_natCast] at s
            have := set_mid (l := (l.take i).map (rowR m.c (now + 1))) (r := l.drop (i + 1)) (x := (⟨x.Port, x.IP, x.Items, now + 1, x.Count⟩ : weirlaw15_Row)) (y := ⟨x.Port, x.IP, x.Items, now + 1, IntKind.wrap .i64 (x.Count + 1)⟩)
            rw [hplen] at this
            simp only at s
            rw [this, hw2] at s
            exact s
  · obtain rfl : i = l.length := by omega
    rw [List.take_length] at s ⊢
    rw [List.drop_length, List.append_nil] at s
    refine ⟨?_, s⟩
    have h1 := congrArg List.length hpr
    rw [List.length_map] at h1
    rw [← h1, hla]
    simp
end
theorem NeighPatience_true : ∀ (W : World) (u0 : api_NeighConfig) (u1 : Sl), (G23 W u0) → (GSl c_weirlaw15_Op (Try.prog.bytesOf 36) (fun W u => G36 W u) W u1) → ∃ W', weirlaw15_NeighPatience u0 u1 W = some (true, W') ∧ Below W.heap.size W W' := by
  intro W u0 u1 _ g
  have b36 : Try.prog.bytesOf 36 = 64 := by kernel_rfl
  have hr : reachBytes = 140737488351232 := rfl
  obtain ⟨ops, ho, hb, s⟩ := (Ss.start W).args g (by decide)
  rw [b36, hr] at hb
  have hbt : ∀ o ∈ ops, Bts o.IP.A.l ∧ Bts o.Mac.l := fun o h => by
    obtain ⟨_, _, _, h1, h2, _⟩ := ho o h
    exact ⟨fun x hx => wf_u8 (h1.2 x hx), fun x hx => wf_u8 (h2 x hx)⟩
  have hl := (s.rd_len (i := 0) rfl rdS_rdb).1
  have main : WP (weirlaw15_NeighPatience u0 u1) W (fun r W' => r = true ∧ Below W.heap.size W W') := by
    unfold weirlaw15_NeighPatience
    refine WP.slot' s (fun _ w s => begin_wp s u0 (fun r w ck s => ?_))
    have B0 : PBook (firstM r.2) 0 [] := ⟨List.Pairwise.nil, by simp, fun k t a h => by
      obtain ⟨e, he, _, h1, _⟩ := h
      simp only [firstM, List.mem_singleton] at he
      subst he
      simp [NE.asked] at h1⟩
    have s0 : Ss W (Cache r.1 (firstM r.2) :: vec cRow Sl.nil [] [] :: rdS c_weirlaw15_Op false u1 ops :: []) w := (s.mk0 (A := vec cRow Sl.nil [] []) vec_nil).perm (List.Perm.swap _ _ _)
    refine WP.loopG (γ := Nat × NM × Nat × List weirlaw15_Row) (fun g (x : Sl × Int × Int) w => x.2.2 = (g.1 : Int) ∧ x.2.1 = (g.2.2.1 : Int) ∧ g.1 ≤ ops.length ∧ g.2.2.1 ≤ g.1 ∧ g.2.2.2.length ≤ g.1 ∧ g.2.1.c = r.2 ∧ PBook g.2.1 g.2.2.1 g.2.2.2 ∧ ∃ sp Hs, Ss W (Cache r.1 g.2.1 :: vec cRow x.1 g.2.2.2 sp :: rdS c_weirlaw15_Op false u1 ops :: Hs) w) (fun g _ => ops.length - g.1) (0, firstM r.2, 0, []) ⟨rfl, rfl, Nat.zero_le _, Nat.le_refl _, Nat.le_refl _, rfl, B0, [], [], s0⟩ ?_
    clear s s0
    rintro ⟨i, m, now, l⟩ ⟨sl, _, _⟩ w ⟨rfl, rfl, hi, hnow, hll, hmc, B, sp, Hs, s⟩
    simp only at hi hnow hll hmc B s
    show WP (weirlaw15_NeighPatience.L1 u1 r sl (now : Int) (i : Int)) w _
    unfold weirlaw15_NeighPatience.L1
    refine WP.ite (fun h => ?_) (fun h => WP.done ⟨rfl, s.below⟩)
    have h : i < ops.length := by omega
    have hx := List.getElem?_eq_getElem h
    generalize ops[i] = o at hx
    obtain ⟨b1, b2⟩ := hbt o (List.mem_of_getElem? hx)
    have ok := s.okC
    have nx : ∀ {sl : Sl} {w : World} (m' : NM) (now' : Nat) (l' : List weirlaw15_Row) (sp : List weirlaw15_Row) (Hs : List HP), now' ≤ i + 1 → l'.length ≤ i + 1 → m'.c = r.2 → PBook m' now' l' → Ss W (Cache r.1 m' :: vec cRow sl l' sp :: rdS c_weirlaw15_Op false u1 ops :: Hs) w →
        WP (weirlaw15_NeighPatience.K1 (i : Int) sl (now' : Int)) w (WP.Rd (fun x' w' => ∃ g' : Nat × NM × Nat × List weirlaw15_Row, (x'.2.2 = (g'.1 : Int) ∧ x'.2.1 = (g'.2.2.1 : Int) ∧ g'.1 ≤ ops.length ∧ g'.2.2.1 ≤ g'.1 ∧ g'.2.2.2.length ≤ g'.1 ∧ g'.2.1.c = r.2 ∧ PBook g'.2.1 g'.2.2.1 g'.2.2.2 ∧ ∃ sp Hs, Ss W (Cache r.1 g'.2.1 :: vec cRow x'.1 g'.2.2.2 sp :: rdS c_weirlaw15_Op false u1 ops :: Hs) w') ∧ ops.length - g'.1 < ops.length - i) (fun r W' => r = true ∧ Below W.heap.size W W')) := by
      intro sl w m' now' l' sp Hs h1 h2 h3 B' s
      unfold weirlaw15_NeighPatience.K1
      exact WP.next ⟨(i + 1, m', now', l'), ⟨by rw [wrap_i64 (by omega) (by omega)]; simp, rfl, by simp only; omega, h1, h2, h3, B', sp, Hs, s⟩, by simp only; omega⟩
    refine WP.rdx s 2 rfl rdS_rdb (by omega) (x := o) (by rw [Int.toNat_natCast]; exact hx) rfl (WP.slot' s (fun _ w s => ?_))
    refine WP.ite (fun _ => ?_) (fun _ => ?_)
    · refine WP.step (Want_wp s _ _ b1 _) ?_
      rintro ⟨q1, q2, q3⟩ w ⟨hq, s⟩
      refine WP.slot' s (fun _ w s => WP.step (lnum_wp _) ?_)
      rintro x3 _ ⟨he, rfl⟩
      have he := he.symm
      subst he
      have hcc : (m.want o.Port o.IP o.N).1.c = r.2 := by rw [NM.want_c]; exact hmc
      have hv := NM.want_view ok o.Port o.IP o.N
      rw [← hq] at hv
      refine WP.step (R := fun y w' => (y = true ↔ (q3 = 0 ∧ (q2 = 2 ∨ q2 = 3))) ∧ w = w') (WP.ite (fun h0 => ?_) (fun h0 => WP.ret ⟨⟨(fun h => by cases h), fun h => absurd h.1 h0⟩, rfl⟩)) ?_
      · have h0 : q3 = 0 := h0
        refine WP.step (R := fun y w' => (y = true ↔ (q2 = 2 ∨ q2 = 3)) ∧ w = w') (WP.ite (fun h2 => WP.ret ⟨⟨fun _ => .inl h2, fun _ => rfl⟩, rfl⟩) (fun h2 => WP.ret ⟨?_, rfl⟩)) ?_
        · have h2 : ¬ q2 = 2 := h2
          show (q2 == 3) = true ↔ _
          rw [beq_iff_eq]
          exact ⟨.inr, fun h => h.resolve_left h2⟩
        · rintro y _ ⟨hy, rfl⟩
          exact WP.ret ⟨⟨fun h => ⟨h0, hy.1 h⟩, fun h => hy.2 h.2⟩, rfl⟩
      rintro y _ ⟨hy, rfl⟩
      rcases hv with ⟨v1, v2, v3⟩ | ⟨v1, v3⟩
      · refine WP.ite (fun _ => ?_) (fun hh => absurd (hy.2 ⟨v1, v2⟩) hh)
        obtain ⟨x, hxx, B'⟩ := B.want (by omega) v3
        have s1 : Ss W (vec cRow sl l sp :: Cache r.1 (m.want o.Port o.IP o.N).1 :: rdS c_weirlaw15_Op false u1 ops :: Hs) w := s.perm (List.Perm.swap _ _ _)
        refine WP.step (row_wp s1 (by omega) _ _) ?_
        rintro ⟨sl', _⟩ w ⟨rfl, sp', s⟩
        simp only at s
        have hrl : (rows l ⟨o.Port, o.IP⟩).1.length ≤ i + 1 := by
          unfold rows
          split
          · simp only; omega
          · simp only; rw [rins_len]; omega
        generalize (rows l ⟨o.Port, o.IP⟩).1 = l' at hxx B' s hrl
        generalize (rows l ⟨o.Port, o.IP⟩).2 = j at hxx B' ⊢
        have hj := (List.getElem?_eq_some_iff.1 hxx).1
        refine WP.stxp s 0 rfl (by simp only; omega) (by simp only; rw [Int.toNat_natCast]; exact hxx) rfl (Up_weirlaw15_Row_Last _ _) (fun w s => ?_)
        simp only [Int.toNat_natCast] at s
        refine WP.stxp s 0 rfl (by simp only; omega) (x := ⟨x.Port, x.IP, x.Items, (now : Int), x.Count⟩) (by simp only; rw [Int.toNat_natCast, List.getElem?_set_self hj]) rfl (Up_weirlaw15_Row_Count _ _) (fun w s => ?_)
        simp only [Int.toNat_natCast, List.set_set] at s
        exact nx _ now _ sp' Hs (by omega) (by rw [List.length_set]; exact hrl) hcc B' (s.perm (List.Perm.swap _ _ _))
      · refine WP.ite (fun hh => absurd (hy.1 hh) v1) (fun _ => ?_)
        exact nx _ now l sp Hs (by omega) (by omega) hcc (B.same v3) s
    refine WP.ite (fun _ => ?_) (fun _ => ?_)
    · refine WP.step (Learn_wp s _ _ b1 _ b2 _) ?_
      rintro q w ⟨hq, s⟩
      have hcc : (m.learn o.Port o.IP o.Mac o.N).1.c = r.2 := by rw [NM.learn_c]; exact hmc
      have okl := NM.learn_ok ok (port := o.Port) b1 b2 o.N
      obtain ⟨v1, v2⟩ := NM.learn_view ok o.Port o.IP o.Mac o.N
      have s := s.drop
      generalize (m.learn o.Port o.IP o.Mac o.N).1 = m' at s hcc okl v1 v2
      have hvv : (∃ t a, Ask m' ⟨o.Port, o.IP⟩ t a) → ∀ k t a, Ask m' k t a ↔ Ask m k t a := by
        intro hex k t a
        by_cases hk : k = ⟨o.Port, o.IP⟩
        · subst hk; exact v2 hex t a
        · exact v1 k t a hk
      refine WP.step (rplace_wp s (j := 1) rfl vec_rdb (by omega) _ _) ?_
      rintro _ w ⟨rfl, s⟩
      cases hf : rfind l ⟨o.Port, o.IP⟩ with
      | none =>
        refine WP.step (R := fun y w' => y = false ∧ w = w') (WP.ite (fun h => absurd h (by simp only [rI]; omega)) (fun _ => WP.ret ⟨rfl, rfl⟩)) ?_
        rintro _ _ ⟨rfl, rfl⟩
        refine WP.ite (fun h => by cases h) (fun _ => ?_)
        refine nx m' now l sp Hs (by omega) (by omega) hcc (B.same (fun k t a => ?_)) s
        by_cases hk : k = ⟨o.Port, o.IP⟩
        · subst hk
          have hno : ∀ t a, ¬ Ask m ⟨o.Port, o.IP⟩ t a := fun t a h => by
            obtain ⟨x, hxx, hk, _⟩ := B.e _ _ _ h
            exact rfind_none hf x hxx hk
          constructor
          · intro h; exact (v2 ⟨t, a, h⟩ t a).1 h
          · intro h; exact absurd h (hno t a)
        · exact v1 k t a hk
      | some j =>
        obtain ⟨x, hxx, hk⟩ := rfind_some hf
        have hj := (List.getElem?_eq_some_iff.1 hxx).1
        refine WP.step (R := fun y w' => (y = true ↔ ¬ ∃ t a, Ask m' ⟨o.Port, o.IP⟩ t a) ∧ Ss W (Cache r.1 m' :: vec cRow sl l sp :: rdS c_weirlaw15_Op false u1 ops :: Hs) w') (WP.ite (fun _ => WP.step (asking_wp s _ _) ?_) (fun h => absurd h (by simp only [rI]; omega))) ?_
        · rintro y w ⟨hy, s⟩
          refine WP.ret ⟨?_, s⟩
          rw [← NM.get_ask okl, hy]
          cases ((m'.get o.Port o.IP).2 && (decide ((m'.get o.Port o.IP).1.State = 1) || decide ((m'.get o.Port o.IP).1.State = 4))) <;> simp
        rintro y w ⟨hy, s⟩
        refine WP.ite (fun hh => ?_) (fun hh => ?_)
        · refine WP.stxp s 1 rfl (by simp only [rI]; omega) (by simp only [rI]; rw [Int.toNat_natCast]; exact hxx) rfl (Up_weirlaw15_Row_Count _ _) (fun w s => ?_)
          simp only [rI, Int.toNat_natCast] at s
          have B' := B.quit (m' := m') hxx (fun k t a hne => v1 k t a (by rw [← hk]; exact hne)) (fun t a h => (hy.1 hh) ⟨t, a, by rw [← hk]; exact h⟩)
          exact nx m' now _ sp Hs (by omega) (by rw [List.length_set]; omega) hcc B' s
        · have hex : ∃ t a, Ask m' ⟨o.Port, o.IP⟩ t a := Classical.byContradiction fun h => hh (hy.2 h)
          exact nx m' now l sp Hs (by omega) (by omega) hcc (B.same (hvv hex)) s
    refine WP.ite (fun _ => ?_) (fun _ => ?_)
    · have okt := NM.tick_ok ok
      refine WP.step (Tick_wp s) ?_
      rintro q w ⟨sp1, sp2, s⟩
      have s1 : Ss W (Cache r.1 m.tick.1 :: vec cRow sl l sp :: vec c_api_Ask q.1 m.tick.2.1 sp1 :: vec (cI .i64) q.2 m.tick.2.2 sp2 :: rdS c_weirlaw15_Op false u1 ops :: Hs) w := s.use [2, 2, 0, 0] (s := [_, _, _, _]) (r := _ :: Hs) rfl
      rw [show IntKind.wrap .i64 ((now : Int) + 1) = (now : Int) + 1 by exact wrap_i64 (by omega) (by omega)]
      have hd := due_wp ok okt B rfl rfl (by omega) (by omega) (by omega) s1
      have B' := B.tick ok
      rw [hmc] at hd B'
      refine WP.step hd ?_
      rintro _ w ⟨rfl, s⟩
      refine WP.ite (fun h => absurd rfl h) (fun _ => ?_)
      have s2 := s.use [0, 0, 2] (s := [_, _, _]) (r := _ :: _ :: Hs) rfl
      exact nx m.tick.1 (now + 1) _ sp _ (by omega) (by rw [List.length_map]; omega) hmc (by simpa using B') s2
    · exact nx m now l sp Hs (by omega) (by omega) hmc B s
  obtain ⟨r, W', h1, rfl, h2⟩ := main
  exact ⟨W', h1, h2⟩
end Go.Proofs.Ytlkhijflgbobjaa.Lx
