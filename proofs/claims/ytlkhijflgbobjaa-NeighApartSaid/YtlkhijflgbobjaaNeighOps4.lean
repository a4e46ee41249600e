/- Package neigh's calls, of their programs in the M-world: Tick. -/
import Derived.Test.YtlkhijflgbobjaaNeighOps3
set_option linter.unusedVariables false
set_option linter.unusedSimpArgs false
namespace Go.Proofs.Ytlkhijflgbobjaa.Lx
open Go Go.Proofs Go.RowKit
section
variable {W w : World} {R Hs : List HP} {p : Option Addr} {pa : Addr} {b : Nat} {c : api_NeighConfig} {pl : List (Option Addr × NE)} {m : NM}
def stepP (c : api_NeighConfig) (x : Option Addr × NE) : Option (Option Addr × NE) := (NM.stepE c x.2).1.map fun e => (x.1, e)
def askP (c : api_NeighConfig) (x : Option Addr × NE) : List api_Ask := (NM.stepE c x.2).2.1
def lostP (c : api_NeighConfig) (x : Option Addr × NE) : List Int := (NM.stepE c x.2).2.2
theorem fm_succ {α β : Type} {g : α → Option β} {l : List α} {i : Nat} {x : α} (hx : l[i]? = some x) : (l.take (i + 1)).filterMap g = (l.take i).filterMap g ++ (g x).toList := by
  rw [List.take_add_one, hx, List.filterMap_append]
  congr 1
theorem flm_succ {α β : Type} {g : α → List β} {l : List α} {i : Nat} {x : α} (hx : l[i]? = some x) : (l.take (i + 1)).flatMap g = (l.take i).flatMap g ++ g x := by
  rw [List.take_add_one, hx, List.flatMap_append]
  simp
theorem set_mid {α : Type} {l r : List α} {x y : α} : (l ++ x :: r).set l.length y = l ++ y :: r := by simp
theorem erase_mid {α : Type} {l r : List α} {x : α} : (l ++ x :: r).eraseIdx l.length = l ++ r := by
  rw [List.eraseIdx_append_of_length_le (Nat.le_refl _)]
  simp
theorem flm_len {α β : Type} {g : α → List β} {k : Nat} : ∀ {l : List α}, (∀ x ∈ l, (g x).length ≤ k) → (l.flatMap g).length ≤ l.length * k
  | [], _ => by simp
  | a :: l, h => by
    have := flm_len (l := l) (fun x hx => h x (by simp [hx]))
    have := h a (by simp)
    rw [List.flatMap_cons, List.length_append, List.length_cons, Nat.succ_mul]
    omega
theorem ask_len (c : api_NeighConfig) (x : Option Addr × NE) : (askP c x).length ≤ 1 := by
  unfold askP NM.stepE
  simp only
  split
  · split <;> simp
  · simp
theorem lost_len {c : api_NeighConfig} (ck : CfgOk c) {x : Option Addr × NE} (ek : EOk c x.2) : (lostP c x).length ≤ 64 := by
  have h1 := (NM.older_spec ck ek).2.2.2.1
  have h2 := ek.i
  have h3 := ck.l1
  unfold lostP NM.stepE
  simp only
  split
  · split
    · simp
    · simp only [h1]
      omega
  · simp
def TickHs (pa : Addr) (b : Nat) (m : NM) (pl : List (Option Addr × NE)) (r : Sl) (sp : List (Option Addr)) (R : List HP) (i : Nat) (s2 s3 : Sl) (g : List api_Ask × List Int) : List HP :=
  CacheHs pa b m.c ((pl.take i).filterMap (stepP m.c) ++ pl.drop i) ++ (vec c_api_Ask s2 ((pl.take i).flatMap (askP m.c)) g.1 :: vec (cI .i64) s3 ((pl.take i).flatMap (lostP m.c)) g.2 :: vec cP r (pl.map (·.1)) sp :: R)
set_option maxHeartbeats 1000000 in
theorem Tick_wp (s : Ss W (Cache p m :: R) w) : WP (neigh_Cache_Tick p) w (fun r w' => ∃ sp1 sp2, Ss W (vec c_api_Ask r.1 m.tick.2.1 sp1 :: vec (cI .i64) r.2 m.tick.2.2 sp2 :: Cache p m.tick.1 :: R) w') := by
  unfold neigh_Cache_Tick
  have okt := NM.tick_ok s.okC
  obtain ⟨pa, b, pl, rfl, hl, ok, s⟩ := s.openC
  have po := pl_ok ok hl
  have hek : ∀ x ∈ pl, EOk m.c x.2 := fun x hx => ok.e x.2 (by rw [← hl]; exact List.mem_map_of_mem hx)
  refine WP.step (sorted_wp s po) ?_
  rintro r w ⟨sp, s⟩
  have hlen := (s.vec_len (i := 0) rfl).1
  rw [List.length_map] at hlen
  have hn := po.n
  have s0 : Ss W (TickHs pa b m pl r sp R 0 Sl.nil Sl.nil ([], [])) w := by
    have s1 := (s.mk0 (A := vec (cI .i64) Sl.nil [] []) vec_nil).mk0 (A := vec c_api_Ask Sl.nil [] []) vec_nil
    exact s1.use [3, 3, 3, 0, 0, 0] (s := [_, _, _, _, _, _]) (r := R) rfl
  refine WP.loopG (γ := Nat × List api_Ask × List Int) (fun g (x : Sl × Sl × Int) w => x.2.2 = (g.1 : Int) ∧ g.1 ≤ pl.length ∧ Ss W (TickHs pa b m pl r sp R g.1 x.1 x.2.1 g.2) w) (fun g _ => pl.length - g.1) (0, [], []) ⟨rfl, Nat.zero_le _, s0⟩ ?_
  clear s s0
  rintro ⟨i, g⟩ ⟨s2, s3, x4⟩ w ⟨rfl, hi, s⟩
  simp only at hi s
  show WP (neigh_Cache_Tick.L1 (some pa) r s2 s3 (i : Int)) w _
  unfold neigh_Cache_Tick.L1
  have hal : ((pl.take i).flatMap (askP m.c)).length ≤ 1024 := by
    have := flm_len (l := pl.take i) (g := askP m.c) (k := 1) (fun x _ => ask_len m.c x)
    rw [List.length_take] at this
    omega
  have hll : ((pl.take i).flatMap (lostP m.c)).length ≤ 65536 := by
    have := flm_len (l := pl.take i) (g := lostP m.c) (k := 64) (fun x hx => lost_len ok.c (hek x (List.mem_of_mem_take hx)))
    rw [List.length_take] at this
    omega
  refine WP.ite (fun h => ?_) (fun h => WP.done ?_)
  · have hi2 : i < pl.length := by omega
    have hx := List.getElem?_eq_getElem hi2
    have hdrop : pl.drop i = pl[i] :: pl.drop (i + 1) := List.drop_eq_getElem_cons hi2
    generalize pl[i] = x at hx hdrop
    have ek := hek x (List.mem_of_getElem? hx)
    refine WP.rdx s 5 rfl vec_rdb (by omega) (x := x.1) (by rw [Int.toNat_natCast, List.getElem?_map, hx]; rfl) rfl ?_
    unfold TickHs at s
    rw [hdrop] at s
    have hfm := fm_succ (g := stepP m.c) hx
    have hfa := flm_succ (g := askP m.c) hx
    have hfl := flm_succ (g := lostP m.c) hx
    have hal2 := ask_len m.c x
    have hll2 := lost_len ok.c ek
    have hnx : ∀ {s2 s3 : Sl} {g : List api_Ask × List Int} {w : World}, Ss W (TickHs pa b m pl r sp R (i + 1) s2 s3 g) w → WP (pure (LS.next (s2, s3, IntKind.wrap .i64 ((i : Int) + 1))) : M (LS (Sl × Sl × Int) (Sl × Sl))) w (WP.Rd (fun x' w' => ∃ g' : Nat × List api_Ask × List Int, (x'.2.2 = (g'.1 : Int) ∧ g'.1 ≤ pl.length ∧ Ss W (TickHs pa b m pl r sp R g'.1 x'.1 x'.2.1 g'.2) w') ∧ pl.length - g'.1 < pl.length - i) (fun r w' => ∃ sp1 sp2, Ss W (vec c_api_Ask r.1 m.tick.2.1 sp1 :: vec (cI .i64) r.2 m.tick.2.2 sp2 :: Cache (some pa) m.tick.1 :: R) w')) := by
      intro s2 s3 g w s
      exact WP.next ⟨(i + 1, g), ⟨by rw [wrap_i64 (by omega) (by omega)]; simp, by simp only; omega, s⟩, by simp only; omega⟩
    unfold TickHs at hnx
    rw [hfm, hfa, hfl] at hnx
    generalize (pl.take i).filterMap (stepP m.c) = pre at s hnx
    generalize (pl.take i).flatMap (askP m.c) = as_ at s hnx hal
    generalize (pl.take i).flatMap (lostP m.c) = ls at s hnx hll
    generalize pl.drop (i + 1) = rest at s hnx
    have hj : (pre ++ x :: rest)[pre.length]? = some x := by simp
    obtain ⟨qa, sl, spi, g1, s⟩ := s.entOut hj
    rw [g1]
    have hpc : ∀ {L : List Value} {o : Nat}, At (c_neigh_Cache.enc ⟨m.c, some b⟩) o L → At (c_neigh_Cache.enc ⟨m.c, some b⟩) o L := fun h => h
    have inn : ∀ {e : NE} {sl : Sl} {spi : List Int} {A B : HP} {w : World}, e.k = x.2.k → (NM.stepE m.c x.2).1 = some e → Ss W (entHs qa e sl spi ++ (pts true pa (c_neigh_Cache.enc ⟨m.c, some b⟩) :: mapH c_neigh_key cP b ((pre ++ x :: rest).map kp) :: seps (((pre ++ x :: rest).eraseIdx pre.length).map ent) :: A :: B :: vec cP r (pl.map (·.1)) sp :: R)) w → Ss W (CacheHs pa b m.c (pre ++ (stepP m.c x).toList ++ rest) ++ (A :: B :: vec cP r (pl.map (·.1)) sp :: R)) w := by
      intro e sl spi A B w hk he s
      have := s.entIn hj g1 hk
      rw [set_mid] at this
      have e1 : stepP m.c x = some (x.1, e) := by unfold stepP; rw [he]; rfl
      rw [e1]
      simpa using this
    have k1 : ∀ {w : World} (e1 : NE), e1.k = x.2.k → e1.mac = x.2.mac → e1.items = x.2.items → e1.tries = x.2.tries → NM.older m.c x.2 = (if e1.st = 2 ∧ e1.age = m.c.Fresh then { e1 with st := 3, age := 0 } else e1) → Ss W (entHs qa e1 sl spi ++ (pts true pa (c_neigh_Cache.enc ⟨m.c, some b⟩) :: mapH c_neigh_key cP b ((pre ++ x :: rest).map kp) :: seps (((pre ++ x :: rest).eraseIdx pre.length).map ent) :: vec c_api_Ask s2 as_ g.1 :: vec (cI .i64) s3 ls g.2 :: vec cP r (pl.map (·.1)) sp :: R)) w →
        WP (neigh_Cache_Tick.K1 (some pa) s2 s3 (i : Int) (some qa)) w (WP.Rd (fun x' w' => ∃ g' : Nat × List api_Ask × List Int, (x'.2.2 = (g'.1 : Int) ∧ g'.1 ≤ pl.length ∧ Ss W (TickHs pa b m pl r sp R g'.1 x'.1 x'.2.1 g'.2) w') ∧ pl.length - g'.1 < pl.length - i) (fun r w' => ∃ sp1 sp2, Ss W (vec c_api_Ask r.1 m.tick.2.1 sp1 :: vec (cI .i64) r.2 m.tick.2.2 sp2 :: Cache (some pa) m.tick.1 :: R) w')) := by
      clear s
      intro w e1 hk hmac hit htr hol s
      have osp := NM.older_spec ok.c ek
      unfold neigh_Cache_Tick.K1
      refine WP.draw' s (fun w s => WP.nilck (WP.ld s 0 rfl (o := 24) rfl (At_neigh_entry_state _) ?_))
      refine WP.step (R := fun y w' => y = decide (e1.st = 2 ∧ e1.age = m.c.Fresh) ∧ w = w') (WP.ite (fun h2 => ?_) (fun h2 => WP.ret ⟨?_, rfl⟩)) ?_
      · have h2 : e1.st = 2 := h2
        refine WP.nilck (WP.ld s 0 rfl (o := 25) rfl (At_neigh_entry_age _) (WP.nilck (WP.ld s 2 rfl (o := 0 + 4) rfl ((At_neigh_Cache_c _).trans (At_api_NeighConfig_Fresh _)) (WP.ret ⟨?_, rfl⟩))))
        show decide (e1.age = m.c.Fresh) = _
        exact decide_eq_decide.2 ⟨fun h => ⟨h2, h⟩, fun h => h.2⟩
      · have h2 : ¬ e1.st = 2 := h2
        exact (decide_eq_false (fun h => h2 h.1)).symm
      rintro _ _ ⟨rfl, rfl⟩
      have stepN : ∀ {e' : NE}, NM.older m.c x.2 = e' → ¬ ((e'.st = 1 ∨ e'.st = 4) ∧ e'.age = m.c.Every) → NM.stepE m.c x.2 = (some e', [], []) := by
        intro e' he hd
        unfold NM.stepE
        simp only [he, if_neg hd]
      refine WP.ite (fun h => ?_) (fun h => ?_)
      · have h := of_decide_eq_true h
        rw [if_pos h] at hol
        have hst := stepN hol (by simp)
        refine WP.nilck (WP.st s 0 rfl (o := 24) rfl (Up_neigh_entry_state _ _) (fun w s => WP.nilck (WP.st s 0 rfl (o := 25) rfl (Up_neigh_entry_age _ _) (fun w s => ?_))))
        have s := inn (e := { e1 with st := 3, age := 0 }) hk (by rw [hst]) s
        refine hnx (g := g) ?_
        rw [show askP m.c x = [] by unfold askP; rw [hst], show lostP m.c x = [] by unfold lostP; rw [hst], List.append_nil, List.append_nil]
        exact s
      have h : ¬ (e1.st = 2 ∧ e1.age = m.c.Fresh) := fun hh => h (decide_eq_true hh)
      rw [if_neg h] at hol
      rw [hol] at osp
      refine WP.draw' s (fun w s => WP.nilck (WP.ld s 0 rfl (o := 24) rfl (At_neigh_entry_state _) ?_))
      refine WP.step (R := fun y w' => y = decide (e1.st ≠ 1 ∧ e1.st ≠ 4) ∧ w = w') (WP.ite (fun h1 => ?_) (fun h1 => WP.ret ⟨?_, rfl⟩)) ?_
      · have h1 : e1.st ≠ 1 := h1
        refine WP.nilck (WP.ld s 0 rfl (o := 24) rfl (At_neigh_entry_state _) (WP.ret ⟨?_, rfl⟩))
        show (e1.st != 4) = _
        by_cases h4 : e1.st = 4
        · simp [h4]
        · simp [h1, h4]
      · have h1 : ¬ e1.st ≠ 1 := h1
        exact (decide_eq_false (fun h => h1 h.1)).symm
      rintro _ _ ⟨rfl, rfl⟩
      refine WP.step (R := fun y w' => y = decide ((e1.st ≠ 1 ∧ e1.st ≠ 4) ∨ e1.age < m.c.Every) ∧ w = w') (WP.ite (fun h1 => WP.ret ⟨?_, rfl⟩) (fun h1 => ?_)) ?_
      · exact (decide_eq_true (.inl (of_decide_eq_true h1))).symm
      · have h1 : ¬ (e1.st ≠ 1 ∧ e1.st ≠ 4) := fun hh => h1 (decide_eq_true hh)
        refine WP.nilck (WP.ld s 0 rfl (o := 25) rfl (At_neigh_entry_age _) (WP.nilck (WP.ld s 2 rfl (o := 0 + 2) rfl ((At_neigh_Cache_c _).trans (At_api_NeighConfig_Every _)) (WP.ret ⟨?_, rfl⟩))))
        exact decide_eq_decide.2 ⟨fun h => .inr h, fun h => h.resolve_left h1⟩
      rintro _ _ ⟨rfl, rfl⟩
      refine WP.ite (fun h => ?_) (fun h => ?_)
      · have h := of_decide_eq_true h
        have hst := stepN hol (fun hd => by omega)
        have s := inn (e := e1) hk (by rw [hst]) s
        refine hnx (g := g) ?_
        rw [show askP m.c x = [] by unfold askP; rw [hst], show lostP m.c x = [] by unfold lostP; rw [hst], List.append_nil, List.append_nil]
        exact s
      have h : ¬ ((e1.st ≠ 1 ∧ e1.st ≠ 4) ∨ e1.age < m.c.Every) := fun hh => h (decide_eq_true hh)
      have hd : (e1.st = 1 ∨ e1.st = 4) ∧ e1.age = m.c.Every := by
        have := osp.2.2.2.2.2.2.2.2.1 (by omega)
        omega
      refine WP.draw' s (fun w s => WP.nilck (WP.ld s 0 rfl (o := 26) rfl (At_neigh_entry_tries _) (WP.nilck (WP.ld s 2 rfl (o := 0 + 3) rfl ((At_neigh_Cache_c _).trans (At_api_NeighConfig_Tries _)) ?_))))
      have ht0 := ek.t0
      have ht1 := ek.t1
      have hct := ok.c.t1
      refine WP.ite (fun ht => ?_) (fun ht => ?_)
      · have ht : e1.tries < m.c.Tries := ht
        have hst : NM.stepE m.c x.2 = (some { e1 with age := 0, tries := e1.tries + 1 }, [({ e1 with age := 0, tries := e1.tries + 1 } : NE).ask], []) := by
          unfold NM.stepE
          simp only [hol, if_pos hd, if_pos ht]
        have z : qa = qa.add (0 + 0) := by simp [Addr.add]
        refine WP.nilck (WP.ld s 0 rfl (o := 26) rfl (At_neigh_entry_tries _) (WP.nilck (WP.st s 0 rfl (o := 26) rfl (Up_neigh_entry_tries _ _) (fun w s => WP.nilck (WP.st s 0 rfl (o := 25) rfl (Up_neigh_entry_age _ _) (fun w s => WP.draw' s (fun w s => ?_)))))))
        refine WP.nilck (WP.ld s 0 rfl (o := 0 + 0) z ((At_neigh_entry_key _).trans (At_neigh_key_port _)) ?_)
        refine WP.nilck (WP.ld s 0 rfl (o := 0 + 1) rfl ((At_neigh_entry_key _).trans (At_neigh_key_ip _)) ?_)
        refine WP.nilck (WP.ld s 0 rfl (o := 18) rfl (At_neigh_entry_mac _) ?_)
        refine WP.nilck (WP.ld s 0 rfl (o := 26) rfl (At_neigh_entry_tries _) ?_)
        refine WP.slot' s (fun _ w s => WP.appl s 5 rfl (by rw [List.length_singleton]; omega) (by decide) (fun r2 w sp' s => ?_))
        have hw : IntKind.wrap .i64 (e1.tries + 1) = e1.tries + 1 := wrap_i64 (by omega) (by omega)
        have s : Ss W (entHs qa { e1 with age := 0, tries := e1.tries + 1 } sl spi ++ (pts true pa (c_neigh_Cache.enc ⟨m.c, some b⟩) :: mapH c_neigh_key cP b ((pre ++ x :: rest).map kp) :: seps (((pre ++ x :: rest).eraseIdx pre.length).map ent) :: vec c_api_Ask r2 (as_ ++ [({ e1 with age := 0, tries := e1.tries + 1 } : NE).ask]) sp' :: vec (cI .i64) s3 ls g.2 :: vec cP r (pl.map (·.1)) sp :: R)) w := by
          have s : Ss W (entHs qa { e1 with age := 0, tries := IntKind.wrap .i64 (e1.tries + 1) } sl spi ++ (pts true pa (c_neigh_Cache.enc ⟨m.c, some b⟩) :: mapH c_neigh_key cP b ((pre ++ x :: rest).map kp) :: seps (((pre ++ x :: rest).eraseIdx pre.length).map ent) :: vec c_api_Ask r2 (as_ ++ [({ e1 with age := 0, tries := IntKind.wrap .i64 (e1.tries + 1) } : NE).ask]) sp' :: vec (cI .i64) s3 ls g.2 :: vec cP r (pl.map (·.1)) sp :: R)) w := s
          rwa [hw] at s
        have s := inn (e := { e1 with age := 0, tries := e1.tries + 1 }) hk (by rw [hst]) s
        refine hnx (g := (sp', g.2)) ?_
        rw [show askP m.c x = [({ e1 with age := 0, tries := e1.tries + 1 } : NE).ask] by unfold askP; rw [hst], show lostP m.c x = [] by unfold lostP; rw [hst], List.append_nil]
        exact s
      · have ht : ¬ e1.tries < m.c.Tries := ht
        have hst : NM.stepE m.c x.2 = (none, [], e1.items) := by
          unfold NM.stepE
          simp only [hol, if_pos hd, if_neg ht]
        refine WP.draw' s (fun w s => WP.nilck (WP.ld s 2 rfl (o := 5) rfl (At_neigh_Cache_at_ _) (WP.nilck (WP.ld s 0 rfl (o := 0) (by simp [Addr.add]) (At_neigh_entry_key _) ?_))))
        have hperm : ((pre ++ x :: rest).map kp).Perm ((e1.k, x.1) :: (pre ++ rest).map kp) := by
          rw [hk]
          have := (List.perm_middle (l₁ := pre) (l₂ := rest) (a := x)).map kp
          exact this
        refine WP.mdel s 3 rfl (k := e1.k) (x := x.1) hperm (fun w s => WP.nilck (WP.ld s 0 rfl (o := 27) rfl (At_neigh_entry_items _) ?_))
        have hi64 := ek.i
        have hl64 := ok.c.l1
        refine WP.appS s 1 rfl vec_rdb (by decide) (WP.appl s 6 rfl (by rw [hit]; omega) (by decide) (fun r2 w sp' s => ?_))
        have s1 := (s.drop).drop
        refine hnx (g := (g.1, sp')) ?_
        rw [show askP m.c x = [] by unfold askP; rw [hst], show lostP m.c x = e1.items by unfold lostP; rw [hst], show stepP m.c x = none by unfold stepP; rw [hst]; rfl, List.append_nil, Option.toList_none, List.append_nil]
        have e2 : (pre ++ x :: rest).eraseIdx pre.length = pre ++ rest := erase_mid
        have s2 : Ss W (pts true pa (c_neigh_Cache.enc ⟨m.c, some b⟩) :: mapH c_neigh_key cP b ((pre ++ rest).map kp) :: seps (((pre ++ x :: rest).eraseIdx pre.length).map ent) :: vec c_api_Ask s2 as_ g.1 :: vec (cI .i64) r2 (ls ++ e1.items) sp' :: vec cP r (pl.map (·.1)) sp :: R) w := s1
        rw [e2] at s2
        exact s2
    refine WP.nilck (WP.ld s 0 rfl (o := 24) rfl (At_neigh_entry_state _) ?_)
    have ha0 := ek.a0
    have ha1 := ek.a1
    refine WP.step (R := fun y w' => y = decide (x.2.st ≠ 3 ∨ x.2.age < 1048576) ∧ w = w') (WP.ite (fun h1 => WP.ret ⟨?_, rfl⟩) (fun h1 => ?_)) ?_
    · exact (decide_eq_true (.inl h1)).symm
    · have h1 : ¬ x.2.st ≠ 3 := h1
      refine WP.nilck (WP.ld s 0 rfl (o := 25) rfl (At_neigh_entry_age _) (WP.ret ⟨?_, rfl⟩))
      exact decide_eq_decide.2 ⟨fun h => .inr h, fun h => h.resolve_left h1⟩
    rintro _ _ ⟨rfl, rfl⟩
    refine WP.ite (fun h => ?_) (fun h => ?_)
    · have h := of_decide_eq_true h
      refine WP.nilck (WP.ld s 0 rfl (o := 25) rfl (At_neigh_entry_age _) (WP.nilck (WP.st s 0 rfl (o := 25) rfl (Up_neigh_entry_age _ _) (fun w s => ?_))))
      have hw : IntKind.wrap .i64 (x.2.age + 1) = x.2.age + 1 := wrap_i64 (by omega) (by omega)
      refine k1 { x.2 with age := IntKind.wrap .i64 (x.2.age + 1) } rfl rfl rfl rfl ?_ s
      rw [hw]
      unfold NM.older
      simp only [if_pos h]
    · have h : ¬ (x.2.st ≠ 3 ∨ x.2.age < 1048576) := fun hh => h (decide_eq_true hh)
      refine k1 x.2 rfl rfl rfl rfl ?_ s
      unfold NM.older
      simp only [if_neg h]
  · have : i = pl.length := by omega
    subst this
    unfold TickHs at s
    rw [List.take_length, List.drop_length, List.append_nil] at s
    have e1 : pl.flatMap (askP m.c) = m.tick.2.1 := by
      show _ = m.l.flatMap _
      rw [← hl, List.flatMap_map]
      rfl
    have e2 : pl.flatMap (lostP m.c) = m.tick.2.2 := by
      show _ = m.l.flatMap _
      rw [← hl, List.flatMap_map]
      rfl
    rw [e1, e2] at s
    have e3 : (pl.filterMap (stepP m.c)).map (·.2) = m.tick.1.l := by
      show _ = m.l.filterMap _
      rw [← hl, List.filterMap_map, List.map_filterMap]
      congr 1
      funext x
      simp [stepP, Function.comp_def]
    refine ⟨g.1, g.2, ?_⟩
    have s1 : Ss W (CacheHs pa b m.tick.1.c (pl.filterMap (stepP m.c)) ++ (vec c_api_Ask s2 m.tick.2.1 g.1 :: vec (cI .i64) s3 m.tick.2.2 g.2 :: vec cP r (pl.map (·.1)) sp :: R)) w := s
    have s2 := Ss.closeC s1 rfl e3 okt
    have s3 := s2.use [3] (s := [_]) (r := _ :: _ :: _ :: R) rfl
    exact (s3.drop).use [1, 1, 0] (s := [_, _, _]) (r := R) rfl
end
end Go.Proofs.Ytlkhijflgbobjaa.Lx
