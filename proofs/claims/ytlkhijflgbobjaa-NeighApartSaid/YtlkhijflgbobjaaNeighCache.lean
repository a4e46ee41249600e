/- A cache of neighbours in memory; its small functions; all entries in their order. -/
import Derived.Test.YtlkhijflgbobjaaNeighModel
set_option linter.unusedVariables false
set_option linter.unusedSimpArgs false
namespace Go.Proofs.Ytlkhijflgbobjaa.Lx
open Go Go.Proofs Go.RowKit
section
variable {α : Type} {f : α → HP}
theorem nth_map : ∀ {l : List α} {i : Nat} {x : α}, l[i]? = some x → nth (l.map f) i = some (f x)
  | [], i, x, h => by simp at h
  | a :: l, 0, x, h => by
    simp only [List.getElem?_cons_zero, Option.some.injEq] at h
    subst h
    rfl
  | a :: l, i + 1, x, h => nth_map (l := l) (by simpa using h)
theorem wo_map : ∀ {l : List α} {i : Nat}, wo (l.map f) i = (l.eraseIdx i).map f
  | [], i => by simp [wo]
  | a :: l, 0 => by simp [wo]
  | a :: l, i + 1 => by
    show f a :: wo (l.map f) i = _
    rw [wo_map (l := l)]
    rfl
end
theorem nth_append {L R : List HP} {i : Nat} : nth (L ++ R) (L.length + i) = nth R i := by
  induction L with
  | nil => simp
  | cons x L ih =>
    rw [List.length_cons, Nat.add_right_comm]
    exact ih
theorem nodup_sub {α : Type} [DecidableEq α] : ∀ {l m : List α}, l.Nodup → (∀ x ∈ l, x ∈ m) → l.length ≤ m.length
  | [], m, _, _ => Nat.zero_le _
  | a :: l, m, h, hs => by
    have h' := List.nodup_cons.1 h
    have := nodup_sub (m := m.erase a) h'.2 (fun x hx => (List.mem_erase_of_ne (fun e => h'.1 (by rw [← e]; exact hx))).2 (hs x (List.mem_cons_of_mem _ hx)))
    have ha := hs a (List.mem_cons_self ..)
    rw [List.length_erase_of_mem ha] at this
    have := List.length_pos_of_mem ha
    rw [List.length_cons]
    omega
def entC (e : NE) (s : Sl) : neigh_entry := ⟨e.k, e.mac, e.st, e.age, e.tries, s⟩
def entHs (pa : Addr) (e : NE) (s : Sl) (sp : List Int) : List HP := [pts true pa (c_neigh_entry.enc (entC e s)), vec (cI .i64) s e.items sp]
def ent (x : Option Addr × NE) : HP := fun h => ∃ pa s sp, x.1 = some pa ∧ seps (entHs pa x.2 s sp) h
def kp (x : Option Addr × NE) : neigh_key × Option Addr := (x.2.k, x.1)
def CacheHs (pa : Addr) (b : Nat) (c : api_NeighConfig) (pl : List (Option Addr × NE)) : List HP :=
  [pts true pa (c_neigh_Cache.enc ⟨c, some b⟩), mapH c_neigh_key cP b (pl.map kp), seps (pl.map ent)]
def Cache (p : Option Addr) (m : NM) : HP := fun h => ∃ pa b pl, p = some pa ∧ pl.map (·.2) = m.l ∧ m.Ok ∧ seps (CacheHs pa b m.c pl) h
section
variable {W w : World} {R : List HP} {p : Option Addr} {pa : Addr} {b : Nat} {c : api_NeighConfig} {pl : List (Option Addr × NE)} {m : NM}
theorem Ss.openC (s : Ss W (Cache p m :: R) w) : ∃ pa b pl, p = some pa ∧ pl.map (·.2) = m.l ∧ m.Ok ∧ Ss W (CacheHs pa b m.c pl ++ R) w := by
  obtain ⟨hb, k, ⟨h1, h2, e, l1, l2, ⟨pa, b, pl, a1, a2, a3, a4⟩, b'⟩, hw⟩ := s
  exact ⟨pa, b, pl, a1, a2, a3, Ss.split ⟨hb, k, ⟨h1, h2, e, l1, l2, a4, b'⟩, hw⟩⟩
theorem Ss.closeC (s : Ss W (CacheHs pa b m.c pl ++ R) w) (hp : p = some pa) (hl : pl.map (·.2) = m.l) (ok : m.Ok) : Ss W (Cache p m :: R) w := s.group.first (fun h hh => ⟨pa, b, pl, hp, hl, ok, hh⟩)
theorem Ss.okC (s : Ss W (Cache p m :: R) w) : m.Ok := by
  obtain ⟨_, _, _, _, _, h, _⟩ := s.openC
  exact h
theorem ent_own {x : Option Addr × NE} {h : PH} (he : ent x h) : ∃ qa v, x.1 = some qa ∧ h qa.block qa.off = some (true, .v v) := by
  obtain ⟨qa, s, sp, h1, h2⟩ := he
  obtain ⟨k, a, l1⟩ := seps_nth h2 (i := 0) rfl
  obtain ⟨sp', hp⟩ := a
  have : (c_neigh_entry.enc (entC x.2 s))[0]? = some (.int .i64 x.2.k.port) := rfl
  exact ⟨qa, _, h1, l1 _ _ _ (by simpa using hp 0 _ this)⟩
theorem ents_nodup : ∀ {pl : List (Option Addr × NE)} {h : PH}, seps (pl.map ent) h → (pl.map (·.1)).Nodup
  | [], h, _ => by simp
  | x :: pl, h, hs => by
    obtain ⟨h1, h2, ok, l1, l2, a, b⟩ := hs
    refine List.nodup_cons.2 ⟨fun hm => ?_, ents_nodup b⟩
    obtain ⟨y, hy, hxy⟩ := List.mem_map.1 hm
    obtain ⟨i, hi⟩ := List.getElem?_of_mem hy
    obtain ⟨h3, b3, l3⟩ := seps_nth b (nth_map (f := ent) hi)
    obtain ⟨qa, v, e1, e2⟩ := ent_own a
    obtain ⟨qb, v', e3, e4⟩ := ent_own b3
    have hxy : y.1 = x.1 := hxy
    rw [hxy, e1] at e3
    cases e3
    exact absurd (ok _ _ _ _ e2 (l3 _ _ _ e4)).2 (by simp)
theorem ent_some (s : Ss W (CacheHs pa b c pl ++ R) w) {i : Nat} {x : Option Addr × NE} (hx : pl[i]? = some x) : ∃ qa, x.1 = some qa := by
  obtain ⟨h, hh⟩ := s.has (i := 2) rfl
  obtain ⟨h1, a, _⟩ := seps_nth hh (nth_map (f := ent) hx)
  obtain ⟨qa, v, e, _⟩ := ent_own a
  exact ⟨qa, e⟩
theorem ents_nd (s : Ss W (CacheHs pa b c pl ++ R) w) : (pl.map (·.1)).Nodup := by
  obtain ⟨h, hh⟩ := s.has (i := 2) rfl
  exact ents_nodup hh
theorem ent_holds {i : Nat} {x : Option Addr × NE} {qa : Addr} (hx : pl[i]? = some x) (hq : x.1 = some qa) {o : Nat} {L : List Value} (hL : ∀ s, At (c_neigh_entry.enc (entC x.2 s)) o L) : Holds (seps (pl.map ent)) (qa.add o) L := by
  intro h hh
  obtain ⟨h1, ⟨qb, s, sp, e1, e2⟩, l1⟩ := seps_nth hh (nth_map (f := ent) hx)
  rw [hq] at e1
  cases e1
  obtain ⟨h2, a2, l2⟩ := seps_nth e2 (i := 0) rfl
  obtain ⟨spt, hp⟩ := (Holds.pts.at_ (hL s)) h2 a2
  exact ⟨spt, fun j v hv => (hp j v hv).imp fun q hq => l1 _ _ _ (l2 _ _ _ hq)⟩
theorem Ss.entOut (s : Ss W (CacheHs pa b c pl ++ R) w) {i : Nat} {x : Option Addr × NE} (hx : pl[i]? = some x) : ∃ qa sl sp, x.1 = some qa ∧ Ss W (entHs qa x.2 sl sp ++ (pts true pa (c_neigh_Cache.enc ⟨c, some b⟩) :: mapH c_neigh_key cP b (pl.map kp) :: seps ((pl.eraseIdx i).map ent) :: R)) w := by
  have s1 := s.out 2 rfl (nth_map (f := ent) hx)
  rw [wo_map] at s1
  obtain ⟨hb, k, ⟨h1, h2, e, l1, l2, ⟨qa, sl, sp, a1, a2⟩, b'⟩, hw⟩ := s1
  exact ⟨qa, sl, sp, a1, Ss.split ⟨hb, k, ⟨h1, h2, e, l1, l2, a2, b'⟩, hw⟩⟩
theorem erase_set_perm {α : Type} {l : List α} {i : Nat} {x y : α} (h : l[i]? = some x) : (y :: l.eraseIdx i).Perm (l.set i y) := by
  have := erase_perm (l := l.set i y) (j := i) (e := y) (List.getElem?_set_self (List.getElem?_eq_some_iff.1 h).1)
  rw [List.eraseIdx_set_eq] at this
  exact this.symm
theorem Ss.entIn {qa : Addr} {e : NE} {sl : Sl} {sp : List Int} {i : Nat} {x : Option Addr × NE} (hx : pl[i]? = some x) (hq : x.1 = some qa) (hk : e.k = x.2.k)
    (s : Ss W (entHs qa e sl sp ++ (pts true pa (c_neigh_Cache.enc ⟨c, some b⟩) :: mapH c_neigh_key cP b (pl.map kp) :: seps ((pl.eraseIdx i).map ent) :: R)) w) : Ss W (CacheHs pa b c (pl.set i (x.1, e)) ++ R) w := by
  have s1 := s.group.first (B := ent (x.1, e)) (fun h hh => ⟨qa, sl, sp, hq, hh⟩)
  have s2 := s1.into 2 rfl (M := (pl.set i (x.1, e)).map ent) (by
    show ((((x.1, e) :: pl.eraseIdx i)).map ent).Perm _
    exact (erase_set_perm hx).map ent)
  have e1 : (pl.set i (x.1, e)).map kp = pl.map kp := by
    rw [List.map_set]
    refine set_eq ?_
    rw [List.getElem?_map, hx]
    simp [kp, hk]
  unfold CacheHs
  rw [e1]
  exact s2
theorem outside_wp {w : World} (n hi : Int) : WP (neigh_outside n hi) w (fun r w' => r = decide (n < 1 ∨ n > hi) ∧ w = w') := by
  unfold neigh_outside
  refine WP.step (R := fun r w' => r = decide (n < 1 ∨ n > hi) ∧ w = w') (WP.ite (fun h => WP.ret ⟨by simp [h], rfl⟩) (fun h => WP.ret ⟨by simp [h], rfl⟩)) (fun r w h => WP.ret h)
theorem vec_holds {α : Type} {c : Cod α} {a : Addr} {n k : Nat} {l sp : List α} : Holds (vec c ⟨some a, n, k⟩ l sp) a ((l ++ sp).flatMap c.enc) := fun h ⟨_, _, h3⟩ => Holds.pts h h3
theorem place_wp {Hs : List HP} (s : Ss W Hs w) (port : Int) (ip : api_IP) : WP (neigh_place port ip) w (fun r w' => r = placeB port ip ∧ Ss W Hs w') := by
  unfold neigh_place placeB
  refine WP.newv s (fun b1 w s => ?_)
  refine WP.step (R := fun y w' => y = decide (port < 0 ∨ port ≥ 8) ∧ w = w') (WP.ite (fun h => WP.ret ⟨by simp [h], rfl⟩) (fun h => WP.ret ⟨by simp [h], rfl⟩)) ?_
  rintro _ _ ⟨rfl, rfl⟩
  refine WP.ite (fun h => WP.ret ⟨?_, s.drop⟩) (fun h => ?_)
  · have h := of_decide_eq_true h
    rcases h with h | h
    · rw [decide_eq_false (show ¬ 0 ≤ port by omega)]
      rfl
    · rw [decide_eq_false (show ¬ port ≤ 7 by omega), Bool.and_false]
      rfl
  have h : ¬ (port < 0 ∨ port ≥ 8) := fun hh => h (decide_eq_true hh)
  rw [decide_eq_true (show 0 ≤ port by omega), decide_eq_true (show port ≤ 7 by omega), Bool.true_and, Bool.true_and]
  refine WP.newv s (fun b3 w s => WP.draw' s (fun w s => ?_))
  refine WP.bind ⟨⟨some (pt b3 0), 4, 16⟩, w, by simp [Lx.cut, Addr.add], ?_⟩
  refine WP.bind ⟨⟨some (Addr.add (pt b1 0) 1), 4, 16⟩, w, by simp [Lx.cut, Addr.add], ?_⟩
  have s : Ss W (vec (cI .u8) ⟨some (pt b3 0), 4, 16⟩ (List.replicate 4 0) (List.replicate 12 0) :: pts true (pt b1 0) (c_api_IP.enc ip) :: Hs) w := s.first (fun h hp => ⟨rfl, rfl, by
    rw [arr_flat] at hp
    exact hp⟩)
  have hA : Holds (pts true (pt b1 0) (c_api_IP.enc ip)) ((pt b1 0).add 1) (((cI .u8).arr 16).enc ip.A) := Holds.pts.at_ (At_api_IP_A ip)
  have rA : Rdb (pts true (pt b1 0) (c_api_IP.enc ip)) (cI .u8) ⟨some ((pt b1 0).add 1), 4, 16⟩ (ip.A.l.take 4) := by
    rw [arr_flat] at hA
    exact (hA.rdb (k := 16)).take (by rw [ip.A.h]; omega)
  refine WP.cpy s 0 rfl 1 rfl rA (by decide) (fun w s => ?_)
  have s : Ss W (vec (cI .u8) ⟨some (pt b3 0), 4, 16⟩ (ip.A.l.take 4) (List.replicate 12 0) :: pts true (pt b1 0) (c_api_IP.enc ip) :: Hs) w := by
    rw [List.length_take, List.length_replicate, ip.A.h] at s
    simpa [up, List.take_take] using s
  refine WP.ld s 1 rfl (o := 0) (by simp [Addr.add]) (At_api_IP_V ip) ?_
  unfold addrB
  refine WP.step (R := fun y w' => y = (decide (ip.V = 6) || (decide (ip.V = 4) && (ip.A.l.drop 4).all (· == 0))) ∧ Ss W Hs w') (WP.ite (fun h6 => WP.ret ⟨by simp [h6], s.drop.drop⟩) (fun h6 => ?_)) (fun r w h => WP.ret h)
  refine WP.ld s 1 rfl (o := 0) (by simp [Addr.add]) (At_api_IP_V ip) ?_
  refine WP.step (R := fun y w' => y = (decide (ip.V = 6) || (decide (ip.V = 4) && (ip.A.l.drop 4).all (· == 0))) ∧ Ss W Hs w') (WP.ite (fun h4 => ?_) (fun h4 => WP.ret ⟨by simp [h6, h4], s.drop.drop⟩)) (fun r w h => WP.ret h)
  refine WP.ldh s 1 rfl hA rfl ?_
  have hB : Holds (vec (cI .u8) ⟨some (pt b3 0), 4, 16⟩ (ip.A.l.take 4) (List.replicate 12 0)) (pt b3 0) (((cI .u8).arr 16).enc ⟨ip.A.l.take 4 ++ List.replicate 12 0, by simp [ip.A.h]⟩) := by
    rw [arr_flat]
    exact vec_holds
  refine WP.ldh s 0 rfl hB rfl (WP.ret ⟨?_, s.drop.drop⟩)
  rw [decide_eq_false h6, decide_eq_true h4, Bool.false_or, Bool.true_and]
  have hl := ip.A.h
  generalize ip.A = A at hl
  have key : (A = ⟨A.l.take 4 ++ List.replicate 12 0, by simp [hl]⟩) ↔ (A.l.drop 4).all (· == 0) = true := by
    constructor
    · intro h
      have h2 : A.l.drop 4 = List.replicate 12 0 := by
        have := congrArg (fun v : Vec Int 16 => v.l.drop 4) h
        simp only at this
        rw [this, List.drop_left' (by rw [List.length_take, hl]; rfl)]
      rw [h2]
      rfl
    · intro h
      apply Vec.eq
      simp only
      conv => lhs; rw [← List.take_append_drop 4 A.l]
      congr 1
      refine List.eq_replicate_iff.2 ⟨by rw [List.length_drop, hl], fun x hx => ?_⟩
      have := List.all_eq_true.1 h x hx
      simpa using this
  exact eqv_of key.symm
theorem band1 : ∀ x : Nat, x < 256 → band .u8 (x : Int) 1 = ((x % 2 : Nat) : Int) := by decide +kernel
theorem band1' {x : Int} (h : 0 ≤ x ∧ x ≤ 255) : band .u8 x 1 = x % 2 := by
  obtain ⟨n, rfl⟩ : ∃ n : Nat, x = n := ⟨x.toNat, by omega⟩
  rw [band1 n (by omega)]
  rfl
theorem g0_bts {n : Nat} {v : Vec Int n} (h : Bts v.l) (h0 : 0 < n) : 0 ≤ v.g 0 0 ∧ v.g 0 0 ≤ 255 := h _ (List.mem_of_getElem? (vec_g v (i := 0) 0 h0))
theorem station_wp {Hs : List HP} (s : Ss W Hs w) {mac : Vec Int 6} (hm : Bts mac.l) : WP (neigh_station mac) w (fun r w' => r = stationB mac ∧ Ss W Hs w') := by
  unfold neigh_station stationB
  refine WP.slot' s (fun _ w s => WP.step (R := fun y w' => y = (decide (mac ≠ zm) && decide (mac.g 0 0 % 2 = 0)) ∧ Ss W Hs w') (WP.ite (fun h => WP.ret ⟨?_, s⟩) (fun h => WP.ret ⟨?_, s⟩)) (fun r w h => WP.ret h))
  · rw [band1' (g0_bts hm (by decide)), decide_eq_true (show mac ≠ zm from h), Bool.true_and]
    rfl
  · rw [decide_eq_false (show ¬ mac ≠ zm from h), Bool.false_and]
end
end Go.Proofs.Ytlkhijflgbobjaa.Lx
