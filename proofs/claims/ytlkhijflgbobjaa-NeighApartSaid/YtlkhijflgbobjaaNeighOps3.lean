/- Package neigh's calls, of their programs in the M-world: Want, Learn. -/
import Derived.Test.YtlkhijflgbobjaaNeighOps2
set_option linter.unusedVariables false
set_option linter.unusedSimpArgs false
namespace Go.Proofs.Ytlkhijflgbobjaa.Lx
open Go Go.Proofs Go.RowKit
section
variable {W w : World} {R Hs : List HP} {p : Option Addr} {pa : Addr} {b : Nat} {c : api_NeighConfig} {pl : List (Option Addr × NE)} {m : NM}
theorem insPerm {α : Type} (l : List α) (n : Nat) (x : α) : (x :: l).Perm (l.take n ++ x :: l.drop n) := by
  have : (l.take n ++ x :: l.drop n).Perm (x :: (l.take n ++ l.drop n)) := List.perm_middle
  rw [List.take_append_drop] at this
  exact this.symm
theorem Ss.entNew {e : NE} {q : Option Addr} (n : Nat) (s : Ss W (ent (q, e) :: pts true pa (c_neigh_Cache.enc ⟨c, some b⟩) :: mapH c_neigh_key cP b (pl.map kp ++ [(e.k, q)]) :: seps (pl.map ent) :: R) w) : Ss W (CacheHs pa b c (pl.take n ++ (q, e) :: pl.drop n) ++ R) w := by
  have s1 := s.into 2 rfl (M := (pl.take n ++ (q, e) :: pl.drop n).map ent) ((insPerm pl n (q, e)).map ent)
  have s2 := s1.close (i := 1) rfl (mapH_perm (kvs' := (pl.take n ++ (q, e) :: pl.drop n).map kp) ((List.perm_append_comm.trans (List.Perm.refl _)).trans ((insPerm pl n (q, e)).map kp)))
  exact s2
theorem insHl {m' : NM} (hl : pl.map (·.2) = m'.l) (q : Option Addr) (e : NE) : (pl.take (NM.insAt m'.l e.k) ++ (q, e) :: pl.drop (NM.insAt m'.l e.k)).map (·.2) = NM.ins m'.l e := by
  unfold NM.ins
  rw [List.map_append, List.map_cons, List.map_take, List.map_drop, hl]
theorem key_new {m m' : NM} (ok : m.Ok) (hr : m.room = some m') (hl : pl.map (·.2) = m'.l) {k : neigh_key} (hf : NM.find m.l k = none) : ∀ q, (k, q) ∉ pl.map kp := by
  intro q hq
  obtain ⟨x, hx, e⟩ := List.mem_map.1 hq
  cases e
  have h1 : x.2 ∈ m'.l := by rw [← hl]; exact List.mem_map_of_mem hx
  exact NM.find_none hf x.2 ((NM.room_spec ok hr).2.2.2 _ h1) rfl
theorem set_hl (hl : pl.map (·.2) = m.l) (i : Nat) (q : Option Addr) (e : NE) : (pl.set i (q, e)).map (·.2) = (m.put i e).l := by
  rw [List.map_set, hl]
  rfl
theorem Want_wp (s : Ss W (Cache p m :: R) w) (port : Int) (ip : api_IP) (hb : Bts ip.A.l) (item : Int) : WP (neigh_Cache_Want p port ip item) w (fun r w' => r = (m.want port ip item).2 ∧ Ss W (Cache p (m.want port ip item).1 :: R) w') := by
  unfold neigh_Cache_Want
  have okw := NM.want_ok s.okC (port := port) hb item
  unfold NM.want at okw ⊢
  refine WP.slot' s (fun _ w s => WP.slot' s (fun _ w s => WP.step (place_wp s port ip) ?_))
  rintro _ w ⟨rfl, s⟩
  refine WP.ite (fun h => ?_) (fun h => ?_)
  · have h : placeB port ip = false := by simpa using h
    simp only [if_pos h]
    exact WP.ret ⟨rfl, s⟩
  have h : ¬ placeB port ip = false := by simpa using h
  simp only [if_neg h] at okw ⊢
  obtain ⟨pa, b, pl, rfl, hl, ok, s⟩ := s.openC
  refine WP.slot' s (fun _ w s => WP.draw' s (fun w s => WP.nilck (WP.ld s 0 rfl (o := 5) rfl (At_neigh_Cache_at_ _) ?_)))
  refine WP.mget s 1 rfl (fun q hq => ?_) (fun h0 => ?_)
  · obtain ⟨i, x, h1, rfl, h3, h4, h5⟩ := find_pl ok hl hq
    simp only [h5, h4] at okw ⊢
    obtain ⟨qa, hqa⟩ := ent_some s h1
    simp only [hqa]
    refine WP.step (R := fun y w' => y = false ∧ Ss W (CacheHs pa b m.c pl ++ R) w') (WP.ite (fun h => by cases h) (fun _ => WP.ret ⟨rfl, s⟩)) ?_
    rintro _ w ⟨rfl, s⟩
    refine WP.ite (fun h => by cases h) (fun _ => WP.ite (fun h => by cases h) (fun _ => ?_))
    obtain ⟨qa', sl, sp, g1, s'⟩ := s.entOut h1
    rw [hqa] at g1
    cases g1
    refine WP.nilck (WP.ld s' 0 rfl (o := 24) rfl (At_neigh_entry_state _) ?_)
    have fin : ∀ {e : NE} {sl : Sl} {sp : List Int} {w : World}, e.k = x.2.k → (m.put i e).Ok → Ss W (entHs qa e sl sp ++ (pts true pa (c_neigh_Cache.enc ⟨m.c, some b⟩) :: mapH c_neigh_key cP b (pl.map kp) :: seps ((pl.eraseIdx i).map ent) :: R)) w → Ss W (Cache (some pa) (m.put i e) :: R) w := by
      intro e sl sp w hk ok' s
      exact Ss.closeC (m := m.put i e) (pl := pl.set i (x.1, e)) (s.entIn h1 hqa hk) rfl (set_hl hl i _ e) ok'
    refine WP.ite (fun h3s => ?_) (fun h3s => ?_)
    · have h3s : x.2.st = 3 := h3s
      simp only [if_pos h3s] at okw ⊢
      refine WP.nilck (WP.st s' 0 rfl (o := 24) rfl (Up_neigh_entry_state _ _) (fun w s' => WP.nilck (WP.st s' 0 rfl (o := 25) rfl (Up_neigh_entry_age _ _) (fun w s' => WP.nilck (WP.st s' 0 rfl (o := 26) rfl (Up_neigh_entry_tries _ _) (fun w s' => WP.nilck (WP.ld s' 0 rfl (o := 18) rfl (At_neigh_entry_mac _) (WP.ret ⟨rfl, ?_⟩))))))))
      exact fin (e := { x.2 with st := 4, age := 0, tries := 1 }) rfl okw s'
    · have h3s : ¬ x.2.st = 3 := h3s
      simp only [if_neg h3s] at okw ⊢
      refine WP.nilck (WP.ld s' 0 rfl (o := 24) rfl (At_neigh_entry_state _) ?_)
      refine WP.ite (fun h1s => ?_) (fun h1s => ?_)
      · have h1s : x.2.st ≠ 1 := h1s
        simp only [if_pos h1s] at okw ⊢
        exact WP.nilck (WP.ld s' 0 rfl (o := 18) rfl (At_neigh_entry_mac _) (WP.ret ⟨rfl, s.closeC rfl hl ok⟩))
      · have h1s : ¬ x.2.st ≠ 1 := h1s
        simp only [if_neg h1s] at okw ⊢
        refine WP.draw ?_
        have s := s.drew
        have s' := s'.drew
        have hlen := (s'.vec_len (i := 1) rfl).1
        refine WP.nilck (WP.ld s' 0 rfl (o := 27) rfl (At_neigh_entry_items _) (WP.nilck (WP.ld s' 2 rfl (o := 0 + 1) rfl ((At_neigh_Cache_c _).trans (At_api_NeighConfig_Line _)) ?_)))
        show WP (if (sl.len : Int) = m.c.Line then _ else _) _ _
        rw [hlen]
        refine WP.ite (fun hL => ?_) (fun hL => ?_)
        · simp only [if_pos hL] at okw ⊢
          exact WP.ret ⟨rfl, s.closeC rfl hl ok⟩
        · simp only [if_neg hL] at okw ⊢
          have hi := (ok.e x.2 (by rw [← hl]; exact List.mem_map_of_mem (List.mem_of_getElem? h1))).i
          have hl1 := ok.c.l1
          refine WP.nilck (WP.ld s' 0 rfl (o := 27) rfl (At_neigh_entry_items _) (WP.slot' s' (fun _ w s' => WP.appl s' 1 rfl (by rw [List.length_singleton]; omega) (by decide) (fun r w sp' s' => WP.nilck (WP.st s' 0 rfl (o := 27) rfl (Up_neigh_entry_items _ _) (fun w s' => WP.ret ⟨rfl, ?_⟩))))))
          exact fin (e := { x.2 with items := x.2.items ++ [item] }) rfl okw s'
  · have hf := find_pl0 hl h0
    simp only [hf] at okw ⊢
    refine WP.step (R := fun y w' => (y = false ∧ ∃ m' pl', m.room = some m' ∧ pl'.map (·.2) = m'.l ∧ Ss W (CacheHs pa b m.c pl' ++ R) w') ∨ (y = true ∧ m.room = none ∧ Ss W (CacheHs pa b m.c pl ++ R) w')) (WP.ite (fun _ => WP.step (room_wp s ok hl) (fun r w h => WP.ret ?_)) (fun h => absurd (by trivial) h)) ?_
    · rcases h with ⟨rfl, h⟩ | ⟨rfl, h⟩
      · exact .inl ⟨rfl, h⟩
      · exact .inr ⟨rfl, h⟩
    rintro y w (⟨rfl, m', pl', hr, hl', s⟩ | ⟨rfl, hr, s⟩)
    · simp only [hr] at okw ⊢
      refine WP.ite (fun h => by cases h) (fun _ => WP.ite (fun _ => ?_) (fun h => absurd (by trivial) h))
      have hc := (NM.room_spec ok hr).2.1
      refine WP.draw' s (fun w s => WP.nilck (WP.ld s 0 rfl (o := 5) rfl (At_neigh_Cache_at_ _) (WP.newv s (fun b1 w s => WP.same s 1 rfl (o := 5) rfl (At_neigh_Cache_at_ _) (WP.newv s (fun b2 w s => WP.same s 2 rfl (o := 5) rfl (At_neigh_Cache_at_ _) ?_))))))
      refine WP.mset s 3 rfl (key_new ok hr hl' hf) (fun w s => WP.ret ⟨rfl, ?_⟩)
      let e : NE := ⟨⟨port, ip⟩, zm, 1, 0, 1, [item]⟩
      have s1 : Ss W ((entHs (pt b2 0) e ⟨some (pt b1 0), 1, 1⟩ []) ++ (pts true pa (c_neigh_Cache.enc ⟨m.c, some b⟩) :: mapH c_neigh_key cP b (pl'.map kp ++ [(e.k, some (pt b2 0))]) :: seps (pl'.map ent) :: R)) w := by
        have s2 := s.close (i := 1) rfl (B := vec (cI .i64) ⟨some (pt b1 0), 1, 1⟩ [item] []) (fun h hp => ⟨rfl, rfl, hp⟩)
        exact s2
      have s2 := s1.group.first (B := ent (some (pt b2 0), e)) (fun h hh => ⟨pt b2 0, _, [], rfl, hh⟩)
      have s3 := s2.entNew (NM.insAt m'.l e.k)
      rw [← hc] at s3
      exact Ss.closeC (m := { m' with l := NM.ins m'.l e }) s3 rfl (insHl hl' _ e) okw
    · simp only [hr] at okw ⊢
      exact WP.ite (fun _ => WP.ret ⟨rfl, s.closeC rfl hl ok⟩) (fun h => absurd (by trivial) h)
theorem vec_clip {α : Type} {c : Cod α} {s : Sl} {l sp : List α} {h : PH} (hv : vec c s l sp h) : vec c ⟨s.a, l.length, l.length⟩ l [] h := by
  obtain ⟨h1, h2, h3⟩ := hv
  refine ⟨rfl, by simp, ?_⟩
  cases ha : s.a with
  | none => rw [ha] at h3; exact ⟨h3.1, rfl⟩
  | some a =>
    rw [ha] at h3
    obtain ⟨sp', hp⟩ := h3
    refine ⟨sp', fun i x hx => hp i x ?_⟩
    rw [List.append_nil] at hx
    rw [List.flatMap_append, List.getElem?_append_left (List.getElem?_eq_some_iff.1 hx).1]
    exact hx
theorem take_wp {qa : Addr} {e : NE} {sl : Sl} {sp : List Int} (s : Ss W (entHs qa e sl sp ++ R) w) : WP (neigh_entry_take (some qa)) w (fun r w' => Ss W (entHs qa { e with items := [] } Sl.nil [] ++ (vec (cI .i64) r e.items [] :: R)) w') := by
  unfold neigh_entry_take
  refine WP.nilck (WP.ld s 0 rfl (o := 27) rfl (At_neigh_entry_items _) ?_)
  have hlen := (s.vec_len (i := 1) rfl)
  show WP (slices_Clip_int_int sl >>= _) w _
  unfold slices_Clip_int_int
  refine WP.step (R := fun r w' => r = ⟨sl.a, e.items.length, e.items.length⟩ ∧ Ss W (entHs qa e sl sp ++ R) w') ?_ ?_
  · rw [hlen.1]
    exact WP.cutpre3 (by omega) (Int.le_refl _) (by omega) (WP.ret ⟨by simp, s⟩)
  rintro _ w ⟨rfl, s⟩
  refine WP.nilck (WP.st s 0 rfl (o := 27) rfl (Up_neigh_entry_items _ _) (fun w s => WP.ret ?_))
  have s1 := s.close (i := 1) rfl (fun h hv => vec_clip hv)
  have s2 := s1.mk0 (A := vec (cI .i64) Sl.nil [] []) vec_nil
  exact s2.use [1, 0] (s := [_, _]) (r := vec (cI .i64) ⟨sl.a, e.items.length, e.items.length⟩ e.items [] :: R) rfl
theorem Learn_wp (s : Ss W (Cache p m :: R) w) (port : Int) (ip : api_IP) (hb : Bts ip.A.l) (mac : Vec Int 6) (hm : Bts mac.l) (how : Int) : WP (neigh_Cache_Learn p port ip mac how) w (fun r w' => r.2 = (m.learn port ip mac how).2.2 ∧ Ss W (vec (cI .i64) r.1 (m.learn port ip mac how).2.1 [] :: Cache p (m.learn port ip mac how).1 :: R) w') := by
  unfold neigh_Cache_Learn
  have okw := NM.learn_ok s.okC (port := port) hb hm how
  unfold NM.learn at okw ⊢
  refine WP.slot' s (fun _ w s => WP.slot' s (fun _ w s => WP.step (place_wp s port ip) ?_))
  rintro _ w ⟨rfl, s⟩
  refine WP.step (R := fun y w' => y = decide (placeB port ip = false ∨ stationB mac = false) ∧ Ss W (Cache p m :: R) w') (WP.ite (fun h => WP.ret ⟨?_, s⟩) (fun h => WP.step (station_wp s hm) ?_)) ?_
  · rw [decide_eq_true (.inl (by simpa using h))]
  · rintro _ w ⟨rfl, s⟩
    have h : placeB port ip = true := by simpa using h
    refine WP.ret ⟨?_, s⟩
    rw [h]
    cases stationB mac <;> rfl
  rintro _ w ⟨rfl, s⟩
  refine WP.step (R := fun y w' => y = decide (placeB port ip = false ∨ stationB mac = false ∨ how < 1) ∧ Ss W (Cache p m :: R) w') (WP.ite (fun h => WP.ret ⟨?_, s⟩) (fun h => WP.ret ⟨?_, s⟩)) ?_
  · have h := of_decide_eq_true h
    rw [decide_eq_true (h.imp (fun h => h) (.inl))]
  · have h : ¬ (placeB port ip = false ∨ stationB mac = false) := fun hh => h (decide_eq_true hh)
    refine decide_eq_decide.2 ⟨fun hh => .inr (.inr hh), fun hh => ?_⟩
    rcases hh with hh | hh | hh
    · exact absurd (.inl hh) h
    · exact absurd (.inr hh) h
    · exact hh
  rintro _ w ⟨rfl, s⟩
  refine WP.step (R := fun y w' => y = decide (placeB port ip = false ∨ stationB mac = false ∨ how < 1 ∨ how > 3) ∧ Ss W (Cache p m :: R) w') (WP.ite (fun h => WP.ret ⟨?_, s⟩) (fun h => WP.ret ⟨?_, s⟩)) ?_
  · have h := of_decide_eq_true h
    rw [decide_eq_true (h.imp (fun h => h) (fun h => h.imp (fun h => h) .inl))]
  · have h : ¬ (placeB port ip = false ∨ stationB mac = false ∨ how < 1) := fun hh => h (decide_eq_true hh)
    refine decide_eq_decide.2 ⟨fun hh => .inr (.inr (.inr hh)), fun hh => ?_⟩
    rcases hh with hh | hh | hh | hh
    · exact absurd (.inl hh) h
    · exact absurd (.inr (.inl hh)) h
    · exact absurd (.inr (.inr hh)) h
    · exact hh
  rintro _ w ⟨rfl, s⟩
  refine WP.ite (fun h => ?_) (fun h => ?_)
  · have h := of_decide_eq_true h
    simp only [if_pos h] at okw ⊢
    exact WP.ret ⟨rfl, s.mk0 vec_nil⟩
  have h : ¬ (placeB port ip = false ∨ stationB mac = false ∨ how < 1 ∨ how > 3) := fun hh => h (decide_eq_true hh)
  simp only [if_neg h] at okw ⊢
  obtain ⟨pa, b, pl, rfl, hl, ok, s⟩ := s.openC
  refine WP.slot' s (fun _ w s => WP.draw' s (fun w s => WP.nilck (WP.ld s 0 rfl (o := 5) rfl (At_neigh_Cache_at_ _) ?_)))
  refine WP.mget s 1 rfl (fun q hq => ?_) (fun h0 => ?_)
  · obtain ⟨i, x, h1, rfl, h3, h4, h5⟩ := find_pl ok hl hq
    simp only [h5, h4] at okw ⊢
    obtain ⟨qa, hqa⟩ := ent_some s h1
    simp only [hqa]
    refine WP.step (R := fun y w' => y = false ∧ Ss W (CacheHs pa b m.c pl ++ R) w') (WP.ite (fun h => by cases h) (fun _ => WP.ret ⟨rfl, s⟩)) ?_
    rintro _ w ⟨rfl, s⟩
    refine WP.ite (fun h => by cases h) (fun _ => WP.step (R := fun y w' => y = false ∧ Ss W (CacheHs pa b m.c pl ++ R) w') (WP.ite (fun h => by cases h) (fun _ => WP.ret ⟨rfl, s⟩)) ?_)
    rintro _ w ⟨rfl, s⟩
    refine WP.ite (fun h => by cases h) (fun _ => WP.ite (fun h => by cases h) (fun _ => ?_))
    have ek := ok.e x.2 (by rw [← hl]; exact List.mem_map_of_mem (List.mem_of_getElem? h1))
    obtain ⟨qa', sl, sp, g1, s'⟩ := s.entOut h1
    rw [hqa] at g1
    cases g1
    have fin : ∀ {e : NE} {sl : Sl} {sp : List Int} {w : World} {A : HP}, e.k = x.2.k → (m.put i e).Ok → Ss W (entHs qa e sl sp ++ (A :: (pts true pa (c_neigh_Cache.enc ⟨m.c, some b⟩) :: mapH c_neigh_key cP b (pl.map kp) :: seps ((pl.eraseIdx i).map ent) :: R))) w → Ss W (A :: Cache (some pa) (m.put i e) :: R) w := by
      intro e sl sp w A hk ok' s
      have s1 : Ss W (entHs qa e sl sp ++ (pts true pa (c_neigh_Cache.enc ⟨m.c, some b⟩) :: mapH c_neigh_key cP b (pl.map kp) :: seps ((pl.eraseIdx i).map ent) :: A :: R)) w := s.use [0, 0, 1, 1, 1, 0] (s := [_, _, _, _, _, _]) (r := R) rfl
      exact (Ss.closeC (m := m.put i e) (pl := pl.set i (x.1, e)) (s1.entIn h1 hqa hk) rfl (set_hl hl i _ e) ok').perm (List.Perm.swap _ _ _)
    refine WP.ite (fun h1h => ?_) (fun h1h => ?_)
    · simp only [if_pos h1h] at okw ⊢
      refine WP.nilck (WP.st s' 0 rfl (o := 18) rfl (Up_neigh_entry_mac _ _) (fun w s' => WP.nilck (WP.st s' 0 rfl (o := 24) rfl (Up_neigh_entry_state _ _) (fun w s' => WP.nilck (WP.st s' 0 rfl (o := 25) rfl (Up_neigh_entry_age _ _) (fun w s' => WP.nilck (WP.st s' 0 rfl (o := 26) rfl (Up_neigh_entry_tries _ _) (fun w s' => ?_))))))))
      refine WP.step (take_wp (e := ⟨x.2.k, mac, 2, 0, 0, x.2.items⟩) s') (fun r w s' => WP.ret ⟨rfl, ?_⟩)
      exact fin (e := ⟨x.2.k, mac, 2, 0, 0, []⟩) rfl okw s'
    · simp only [if_neg h1h] at okw ⊢
      refine WP.draw ?_
      have s := s.drew
      have s' := s'.drew
      refine WP.nilck (WP.ld s' 0 rfl (o := 24) rfl (At_neigh_entry_state _) ?_)
      refine WP.step (R := fun y w' => (y = true ↔ (x.2.st = 1 ∨ x.2.mac ≠ mac)) ∧ Ss W (entHs qa x.2 sl sp ++ (pts true pa (c_neigh_Cache.enc ⟨m.c, some b⟩) :: mapH c_neigh_key cP b (pl.map kp) :: seps ((pl.eraseIdx i).map ent) :: R)) w') (WP.ite (fun hs => WP.ret ⟨⟨fun _ => .inl hs, fun _ => rfl⟩, s'⟩) (fun hs => WP.nilck (WP.ld s' 0 rfl (o := 18) rfl (At_neigh_entry_mac _) (WP.ret ⟨?_, s'⟩)))) ?_
      · have hs : ¬ x.2.st = 1 := hs
        show (!eqv x.2.mac mac) = true ↔ _
        constructor
        · intro h
          refine .inr fun e => ?_
          rw [eqv_true.2 e] at h
          cases h
        · intro h
          cases h' : eqv x.2.mac mac with
          | false => rfl
          | true => exact absurd (eqv_true.1 h') (h.resolve_left hs)
      · rintro y w ⟨hy, s'⟩
        refine WP.ite (fun hh => ?_) (fun hh => ?_)
        · simp only [if_pos (hy.1 hh)] at okw ⊢
          refine WP.nilck (WP.st s' 0 rfl (o := 18) rfl (Up_neigh_entry_mac _ _) (fun w s' => WP.nilck (WP.st s' 0 rfl (o := 24) rfl (Up_neigh_entry_state _ _) (fun w s' => WP.nilck (WP.st s' 0 rfl (o := 25) rfl (Up_neigh_entry_age _ _) (fun w s' => WP.nilck (WP.st s' 0 rfl (o := 26) rfl (Up_neigh_entry_tries _ _) (fun w s' => ?_))))))))
          refine WP.step (take_wp (e := ⟨x.2.k, mac, 3, 0, 0, x.2.items⟩) s') (fun r w s' => WP.ret ⟨rfl, ?_⟩)
          exact fin (e := ⟨x.2.k, mac, 3, 0, 0, []⟩) rfl okw s'
        · have hn : ¬ (x.2.st = 1 ∨ x.2.mac ≠ mac) := fun h => hh (hy.2 h)
          simp only [if_neg hn] at okw ⊢
          have hit : x.2.items = [] := Classical.byContradiction fun h => hn (.inl (ek.ie.2 h))
          refine WP.step (take_wp s') (fun r w s' => WP.ret ⟨rfl, ?_⟩)
          have e1 : ({ x.2 with items := [] } : NE) = x.2 := by
            have := hit
            cases hx : x.2
            rw [hx] at this
            simp only at this
            rw [this]
          rw [e1, hit] at s'
          have e2 : m.put i x.2 = m := by
            unfold NM.put
            rw [set_eq h4]
          have := fin (e := x.2) rfl (by rw [e2]; exact ok) s'
          rwa [e2] at this
  · have hf := find_pl0 hl h0
    simp only [hf] at okw ⊢
    refine WP.step (R := fun y w' => y = decide (how ≠ 2) ∧ Ss W (CacheHs pa b m.c pl ++ R) w') (WP.ite (fun _ => WP.ret ⟨by
      by_cases h2 : how = 2
      · subst h2; rfl
      · rw [decide_eq_true h2]; simpa using h2, s⟩) (fun h => absurd (by trivial) h)) ?_
    rintro _ w ⟨rfl, s⟩
    refine WP.ite (fun h2 => ?_) (fun h2 => ?_)
    · have h2 := of_decide_eq_true h2
      simp only [if_pos h2] at okw ⊢
      exact WP.ret ⟨rfl, (s.closeC rfl hl ok).mk0 vec_nil⟩
    have h2 : ¬ how ≠ 2 := fun h => h2 (decide_eq_true h)
    simp only [if_neg h2] at okw ⊢
    refine WP.step (R := fun y w' => (y = false ∧ ∃ m' pl', m.room = some m' ∧ pl'.map (·.2) = m'.l ∧ Ss W (CacheHs pa b m.c pl' ++ R) w') ∨ (y = true ∧ m.room = none ∧ Ss W (CacheHs pa b m.c pl ++ R) w')) (WP.ite (fun _ => WP.step (room_wp s ok hl) (fun r w h => WP.ret ?_)) (fun h => absurd (by trivial) h)) ?_
    · rcases h with ⟨rfl, h⟩ | ⟨rfl, h⟩
      · exact .inl ⟨rfl, h⟩
      · exact .inr ⟨rfl, h⟩
    rintro y w (⟨rfl, m', pl', hr, hl', s⟩ | ⟨rfl, hr, s⟩)
    · simp only [hr] at okw ⊢
      refine WP.ite (fun h => by cases h) (fun _ => WP.ite (fun _ => ?_) (fun h => absurd (by trivial) h))
      have hc := (NM.room_spec ok hr).2.1
      refine WP.draw' s (fun w s => WP.nilck (WP.ld s 0 rfl (o := 5) rfl (At_neigh_Cache_at_ _) (WP.newv s (fun b2 w s => WP.same s 1 rfl (o := 5) rfl (At_neigh_Cache_at_ _) ?_))))
      refine WP.mset s 2 rfl (key_new ok hr hl' hf) (fun w s => WP.ret ⟨rfl, ?_⟩)
      let e : NE := ⟨⟨port, ip⟩, mac, 3, 0, 0, []⟩
      have s1 : Ss W ((entHs (pt b2 0) e Sl.nil []) ++ (pts true pa (c_neigh_Cache.enc ⟨m.c, some b⟩) :: mapH c_neigh_key cP b (pl'.map kp ++ [(e.k, some (pt b2 0))]) :: seps (pl'.map ent) :: R)) w := by
        have s2 := s.mk0 (A := vec (cI .i64) Sl.nil [] []) vec_nil
        exact s2.use [1, 0] (s := [_, _]) (r := pts true pa (c_neigh_Cache.enc ⟨m.c, some b⟩) :: mapH c_neigh_key cP b (pl'.map kp ++ [(e.k, some (pt b2 0))]) :: seps (pl'.map ent) :: R) rfl
      have s2 := s1.group.first (B := ent (some (pt b2 0), e)) (fun h hh => ⟨pt b2 0, _, [], rfl, hh⟩)
      have s3 := s2.entNew (NM.insAt m'.l e.k)
      rw [← hc] at s3
      exact (Ss.closeC (m := { m' with l := NM.ins m'.l e }) s3 rfl (insHl hl' _ e) okw).mk0 vec_nil
    · simp only [hr] at okw ⊢
      exact WP.ite (fun _ => WP.ret ⟨rfl, (s.closeC rfl hl ok).mk0 vec_nil⟩) (fun h => absurd (by trivial) h)
end
end Go.Proofs.Ytlkhijflgbobjaa.Lx
