/- Package neigh's calls, of their programs in the M-world: what asks; room for one more. -/
import Derived.Test.YtlkhijflgbobjaaNeighOps
set_option linter.unusedVariables false
set_option linter.unusedSimpArgs false
namespace Go.Proofs.Ytlkhijflgbobjaa.Lx
open Go Go.Proofs Go.RowKit
section
variable {W w : World} {R Hs : List HP} {p : Option Addr} {pa : Addr} {b : Nat} {c : api_NeighConfig} {pl : List (Option Addr × NE)} {m : NM}
theorem ent_at {j i : Nat} {x : Option Addr × NE} (s : Ss W Hs w) (e : nth Hs j = some (seps (pl.map ent))) (hx : pl[i]? = some x) : ∃ qa sl sp Hs', x.1 = some qa ∧ sl.len = x.2.items.length ∧ Ss W (entHs qa x.2 sl sp ++ Hs') w := by
  have s1 := s.out j e (nth_map (f := ent) hx)
  obtain ⟨hb, k, ⟨h1, h2, e, l1, l2, ⟨qa, sl, sp, a1, a2⟩, b'⟩, hw⟩ := s1
  have s2 := Ss.split ⟨hb, k, ⟨h1, h2, e, l1, l2, a2, b'⟩, hw⟩
  exact ⟨qa, sl, sp, _, a1, (s2.vec_len (i := 1) rfl).1, s2⟩
theorem find_pl (ok : m.Ok) (hl : pl.map (·.2) = m.l) {k : neigh_key} {q : Option Addr} (h : (k, q) ∈ pl.map kp) : ∃ i x, pl[i]? = some x ∧ x.1 = q ∧ x.2.k = k ∧ m.l[i]? = some x.2 ∧ NM.find m.l k = some i := by
  obtain ⟨x, hx, e⟩ := List.mem_map.1 h
  cases e
  obtain ⟨i, hi⟩ := List.getElem?_of_mem hx
  have hm : m.l[i]? = some x.2 := by rw [← hl, List.getElem?_map, hi]; rfl
  exact ⟨i, x, hi, rfl, rfl, hm, NM.find_at ok.s hm⟩
theorem find_pl0 (hl : pl.map (·.2) = m.l) {k : neigh_key} (h : ∀ q, (k, q) ∉ pl.map kp) : NM.find m.l k = none := by
  cases hf : NM.find m.l k with
  | none => rfl
  | some i =>
    obtain ⟨e, h1, h2⟩ := NM.find_some hf
    rw [← hl, List.getElem?_map] at h1
    obtain ⟨x, hx, rfl⟩ := Option.map_eq_some_iff.1 h1
    exact absurd (List.mem_map.2 ⟨x, List.mem_of_getElem? hx, by simp only [kp, h2]⟩) (h x.1)
theorem told_wp {j i : Nat} {x : Option Addr × NE} (s : Ss W Hs w) (e : nth Hs j = some (seps (pl.map ent))) (hx : pl[i]? = some x) : WP (neigh_entry_told x.1) w (fun r w' => r = x.2.told ∧ Ss W Hs w') := by
  unfold neigh_entry_told
  refine WP.slot' s (fun _ w s => WP.draw' s (fun w s => ?_))
  obtain ⟨qa, sl, sp, Hs', h1, h2, s'⟩ := ent_at s e hx
  rw [h1]
  have z : qa = qa.add (0 + 0) := by simp [Addr.add]
  refine WP.nilck (WP.ld s' 0 rfl (o := 0 + 0) z ((At_neigh_entry_key _).trans (At_neigh_key_port _)) ?_)
  refine WP.nilck (WP.ld s' 0 rfl (o := 0 + 1) rfl ((At_neigh_entry_key _).trans (At_neigh_key_ip _)) ?_)
  refine WP.nilck (WP.ld s' 0 rfl (o := 18) rfl (At_neigh_entry_mac _) ?_)
  refine WP.nilck (WP.ld s' 0 rfl (o := 24) rfl (At_neigh_entry_state _) ?_)
  refine WP.nilck (WP.ld s' 0 rfl (o := 25) rfl (At_neigh_entry_age _) ?_)
  refine WP.nilck (WP.ld s' 0 rfl (o := 26) rfl (At_neigh_entry_tries _) ?_)
  refine WP.nilck (WP.ld s' 0 rfl (o := 27) rfl (At_neigh_entry_items _) (WP.ret ⟨?_, s⟩))
  show (⟨x.2.k.port, x.2.k.ip, x.2.mac, x.2.st, x.2.age, x.2.tries, (sl.len : Int)⟩ : api_Neighbour) = _
  rw [h2]
  rfl
theorem All_wp (s : Ss W (Cache p m :: R) w) : WP (neigh_Cache_All p) w (fun r w' => ∃ sp, Ss W (vec c_api_Neighbour r m.all sp :: Cache p m :: R) w') := by
  unfold neigh_Cache_All
  obtain ⟨pa, b, pl, rfl, hl, ok, s⟩ := s.openC
  have po := pl_ok ok hl
  refine WP.step (sorted_wp s po) ?_
  rintro r w ⟨sp, s⟩
  have hlen := (s.vec_len (i := 0) rfl).1
  rw [List.length_map] at hlen
  have := po.n
  refine WP.loopG (γ := Nat × List api_Neighbour) (fun g (x : Sl × Int) w => x.2 = (g.1 : Int) ∧ g.1 ≤ pl.length ∧ Ss W (vec c_api_Neighbour x.1 ((pl.take g.1).map (·.2.told)) g.2 :: vec cP r (pl.map (·.1)) sp :: CacheHs pa b m.c pl ++ R) w) (fun g _ => pl.length - g.1) (0, []) ⟨rfl, Nat.zero_le _, s.mk0 vec_nil⟩ ?_
  clear s
  rintro ⟨i, sp2⟩ ⟨o, x2⟩ w ⟨rfl, hi, s⟩
  simp only at hi s
  show WP (neigh_Cache_All.L1 r o (i : Int)) w _
  unfold neigh_Cache_All.L1
  refine WP.ite (fun h => ?_) (fun h => WP.done ?_)
  · have hi2 : i < pl.length := by omega
    have hx := List.getElem?_eq_getElem hi2
    generalize pl[i] = x at hx
    refine WP.rdx s 1 rfl vec_rdb (by omega) (x := x.1) (by rw [Int.toNat_natCast, List.getElem?_map, hx]; rfl) rfl ?_
    refine WP.step (told_wp s (j := 4) rfl hx) ?_
    rintro _ w ⟨rfl, s⟩
    refine WP.slot' s (fun _ w s => WP.appl s 0 rfl (by rw [List.length_map, List.length_take, List.length_singleton]; omega) (by decide) (fun r2 w sp' s => WP.next ?_))
    refine ⟨(i + 1, sp'), ⟨by rw [wrap_i64 (by omega) (by omega)]; simp, by simp only; omega, ?_⟩, by simp only; omega⟩
    rw [List.take_add_one, hx, List.map_append]
    exact s
  · have : i = pl.length := by omega
    subst this
    rw [List.take_length] at s
    have hm : pl.map (·.2.told) = m.all := by unfold NM.all; rw [← hl, List.map_map]; rfl
    rw [hm] at s
    have s1 := s.use [1, 0] (s := [_, _]) (r := CacheHs pa b m.c pl ++ R) rfl
    have s2 := s1.drop
    have s3 : Ss W (CacheHs pa b m.c pl ++ (vec c_api_Neighbour o m.all sp2 :: R)) w := s2.perm (List.perm_middle (l₁ := CacheHs pa b m.c pl) (l₂ := R)).symm
    exact ⟨sp2, (s3.closeC rfl hl ok).perm (List.Perm.swap _ _ _)⟩
def oldP (pl : List (Option Addr × NE)) (n : Nat) : Option Addr := ((NM.old (pl.map (·.2)) n).bind (pl[·]?)).bind (·.1)
theorem room_wp (s : Ss W (CacheHs pa b m.c pl ++ R) w) (ok : m.Ok) (hl : pl.map (·.2) = m.l) :
    WP (neigh_Cache_room (some pa)) w (fun r w' => (r = true ∧ ∃ m' pl', m.room = some m' ∧ pl'.map (·.2) = m'.l ∧ Ss W (CacheHs pa b m.c pl' ++ R) w') ∨ (r = false ∧ m.room = none ∧ Ss W (CacheHs pa b m.c pl ++ R) w')) := by
  unfold neigh_Cache_room
  have po := pl_ok ok hl
  have hll : m.l.length = pl.length := by rw [← hl, List.length_map]
  refine WP.draw' s (fun w s => WP.nilck (WP.ld s 0 rfl (o := 5) rfl (At_neigh_Cache_at_ _) (WP.nilck ?_)))
  have z : pa = pa.add (0 + 0) := by simp [Addr.add]
  refine WP.ld s 0 rfl (o := 0 + 0) z ((At_neigh_Cache_c _).trans (At_api_NeighConfig_Max _)) (WP.mlen s 1 rfl (WP.same s 0 rfl (o := 0 + 0) z ((At_neigh_Cache_c _).trans (At_api_NeighConfig_Max _)) ?_))
  rw [List.length_map]
  unfold NM.room
  refine WP.ite (fun h => WP.ret (.inl ⟨rfl, m, pl, by rw [hll, if_pos h], hl, s⟩)) (fun h => ?_)
  simp only [hll, if_neg h]
  refine WP.step (sorted_wp s po) ?_
  rintro r w ⟨sp, s⟩
  have hlen := (s.vec_len (i := 0) rfl).1
  rw [List.length_map] at hlen
  have := po.n
  -- what the loop holds
  have hold : ∀ n, n ≤ pl.length → (NM.old m.l n = none ∧ oldP pl n = none) ∨ ∃ k x qa, NM.old m.l n = some k ∧ k < n ∧ pl[k]? = some x ∧ m.l[k]? = some x.2 ∧ x.1 = some qa ∧ oldP pl n = some qa := by
    intro n hn
    cases ho : NM.old m.l n with
    | none => exact .inl ⟨rfl, by unfold oldP; rw [hl, ho]; rfl⟩
    | some k =>
      obtain ⟨h1, h2⟩ := NM.old_spec (by omega) ho
      have hk := List.getElem?_eq_getElem (show k < pl.length by omega)
      obtain ⟨qa, hqa⟩ := ent_some (s.drop : Ss W (CacheHs pa b m.c pl ++ R) w) hk
      refine .inr ⟨k, pl[k], qa, rfl, h1, hk, by rw [← hl, List.getElem?_map, hk]; rfl, hqa, ?_⟩
      unfold oldP
      rw [hl, ho]
      simp only [Option.bind_some, hk, hqa]
  refine WP.loopG (γ := Nat) (fun i (x : Option Addr × Int) w => x = (oldP pl i, (i : Int)) ∧ i ≤ pl.length ∧ Ss W (vec cP r (pl.map (·.1)) sp :: CacheHs pa b m.c pl ++ R) w) (fun i _ => pl.length - i) 0 ⟨rfl, Nat.zero_le _, s⟩ ?_
  clear s
  rintro i _ w ⟨rfl, hi, s⟩
  show WP (neigh_Cache_room.L1 (some pa) r (oldP pl i) (i : Int)) w _
  unfold neigh_Cache_room.L1
  refine WP.ite (fun h' => ?_) (fun h' => ?_)
  · have hi2 : i < pl.length := by omega
    have hx := List.getElem?_eq_getElem hi2
    generalize pl[i] = x at hx
    have hm : m.l[i]? = some x.2 := by rw [← hl, List.getElem?_map, hx]; rfl
    refine WP.rdx s 0 rfl vec_rdb (by omega) (x := x.1) (by rw [Int.toNat_natCast, List.getElem?_map, hx]; rfl) rfl (WP.draw' s (fun w s => ?_))
    obtain ⟨qa, sl, sp', Hs', g1, g2, s'⟩ := ent_at s (j := 3) rfl hx
    have hq : ∀ {β : Type} {f : Addr → M β} {Q : β → World → Prop}, WP (f qa) w Q → WP (Lx.nilck x.1 >>= f) w Q := fun h => by rw [g1]; exact WP.nilck h
    refine hq (WP.ld s' 0 rfl (o := 24) rfl (At_neigh_entry_state _) ?_)
    have hun : NM.old m.l (i + 1) = if x.2.st = 3 ∧ (∀ k ∈ NM.old m.l i, ∀ y ∈ m.l[k]?, y.age < x.2.age) then some i else NM.old m.l i := by
      conv => lhs; unfold NM.old
      rw [hm]
    refine WP.step (R := fun y w' => (y = true ↔ (x.2.st = 3 ∧ (∀ k ∈ NM.old m.l i, ∀ y ∈ m.l[k]?, y.age < x.2.age))) ∧ w = w') ?_ ?_
    · refine WP.ite (fun h3 => ?_) (fun h3 => WP.ret ⟨by constructor; (intro h; cases h); (intro h; exact absurd h.1 h3), rfl⟩)
      have h3 : x.2.st = 3 := h3
      refine WP.step (R := fun y w' => (y = true ↔ (x.2.st = 3 ∧ (∀ k ∈ NM.old m.l i, ∀ y ∈ m.l[k]?, y.age < x.2.age))) ∧ w = w') ?_ (fun r w h => WP.ret h)
      rcases hold i hi with ⟨e1, e2⟩ | ⟨k, u, qk, e1, e2, e3, e4, e5, e6⟩
      · rw [e2]
        exact WP.ite (fun _ => WP.ret ⟨by simp [h3, e1], rfl⟩) (fun h => absurd rfl h)
      · rw [e6]
        refine WP.ite (fun h => by cases h) (fun _ => ?_)
        obtain ⟨qa', sl', sp'', Hs'', k1, k2, s''⟩ := ent_at s (j := 3) rfl e3
        rw [e5] at k1
        cases k1
        refine hq (WP.ld s' 0 rfl (o := 25) rfl (At_neigh_entry_age _) (WP.nilck (WP.ld s'' 0 rfl (o := 25) rfl (At_neigh_entry_age _) (WP.ret ⟨?_, rfl⟩))))
        rw [decide_eq_true_eq]
        simp [h3, e1, e4, entC]
    · rintro y _ ⟨hy, rfl⟩
      have nx : ∀ q, q = oldP pl (i + 1) → WP (pure (LS.next (q, IntKind.wrap .i64 ((i : Int) + 1))) : M (LS (Option Addr × Int) Bool)) w (WP.Rd (fun x' w' => ∃ i', (x' = (oldP pl i', (i' : Int)) ∧ i' ≤ pl.length ∧ Ss W (vec cP r (pl.map (·.1)) sp :: CacheHs pa b m.c pl ++ R) w') ∧ pl.length - i' < pl.length - i) (fun r w' => (r = true ∧ ∃ m' pl', Option.map (fun k => ({ c := m.c, l := m.l.eraseIdx k } : NM)) (NM.old m.l pl.length) = some m' ∧ pl'.map (·.2) = m'.l ∧ Ss W (CacheHs pa b m.c pl' ++ R) w') ∨ (r = false ∧ Option.map (fun k => ({ c := m.c, l := m.l.eraseIdx k } : NM)) (NM.old m.l pl.length) = none ∧ Ss W (CacheHs pa b m.c pl ++ R) w'))) := by
        rintro q rfl
        exact WP.next ⟨i + 1, ⟨by rw [wrap_i64 (by omega) (by omega)]; simp, by omega, s⟩, by omega⟩
      refine WP.ite (fun hh => nx _ ?_) (fun hh => nx _ ?_)
      · unfold oldP
        rw [hl, hun, if_pos (hy.1 hh)]
        simp only [Option.bind_some, hx, g1]
      · unfold oldP
        rw [hl, hun, if_neg (fun h => hh (hy.2 h))]
  · have : i = pl.length := by omega
    subst this
    refine WP.step (R := fun r w' => (r = true ∧ ∃ m' pl', Option.map (fun k => ({ c := m.c, l := m.l.eraseIdx k } : NM)) (NM.old m.l pl.length) = some m' ∧ pl'.map (·.2) = m'.l ∧ Ss W (CacheHs pa b m.c pl' ++ R) w') ∨ (r = false ∧ Option.map (fun k => ({ c := m.c, l := m.l.eraseIdx k } : NM)) (NM.old m.l pl.length) = none ∧ Ss W (CacheHs pa b m.c pl ++ R) w')) ?_ (fun r w h => WP.done h)
    unfold neigh_Cache_room.K1
    have s0 : Ss W (CacheHs pa b m.c pl ++ R) w := s.drop
    rcases hold _ (Nat.le_refl _) with ⟨e1, e2⟩ | ⟨k, u, qk, e1, e2, e3, e4, e5, e6⟩
    · rw [e2, e1]
      exact WP.ite (fun _ => WP.ret (.inr ⟨rfl, rfl, s0⟩)) (fun h => absurd rfl h)
    · rw [e6, e1]
      refine WP.ite (fun h => by cases h) (fun _ => WP.draw' s0 (fun w s => WP.nilck (WP.ld s 0 rfl (o := 5) rfl (At_neigh_Cache_at_ _) ?_)))
      obtain ⟨qa', sl', sp'', Hs'', k1, k2, s''⟩ := ent_at s (j := 2) rfl e3
      rw [e5] at k1
      cases k1
      refine WP.nilck (WP.ld s'' 0 rfl (o := 0) (by simp [Addr.add]) (At_neigh_entry_key _) ?_)
      have hperm : (pl.map kp).Perm ((u.2.k, u.1) :: (pl.eraseIdx k).map kp) := (erase_perm e3).map kp
      refine WP.mdel s 1 rfl (k := u.2.k) (x := u.1) hperm (fun w s => WP.ret (.inl ⟨rfl, _, pl.eraseIdx k, rfl, ?_, ?_⟩))
      · show (pl.eraseIdx k).map (·.2) = m.l.eraseIdx k
        rw [← hl, map_erase]
      · have s2 := s.out 2 rfl (nth_map (f := ent) e3)
        rw [wo_map] at s2
        exact s2.drop
end
end Go.Proofs.Ytlkhijflgbobjaa.Lx
