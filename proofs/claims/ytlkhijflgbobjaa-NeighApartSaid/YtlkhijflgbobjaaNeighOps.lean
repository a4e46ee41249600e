/- Package neigh's calls, of their programs in the M-world: they do what the plain value says (first part). -/
import Derived.Test.YtlkhijflgbobjaaNeighCache
set_option linter.unusedVariables false
set_option linter.unusedSimpArgs false
namespace Go.Proofs.Ytlkhijflgbobjaa.Lx
open Go Go.Proofs Go.RowKit
section
variable {W w : World} {R : List HP} {p : Option Addr} {pa : Addr} {b : Nat} {c : api_NeighConfig} {pl : List (Option Addr × NE)} {m : NM}
def kof (pl : List (Option Addr × NE)) (p : Option Addr) : neigh_key := ((pl.find? (fun x => decide (x.1 = p))).map (·.2.k)).getD z_neigh_key
theorem kof_at {pl : List (Option Addr × NE)} (nd : (pl.map (·.1)).Nodup) {x : Option Addr × NE} (hx : x ∈ pl) : kof pl x.1 = x.2.k := by
  unfold kof
  induction pl with
  | nil => simp at hx
  | cons y pl ih =>
    rw [List.map_cons, List.nodup_cons] at nd
    rw [List.find?_cons]
    rcases List.mem_cons.1 hx with rfl | hx
    · simp
    · have hne : y.1 ≠ x.1 := fun e => nd.1 (List.mem_map.2 ⟨x, hx, e.symm⟩)
      rw [decide_eq_false hne]
      exact ih nd.2 hx
structure PlOk (pl : List (Option Addr × NE)) : Prop where
  k : ∀ x ∈ pl, KeyOk x.2.k
  s : pl.Pairwise fun x y => klt x.2.k y.2.k = true
  n : pl.length ≤ 1024
theorem pl_ok (ok : m.Ok) (hl : pl.map (·.2) = m.l) : PlOk pl := by
  refine ⟨fun x hx => (ok.e x.2 (by rw [← hl]; exact List.mem_map_of_mem hx)).k, ?_, ?_⟩
  · have := ok.s
    rw [← hl, List.pairwise_map] at this
    exact this
  · have h1 := ok.n
    have h2 := ok.c.m1
    rw [← hl, List.length_map] at h1
    omega
theorem pl_inj (po : PlOk pl) {x y : Option Addr × NE} (hx : x ∈ pl) (hy : y ∈ pl) (h : x.2.k = y.2.k) : x = y := by
  obtain ⟨i, hi⟩ := List.getElem?_of_mem hx
  obtain ⟨j, hj⟩ := List.getElem?_of_mem hy
  have s := po.s
  rw [List.pairwise_iff_getElem] at s
  have hi' := List.getElem?_eq_some_iff.1 hi
  have hj' := List.getElem?_eq_some_iff.1 hj
  rcases Nat.lt_trichotomy i j with hlt | rfl | hlt
  · have := s i j hi'.1 hj'.1 hlt
    rw [hi'.2, hj'.2, h, klt_irrefl] at this
    cases this
  · rw [hi] at hj
    cases hj
    rfl
  · have := s j i hj'.1 hi'.1 hlt
    rw [hi'.2, hj'.2, h, klt_irrefl] at this
    cases this
theorem less_cm (po : PlOk pl) (s : Ss W (CacheHs pa b c pl ++ R) w) : Srt.SCmp W (CacheHs pa b c pl ++ R) (fun q => ∃ x ∈ pl, x.1 = q) (fun x y => neigh_less x y) (fun x y => klt (kof pl x) (kof pl y)) := by
  have nd := ents_nd s
  have hsome : ∀ x ∈ pl, ∃ qa, x.1 = some qa := fun x hx => by
    obtain ⟨i, hi⟩ := List.getElem?_of_mem hx
    exact ent_some s hi
  rintro L w' x y s' ⟨u, hu, rfl⟩ ⟨v, hv, rfl⟩
  show WP (neigh_less u.1 v.1) w' (fun r w' => decide (r < 0) = klt (kof pl u.1) (kof pl v.1) ∧ Ss W (L ++ (CacheHs pa b c pl ++ R)) w')
  rw [kof_at nd hu, kof_at nd hv]
  obtain ⟨i, hi⟩ := List.getElem?_of_mem hu
  obtain ⟨j, hj⟩ := List.getElem?_of_mem hv
  obtain ⟨qa, hqa⟩ := hsome u hu
  obtain ⟨qb, hqb⟩ := hsome v hv
  rw [hqa, hqb]
  have h1 := ent_holds hi hqa (o := 0) (L := c_neigh_key.enc u.2.k) (fun s => At_neigh_entry_key (entC u.2 s))
  have h2 := ent_holds hj hqb (o := 0) (L := c_neigh_key.enc v.2.k) (fun s => At_neigh_entry_key (entC v.2 s))
  rw [show qa.add 0 = qa by simp [Addr.add]] at h1
  rw [show qb.add 0 = qb by simp [Addr.add]] at h2
  exact less_wp s' (i := L.length + 2) (by rw [nth_append]; rfl) h1 h2 (po.k u hu) (po.k v hv)
theorem sorted_wp (s : Ss W (CacheHs pa b c pl ++ R) w) (po : PlOk pl) : WP (neigh_Cache_sorted (some pa)) w (fun r w' => ∃ sp, Ss W (vec cP r (pl.map (·.1)) sp :: CacheHs pa b c pl ++ R) w') := by
  unfold neigh_Cache_sorted
  have nd := ents_nd s
  refine WP.nilck (WP.ld s 0 rfl (o := 5) rfl (At_neigh_Cache_at_ _) (WP.mrange s 1 rfl (fun it w s => ?_)))
  have s1 : Ss W (vec cP Sl.nil [] [] :: pts true pa (c_neigh_Cache.enc ⟨c, some b⟩) :: itH c_neigh_key cP b it (pl.map kp) [] :: seps (pl.map ent) :: R) w := s.mk0 vec_nil
  refine WP.loopG (γ := List (neigh_key × Option Addr) × List (Option Addr)) (fun g (x : Sl) w => (∀ e ∈ g.1, e ∈ pl.map kp) ∧ g.1.Nodup ∧ Ss W (vec cP x (g.1.map (·.2)) g.2 :: pts true pa (c_neigh_Cache.enc ⟨c, some b⟩) :: itH c_neigh_key cP b it (pl.map kp) g.1 :: seps (pl.map ent) :: R) w) (fun g _ => pl.length - g.1.length) ([], []) ⟨by simp, by simp, s1⟩ ?_
  clear s s1
  rintro ⟨done, sp⟩ x w ⟨h1, h2, s⟩
  simp only at h1 h2 s
  show WP (neigh_Cache_sorted.L1 it x) w _
  unfold neigh_Cache_sorted.L1
  have hlen := nodup_sub h2 h1
  rw [List.length_map] at hlen
  have := po.n
  refine WP.mnext s 2 rfl (fun k y w hk hnk hnd s => ?_) (fun w hp s => ?_)
  · refine WP.ite (fun _ => WP.mentry s 2 rfl (WP.slot' s (fun _ w s => ?_))) (fun h => absurd rfl h)
    refine WP.appl s 0 rfl (by simp only [List.length_map, List.length_singleton]; omega) (by decide) (fun r w sp' s => WP.next ?_)
    refine ⟨(done ++ [(k, y)], sp'), ⟨fun e he => ?_, hnd, ?_⟩, ?_⟩
    · rcases List.mem_append.1 he with he | he
      · exact h1 e he
      · simp only [List.mem_singleton] at he
        subst he
        exact hk
    · simpa [up] using s
    · have := nodup_sub hnd (m := pl.map kp) (fun e he => by
        rcases List.mem_append.1 he with he | he
        · exact h1 e he
        · simp only [List.mem_singleton] at he
          subst he
          exact hk)
      simp only [List.length_append, List.length_singleton, List.length_map] at this ⊢
      omega
  · refine WP.ite (fun h => by simp at h) (fun _ => ?_)
    have s : Ss W (vec cP x (done.map (·.2)) sp :: (CacheHs pa b c pl ++ R)) w := s
    have cm := less_cm po s.drop
    have hpm : (done.map (·.2)).Perm (pl.map (·.1)) := by
      have := hp.map (·.2)
      rw [List.map_map] at this
      exact this
    refine WP.step (Srt.sort_wp cm (swo_klt _) (l := done.map (·.2)) (by rw [List.length_map]; omega) (fun q hq => ?_) s) ?_
    · obtain ⟨u, hu, e⟩ := List.mem_map.1 (hpm.mem_iff.1 hq)
      exact ⟨u, hu, e⟩
    · rintro _ w ⟨l', hp', hs', s⟩
      have hl : l' = pl.map (·.1) := by
        refine List.Perm.eq_of_pairwise (le := fun x y => klt (kof pl y) (kof pl x) = false) (fun x y hx hy hxy hyx => ?_) hs' ?_ (hp'.trans hpm)
        · obtain ⟨u, hu, rfl⟩ := List.mem_map.1 ((hp'.trans hpm).mem_iff.1 hx)
          obtain ⟨v, hv, rfl⟩ := List.mem_map.1 hy
          rw [kof_at nd hu, kof_at nd hv] at hxy hyx
          rw [pl_inj po hu hv (klt_total _ _ hyx hxy)]
        · rw [List.pairwise_map, List.pairwise_iff_getElem]
          intro i j hi hj hij
          rw [kof_at nd (List.getElem_mem _), kof_at nd (List.getElem_mem _)]
          have := po.s
          rw [List.pairwise_iff_getElem] at this
          exact klt_asymm (this i j hi hj hij)
      subst hl
      exact WP.done ⟨sp, s⟩
def Bad (c : api_NeighConfig) : Prop := ((((c.Max < 1 ∨ c.Max > 1024) ∨ c.Line < 1 ∨ c.Line > 64) ∨ c.Every < 1 ∨ c.Every > 1048576) ∨ c.Tries < 1 ∨ c.Tries > 16) ∨ c.Fresh < 1 ∨ c.Fresh > 1048576
instance (c : api_NeighConfig) : Decidable (Bad c) := by unfold Bad; exact inferInstance
theorem cfg_iff (c : api_NeighConfig) : CfgOk c ↔ ¬ Bad c := by
  unfold Bad
  constructor
  · intro hc
    have := hc.m0; have := hc.m1; have := hc.l0; have := hc.l1; have := hc.e0; have := hc.e1; have := hc.t0; have := hc.t1; have := hc.f0; have := hc.f1
    omega
  · intro h
    exact ⟨by omega, by omega, by omega, by omega, by omega, by omega, by omega, by omega, by omega, by omega⟩
theorem orOut_wp {w : World} {P : Prop} [Decidable P] (n hi : Int) : WP (if decide P = true then pure true else neigh_outside n hi >>= fun r => pure r) w (fun y w' => y = decide (P ∨ n < 1 ∨ n > hi) ∧ w = w') := by
  refine WP.ite (fun h => WP.ret ⟨?_, rfl⟩) (fun h => WP.step (outside_wp _ _) ?_)
  · exact (decide_eq_true (.inl (of_decide_eq_true h))).symm
  · rintro _ _ ⟨rfl, rfl⟩
    have h : ¬ P := fun hp => h (decide_eq_true hp)
    exact WP.ret ⟨decide_eq_decide.2 ⟨.inr, fun hh => hh.resolve_left h⟩, rfl⟩
theorem New_wp {Hs : List HP} (s : Ss W Hs w) (c : api_NeighConfig) : WP (neigh_New c) w (fun r w' => (CfgOk c ∧ r.2 = 0 ∧ Ss W (Cache r.1 ⟨c, []⟩ :: Hs) w') ∨ (¬ CfgOk c ∧ r = (none, 150) ∧ Ss W Hs w')) := by
  unfold neigh_New
  refine WP.slot' s (fun _ w s => WP.step (outside_wp _ _) ?_)
  rintro _ _ ⟨rfl, rfl⟩
  refine WP.step (orOut_wp _ _) ?_
  rintro _ _ ⟨rfl, rfl⟩
  refine WP.step (orOut_wp _ _) ?_
  rintro _ _ ⟨rfl, rfl⟩
  refine WP.step (orOut_wp _ _) ?_
  rintro _ _ ⟨rfl, rfl⟩
  refine WP.step (orOut_wp _ _) ?_
  rintro _ _ ⟨rfl, rfl⟩
  refine WP.ite (fun h => WP.ret (.inr ⟨fun hc => (cfg_iff c).1 hc (of_decide_eq_true h), rfl, s⟩)) (fun h => ?_)
  have hc : CfgOk c := (cfg_iff c).2 (fun hn => h (decide_eq_true hn))
  refine WP.mkMap (ck := c_neigh_key) (cv := cP) s (fun b w s => WP.newv s (fun b' w s => WP.ret (.inl ⟨hc, rfl, ?_⟩)))
  have s1 : Ss W (pts true (pt b' 0) (c_neigh_Cache.enc ⟨c, some b⟩) :: mapH c_neigh_key cP b [] :: seps [] :: Hs) w := by
    have := (s.mk0 (A := seps []) trivial).use [1, 1, 0] (s := [_, _, _]) (r := Hs) rfl
    exact this
  exact Ss.closeC (m := ⟨c, []⟩) (pl := []) s1 rfl rfl (NM.new_ok hc)
end
end Go.Proofs.Ytlkhijflgbobjaa.Lx
