/- The walk of the law RouteFull: 256 routes are taken, a further one is not; behind the Drop of one there is room for one. -/
import Derived.Test.YtfgcobigollfjaaDoorRouteFind
set_option linter.unusedVariables false
set_option linter.unusedSimpArgs false
namespace Go.Proofs.YtfgcobigollfjaaDoor.Lx
open Go Go.Proofs Go.RowKit
def fullV (i : Nat) : Vec Int 16 := ⟨[10, ((i / 200 : Nat) : Int), ((i % 200 : Nat) : Int), 0, 0, 0, 0, 0, 0, 0, 0, 0, 0, 0, 0, 0], rfl⟩
def fullM (i : Nat) : api_Route := ⟨⟨⟨4, fullV i⟩, 24⟩, ((i % 8 : Nat) : Int), z_api_IP⟩
theorem full_px : ∀ i : _root_.Fin 257, vpM (fullM i.val).Prefix = 0 ∧ sizeM (fullM i.val).Prefix.IP = 32 := by decide +kernel
theorem full_is {i : Nat} (h : i ≤ 256) : isPx (fullM i).Prefix = true ∧ sizeM (fullM i).Prefix.IP = 32 ∧ maskM (fullV i) 24 = fullV i := by
  obtain ⟨h1, h2⟩ := full_px ⟨i, by omega⟩
  obtain ⟨_, _, _, h4⟩ := vpM_len h1
  exact ⟨by simp [isPx, h1], h2, h4⟩
theorem full_byt {i : Nat} (h : i ≤ 256) : Byt (fullM i).Prefix.IP.A.l := by
  intro x hx
  have hx' : x ∈ [10, ((i / 200 : Nat) : Int), ((i % 200 : Nat) : Int), 0, 0, 0, 0, 0, 0, 0, 0, 0, 0, 0, 0, 0] := hx
  simp only [List.mem_cons, List.not_mem_nil, or_false] at hx'
  omega
theorem full_inj {i j : Nat} (h : (fullM i).Prefix = (fullM j).Prefix) : i = j := by
  have h1 : (fullV i).l = (fullV j).l := congrArg (fun p : api_Prefix => p.IP.A.l) h
  have h2 : ((i / 200 : Nat) : Int) = ((j / 200 : Nat) : Int) := by simpa [fullV] using congrArg (fun l : List Int => l.getD 1 0) h1
  have h3 : ((i % 200 : Nat) : Int) = ((j % 200 : Nat) : Int) := by simpa [fullV] using congrArg (fun l : List Int => l.getD 2 0) h1
  omega
def fulls (k : Nat) : List api_Route := (List.range k).map fullM
theorem fulls_len (k : Nat) : (fulls k).length = k := by simp [fulls]
theorem fulls_known {k j : Nat} : known (fulls k) (fullM j).Prefix = true ↔ j < k := by
  rw [known_iff]
  constructor
  · rintro ⟨x, hx, e⟩
    obtain ⟨i, hi, rfl⟩ := List.mem_map.1 hx
    have := full_inj e
    have := List.mem_range.1 hi
    omega
  · intro h
    exact ⟨fullM j, List.mem_map.2 ⟨j, List.mem_range.2 h, rfl⟩, rfl⟩
theorem fulls_nd {k : Nat} : ((fulls k).map (·.Prefix)).Nodup := by
  unfold fulls
  rw [List.map_map]
  exact List.Pairwise.map _ (fun i j h e => h (full_inj e)) List.nodup_range
theorem drop_split {L : List api_Route} {k : api_Prefix} (nd : (L.map (·.Prefix)).Nodup) (hk : known L k = true) : ∃ l1 x l2, L = l1 ++ x :: l2 ∧ x.Prefix = k ∧ dropR L k = l1 ++ l2 := by
  obtain ⟨x, hx, rfl⟩ := known_iff.1 hk
  obtain ⟨l1, l2, rfl⟩ := List.append_of_mem hx
  refine ⟨l1, x, l2, rfl, rfl, ?_⟩
  unfold dropR
  rw [List.filter_append, List.filter_cons_of_neg (by simp)]
  have hn : ∀ y, y ∈ l1 ∨ y ∈ l2 → y.Prefix ≠ x.Prefix := by
    intro y hy e
    have hp : ((l1 ++ x :: l2).map (·.Prefix)).Perm (x.Prefix :: (l1 ++ l2).map (·.Prefix)) := List.perm_middle.map _
    refine (List.nodup_cons.1 (hp.nodup_iff.1 nd)).1 ?_
    rw [List.mem_map]
    exact ⟨y, by simpa using hy, e⟩
  rw [List.filter_eq_self.2 (fun y hy => by simpa using hn y (.inl hy)), List.filter_eq_self.2 (fun y hy => by simpa using hn y (.inr hy))]
theorem drop_len {L : List api_Route} {k : api_Prefix} {n : Nat} (nd : (L.map (·.Prefix)).Nodup) (hk : known L k = true) (hl : L.length = n + 1) : (dropR L k).length = n := by
  obtain ⟨l1, x, l2, rfl, _, e⟩ := drop_split nd hk
  rw [e]
  simp at hl ⊢
  omega
theorem addM_full {L : List api_Route} {i : Nat} (h : i ≤ 256) : addM true L (fullM i) = addE L (fullM i) := by
  obtain ⟨h1, _, _⟩ := full_is h
  unfold addM
  rw [if_neg (by rw [h1]; decide), if_neg (by show ¬ (((i % 8 : Nat) : Int) < 0 ∨ ((i % 8 : Nat) : Int) ≥ 8); omega), if_neg (by decide)]
theorem find_full {L : List api_Route} (hL : ∀ r ∈ L, r.Prefix.Len = 24) {j : Nat} (h : j ≤ 256) : findM L (fullM j).Prefix.IP = match lookR L (fullM j).Prefix with
    | some r => (r, true)
    | none => (z_api_Route, false) := by
  obtain ⟨h1, h2, h3⟩ := full_is h
  have hat : (pxs (fullM j).Prefix.IP)[8]? = some (fullM j).Prefix := by
    rw [pxs_get (by omega) (by omega), h2]
    show some (⟨⟨4, maskM (fullV j) 24⟩, 24⟩ : api_Prefix) = _
    rw [h3]
    rfl
  have hoth : ∀ (i : Nat) y, i ≠ 8 → (pxs (fullM j).Prefix.IP)[i]? = some y → lookR L y = none := by
    intro i y hi hy
    have hlt := (List.getElem?_eq_some_iff.1 hy).1
    rw [pxs_len (by omega), h2] at hlt
    have hlt' : i < 33 := hlt
    rw [pxs_get (by omega) (by omega), h2] at hy
    cases hy
    refine lookR_none.2 fun x hx e => ?_
    have := hL x hx
    have e2 := congrArg api_Prefix.Len e
    simp only at e2
    omega
  unfold findM
  cases hl : lookR L (fullM j).Prefix with
  | some r => rw [findSome_at hat (fun i y hi hy => hoth i y (by omega) hy) hl]
  | none =>
    rw [findSome_none (fun i y hy => ?_)]
    by_cases e : i = 8
    · subst e
      rw [hat] at hy
      cases hy
      exact hl
    · exact hoth i y e hy
section
variable {W w : World} {Hs : List HP} {p b : Nat} {L : List api_Route}
theorem full_wp (s : Ss W Hs w) {i : Nat} (h : i ≤ 256) : WP (weirlaw14_full (i : Int)) w (fun r w' => r = fullM i ∧ Ss W Hs w') := by
  unfold weirlaw14_full
  refine WP.slot' s (fun _ w s => WP.ret ⟨?_, s⟩)
  have e1 : Int.tdiv (i : Int) 200 = ((i / 200 : Nat) : Int) := rfl
  have e2 : Int.tmod (i : Int) 200 = ((i % 200 : Nat) : Int) := rfl
  have e3 : Int.tmod (i : Int) 8 = ((i % 8 : Nat) : Int) := rfl
  have e4 : IntKind.wrap .i64 ((i / 200 : Nat) : Int) = ((i / 200 : Nat) : Int) := wrap_i64 (by omega) (by omega)
  have e5 : ∀ n : Nat, n < 256 → IntKind.wrap .u8 (n : Int) = (n : Int) := by
    intro n hn
    simp [IntKind.wrap, IntKind.bits, IntKind.signed]
    omega
  rw [e1, e2, e3, e4, e5 _ (by omega), e5 _ (by omega)]
  rfl
theorem add_full (s : Ss W (TblHs p b L ++ Hs) w) {i : Nat} (h : i ≤ 256) : WP (route_Table_Add (some (pt p 0)) (fullM i)) w (fun e w' => e = addE L (fullM i) ∧ Ss W (TblHs p b (putR L (fullM i) e) ++ Hs) w') := by
  refine (Add_wp0 s (fullM i) (full_byt h) rfl).mono ?_
  rintro _ w ⟨rfl, s⟩
  rw [addM_full h] at s ⊢
  exact ⟨rfl, s⟩
theorem fullK_wp {F : List api_Route} (hF : F = fulls 256) (s : Ss W (TblHs p b F ++ Hs) w) (a : Int) : WP (weirlaw14_RouteFull.K1 a (some (pt p 0))) w (fun r w' => r = true ∧ Ss W [] w') := by
  have flen : F.length = 256 := by rw [hF, fulls_len]
  have fknown : ∀ {j}, known F (fullM j).Prefix = true ↔ j < 256 := fun {j} => by rw [hF]; exact fulls_known
  have fnd : (F.map (·.Prefix)).Nodup := by rw [hF]; exact fulls_nd
  have fmem : ∀ r, r ∈ F ↔ ∃ i, i < 256 ∧ r = fullM i := fun r => by
    rw [hF]
    unfold fulls
    rw [List.mem_map]
    exact ⟨fun ⟨i, h, e⟩ => ⟨i, List.mem_range.1 h, e.symm⟩, fun ⟨i, h, e⟩ => ⟨i, List.mem_range.2 h, e.symm⟩⟩
  clear hF
  obtain ⟨n, hn, hn2⟩ : ∃ n : Nat, band .i64 a 255 = (n : Int) ∧ n < 256 := by
    have := band_mask a (m := 255) (by omega) (by omega)
    exact ⟨(band .i64 a 255).toNat, by omega, by omega⟩
  unfold weirlaw14_RouteFull.K1
  rw [hn]
  have e256 : addE F (fullM 256) = 144 := by
    unfold addE
    rw [if_neg (by rw [fknown]; omega), if_pos (flen)]
  have en : addE F (fullM n) = 143 := by
    unfold addE
    rw [if_pos (fknown.2 hn2)]
  have hput : ∀ {L : List api_Route} {r : api_Route} {e : Int}, e ≠ 0 → putR L r e = L := fun h => by unfold putR; rw [if_neg h]
  have h256 : weirlaw14_full 256 = weirlaw14_full ((256 : Nat) : Int) := rfl
  rw [h256]
  refine WP.step (full_wp s (Nat.le_refl 256)) ?_
  rintro _ w ⟨rfl, s⟩
  refine WP.step (add_full s (Nat.le_refl 256)) ?_
  rintro _ w ⟨rfl, s⟩
  rw [e256] at s ⊢
  rw [hput (by decide)] at s
  refine WP.step (R := fun y w' => y = false ∧ Ss W (TblHs p b F ++ Hs) w') (WP.ite (fun h => absurd rfl h) (fun _ => WP.step (full_wp s (by omega : n ≤ 256)) ?_)) ?_
  · rintro _ w ⟨rfl, s⟩
    refine WP.step (add_full s (by omega : n ≤ 256)) ?_
    rintro _ w ⟨rfl, s⟩
    rw [en] at s ⊢
    rw [hput (by decide)] at s
    exact WP.ret ⟨by decide, s⟩
  rintro _ w ⟨rfl, s⟩
  refine WP.step (R := fun y w' => y = false ∧ Ss W (TblHs p b F ++ Hs) w') (WP.ite (fun h => by cases h) (fun _ => WP.step (Len_wp s) ?_)) ?_
  · rintro _ w ⟨rfl, s⟩
    exact WP.ret ⟨by rw [flen]; decide, s⟩
  rintro _ w ⟨rfl, s⟩
  have kn : known F (fullM n).Prefix = true := fknown.2 hn2
  refine WP.step (R := fun y w' => y = false ∧ Ss W (TblHs p b (dropR F (fullM n).Prefix) ++ Hs) w') (WP.ite (fun h => by cases h) (fun _ => WP.step (full_wp s (by omega : n ≤ 256)) ?_)) ?_
  · rintro _ w ⟨rfl, s⟩
    refine WP.step (Drop_wp s _) ?_
    rintro _ w ⟨rfl, s⟩
    exact WP.ret ⟨by rw [kn]; rfl, s⟩
  rintro _ w ⟨rfl, s⟩
  -- the table without the one
  generalize hM : dropR F (fullM n).Prefix = M at s
  have hmem : ∀ r, r ∈ M ↔ ∃ i, i < 256 ∧ i ≠ n ∧ r = fullM i := by
    intro r
    rw [← hM]
    unfold dropR
    rw [List.mem_filter]
    constructor
    · rintro ⟨h1, h2⟩
      obtain ⟨i, hi, rfl⟩ := (fmem r).1 h1
      have h2' : (fullM i).Prefix ≠ (fullM n).Prefix := by simpa using h2
      exact ⟨i, hi, fun e => h2' (by rw [e]), rfl⟩
    · rintro ⟨i, h1, h2, rfl⟩
      refine ⟨(fmem _).2 ⟨i, h1, rfl⟩, ?_⟩
      have : (fullM i).Prefix ≠ (fullM n).Prefix := fun e => h2 (full_inj e)
      simpa using this
  have hlen : M.length = 255 := by
    rw [← hM]
    exact drop_len fnd kn flen
  refine WP.step (R := fun y w' => y = false ∧ Ss W (TblHs p b M ++ Hs) w') (WP.ite (fun h => by cases h) (fun _ => WP.step (Len_wp s) ?_)) ?_
  · rintro _ w ⟨rfl, s⟩
    exact WP.ret ⟨by rw [hlen]; decide, s⟩
  rintro _ w ⟨rfl, s⟩
  refine WP.ite (fun h => by cases h) (fun _ => ?_)
  have m256 : known M (fullM 256).Prefix = false := by
    rw [Bool.eq_false_iff]
    intro h
    obtain ⟨x, hx, e⟩ := known_iff.1 h
    obtain ⟨i, h1, _, rfl⟩ := (hmem x).1 hx
    have := full_inj e
    omega
  have a256 : addE M (fullM 256) = 0 := by
    unfold addE
    rw [m256, if_neg (by decide), if_neg (by omega)]
  refine WP.step (full_wp s (Nat.le_refl 256)) ?_
  rintro _ w ⟨rfl, s⟩
  refine WP.step (add_full s (Nat.le_refl 256)) ?_
  rintro _ w ⟨rfl, s⟩
  rw [a256] at s ⊢
  have hput0 : putR M (fullM 256) 0 = M ++ [fullM 256] := rfl
  rw [hput0] at s
  have nmem : known (M ++ [fullM 256]) (fullM n).Prefix = false := by
    rw [Bool.eq_false_iff]
    intro h
    obtain ⟨x, hx, e⟩ := known_iff.1 h
    rcases List.mem_append.1 hx with hx | hx
    · obtain ⟨i, _, h2, rfl⟩ := (hmem x).1 hx
      exact h2 (full_inj e)
    · rw [List.mem_singleton.1 hx] at e
      have := full_inj e
      omega
  have kn2 : known (M ++ [fullM 256]) (fullM 256).Prefix = true := known_iff.2 ⟨fullM 256, by simp, rfl⟩
  have hlen2 : (M ++ [fullM 256]).length = 256 := by simp [hlen]
  have an : addE (M ++ [fullM 256]) (fullM n) = 144 := by
    unfold addE
    rw [nmem, if_neg (by decide), if_pos hlen2]
  have a2 : addE (M ++ [fullM 256]) (fullM 256) = 143 := by
    unfold addE
    rw [if_pos kn2]
  have h24 : ∀ r ∈ M ++ [fullM 256], r.Prefix.Len = 24 := by
    intro r hr
    rcases List.mem_append.1 hr with hr | hr
    · obtain ⟨i, _, _, rfl⟩ := (hmem r).1 hr
      rfl
    · rw [List.mem_singleton.1 hr]
      rfl
  have hnd := TblHs.nd s
  have f256 : findM (M ++ [fullM 256]) (fullM 256).Prefix.IP = (fullM 256, true) := by
    rw [find_full h24 (Nat.le_refl 256), lookR_some hnd (by simp) rfl]
  have fn : findM (M ++ [fullM 256]) (fullM n).Prefix.IP = (z_api_Route, false) := by
    rw [find_full h24 (by omega), lookR_none.2 (fun x hx e => by rw [Bool.eq_false_iff] at nmem; exact nmem (known_iff.2 ⟨x, hx, e⟩))]
  refine WP.step (R := fun y w' => y = false ∧ Ss W (TblHs p b (M ++ [fullM 256]) ++ Hs) w') (WP.ite (fun h => absurd rfl h) (fun _ => WP.step (full_wp s (by omega : n ≤ 256)) ?_)) ?_
  · rintro _ w ⟨rfl, s⟩
    refine WP.step (add_full s (by omega : n ≤ 256)) ?_
    rintro _ w ⟨rfl, s⟩
    rw [an] at s ⊢
    rw [hput (by decide)] at s
    exact WP.ret ⟨by decide, s⟩
  rintro _ w ⟨rfl, s⟩
  refine WP.step (R := fun y w' => y = false ∧ Ss W (TblHs p b (M ++ [fullM 256]) ++ Hs) w') (WP.ite (fun h => by cases h) (fun _ => WP.step (full_wp s (Nat.le_refl 256)) ?_)) ?_
  · rintro _ w ⟨rfl, s⟩
    refine WP.step (add_full s (Nat.le_refl 256)) ?_
    rintro _ w ⟨rfl, s⟩
    rw [a2] at s ⊢
    rw [hput (by decide)] at s
    exact WP.ret ⟨by decide, s⟩
  rintro _ w ⟨rfl, s⟩
  refine WP.ite (fun h => by cases h) (fun _ => WP.step (full_wp s (Nat.le_refl 256)) ?_)
  rintro _ w ⟨rfl, s⟩
  refine WP.step (Find_wp s _ (full_byt (Nat.le_refl 256))) ?_
  rintro _ w ⟨rfl, s⟩
  rw [f256]
  refine WP.slot' s (fun _ w s => WP.step (full_wp s (by omega : n ≤ 256)) ?_)
  rintro _ w ⟨rfl, s⟩
  refine WP.step (Find_wp s _ (full_byt (by omega))) ?_
  rintro _ w ⟨rfl, s⟩
  rw [fn]
  refine WP.slot' s (fun _ w s => WP.draw' s (fun w s => ?_))
  refine WP.step (R := fun y w' => y = true ∧ Ss W (TblHs p b (M ++ [fullM 256]) ++ Hs) w') (WP.ite (fun _ => WP.step (full_wp s (Nat.le_refl 256)) ?_) (fun h => absurd rfl h)) ?_
  · rintro _ w ⟨rfl, s⟩
    exact WP.ret ⟨(eqv_iff (x := fullM 256) (y := fullM 256)).2 rfl, s⟩
  rintro _ w ⟨rfl, s⟩
  refine WP.step (R := fun y w' => y = true ∧ Ss W (TblHs p b (M ++ [fullM 256]) ++ Hs) w') (WP.ite (fun _ => WP.ret ⟨rfl, s⟩) (fun h => absurd rfl h)) ?_
  rintro _ w ⟨rfl, s⟩
  refine WP.step (R := fun y w' => y = true ∧ Ss W (TblHs p b (M ++ [fullM 256]) ++ Hs) w') (WP.ite (fun _ => WP.step (Len_wp s) ?_) (fun h => absurd rfl h)) ?_
  · rintro _ w ⟨rfl, s⟩
    exact WP.ret ⟨by rw [hlen2]; decide, s⟩
  rintro _ w ⟨rfl, s⟩
  exact WP.ret ⟨rfl, Ss.weak (m := []) (by simpa using s)⟩
theorem RouteFull_wp (s : Ss W [] w) (a : Int) : WP (weirlaw14_RouteFull a) w (fun r w' => r = true ∧ Ss W [] w') := by
  unfold weirlaw14_RouteFull
  refine WP.step (New_wp s) ?_
  rintro _ w ⟨p, b, rfl, s⟩
  refine WP.ite (fun h => by cases h) (fun _ => ?_)
  refine WP.loopG (γ := Nat) (fun k (x : Int) w => x = (k : Int) ∧ k ≤ 256 ∧ Ss W (TblHs p b (fulls k) ++ []) w) (fun k _ => 256 - k) 0 ⟨rfl, by omega, s⟩ ?_
  clear s
  rintro k _ w ⟨rfl, hk, s⟩
  show WP (weirlaw14_RouteFull.L1 a (some (pt p 0)) (k : Int)) w _
  unfold weirlaw14_RouteFull.L1
  refine WP.ite (fun h => ?_) (fun h => ?_)
  · have ek : addE (fulls k) (fullM k) = 0 := by
      unfold addE
      rw [if_neg (by rw [fulls_known]; omega), if_neg (by rw [fulls_len]; omega)]
    refine WP.step (full_wp s hk) ?_
    rintro _ w ⟨rfl, s⟩
    refine WP.step (add_full s hk) ?_
    rintro _ w ⟨rfl, s⟩
    rw [ek] at s ⊢
    have e1 : putR (fulls k) (fullM k) 0 = fulls (k + 1) := by
      show fulls k ++ [fullM k] = _
      unfold fulls
      rw [List.range_succ, List.map_append]
      rfl
    rw [e1] at s
    have e2 : IntKind.wrap .i64 ((k : Int) + 1) = ((k + 1 : Nat) : Int) := by rw [wrap_i64 (by omega) (by omega)]; omega
    rw [e2]
    refine WP.step (R := fun y w' => y = false ∧ Ss W (TblHs p b (fulls (k + 1)) ++ []) w') (WP.ite (fun h => absurd rfl h) (fun _ => WP.step (Len_wp s) ?_)) ?_
    · rintro _ w ⟨rfl, s⟩
      exact WP.ret ⟨by rw [fulls_len]; simp, s⟩
    rintro _ w ⟨rfl, s⟩
    exact WP.ite (fun h => by cases h) (fun _ => WP.next ⟨k + 1, ⟨rfl, by omega, s⟩, by omega⟩)
  · have : k = 256 := by omega
    subst this
    exact WP.step (fullK_wp rfl s a) (fun r w h => WP.done h)
end
end Go.Proofs.YtfgcobigollfjaaDoor.Lx
