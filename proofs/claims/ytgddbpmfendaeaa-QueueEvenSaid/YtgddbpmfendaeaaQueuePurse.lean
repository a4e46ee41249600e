/- The caller's purse of the outright queue laws (the tokens of each class), of its programs in the M-world. -/
import Derived.Test.YtgddbpmfendaeaaQueueTok
set_option linter.unusedVariables false
set_option linter.unusedSimpArgs false
namespace Go.Proofs.Ytgddbpmfendaeaa.Lx
open Go Go.Proofs Go.RowKit

/-! ### the purse -/
def PurseHs (pa : Addr) (y : Sl) (ts sp : List Int) : List HP := [pts true pa (c_weirlaw18_Purse.enc ⟨y⟩), vec (cI .i64) y ts sp]
def Purse (p : Option Addr) (ts : List Int) : HP := fun h => ∃ pa y sp, p = some pa ∧ seps (PurseHs pa y ts sp) h
section
variable {W w : World} {R : List HP} {p b : Option Addr} {ts sv : List Int}
theorem Ss.openP (s : Ss W (Purse p ts :: R) w) : ∃ pa y sp, p = some pa ∧ Ss W (PurseHs pa y ts sp ++ R) w := by
  obtain ⟨hb, k, ⟨h1, h2, e, l1, l2, ⟨pa, y, sp, a1, a2⟩, b⟩, hw⟩ := s
  exact ⟨pa, y, sp, a1, Ss.split ⟨hb, k, ⟨h1, h2, e, l1, l2, a2, b⟩, hw⟩⟩
theorem Ss.closeP {pa : Addr} {y : Sl} {sp : List Int} (s : Ss W (PurseHs pa y ts sp ++ R) w) (hp : p = some pa) : Ss W (Purse p ts :: R) w := s.group.first (fun h hh => ⟨pa, y, sp, hp, hh⟩)
theorem purse_wp {l : Sl} {xs : List api_Class} (s : Ss W R w) (i : Nat) (e : nth R i = some (rdS c_api_Class false l xs)) (hn : xs.length ≤ 1000) : WP (weirlaw18_purse l) w (fun r w' => Ss W (Purse r (xs.map (·.Burst)) :: R) w') := by
  unfold weirlaw18_purse
  have hl := (s.rd_len e rdS_rdb).1
  refine WP.newv s (fun b w s => ?_)
  have s1 : Ss W (Purse (some (pt b 0)) [] :: R) w := by
    have s2 := (s.mk0 (A := vec (cI .i64) Sl.nil [] []) vec_nil).use [1] rfl
    exact Ss.closeP (y := Sl.nil) (sp := []) s2 rfl
  refine WP.loop (fun (k : Int) w' => 0 ≤ k ∧ k ≤ xs.length ∧ Ss W (Purse (some (pt b 0)) ((xs.take k.toNat).map (·.Burst)) :: R) w') (fun k _ => ((xs.length : Int) - k).toNat) ⟨by omega, by omega, s1⟩ ?_
  rintro k w ⟨k0, k1, s⟩
  unfold weirlaw18_purse.L1
  refine WP.ite (fun hk => WP.draw' s (fun w s => ?_)) (fun hk => ?_)
  · rw [hl] at hk
    obtain ⟨pa, y, sp, hpa, s⟩ := s.openP
    cases hpa
    have hkl : k.toNat < xs.length := by omega
    have hx := List.getElem?_eq_getElem hkl
    generalize xs[k.toNat] = x at hx
    refine WP.ld s 0 rfl (o := 0) (by simp [Addr.add]) (At_weirlaw18_Purse_T _) ?_
    refine WP.rdxp s (i + 2) e rdS_rdb k0 hx rfl (At_api_Class_Burst x) (WP.slot' s (fun _ w s => ?_))
    refine WP.same s 0 rfl (o := 0) (by simp [Addr.add]) (At_weirlaw18_Purse_T _) ?_
    refine WP.appl s 1 rfl (by simp only [List.length_map, List.length_take, List.length_cons, List.length_nil]; omega) (by decide) (fun r w sp' s => ?_)
    refine WP.st s 0 rfl (o := 0) (by simp [Addr.add]) (Up_weirlaw18_Purse_T _ _) (fun w s => WP.next ?_)
    rw [wrap_i64 (by omega) (by omega)]
    refine ⟨⟨by omega, by omega, ?_⟩, by omega⟩
    have : (xs.take (k + 1).toNat).map (·.Burst) = (xs.take k.toNat).map (·.Burst) ++ [x.Burst] := by
      rw [show (k + 1).toNat = k.toNat + 1 by omega, List.take_add_one, hx, List.map_append]
      rfl
    rw [this]
    exact Ss.closeP (y := r) (sp := sp') s rfl
  · have : k.toNat = xs.length := by omega
    rw [this, List.take_length] at s
    exact WP.done s
theorem ptick_wp {l : Sl} {xs : List api_Class} (s : Ss W (Purse p ts :: R) w) (i : Nat) (e : nth R i = some (rdS c_api_Class false l xs)) (hn : xs.length ≤ 1000) (ht : ts.length = xs.length) :
    WP (weirlaw18_Purse_tick p l) w (fun _ w' => ∃ ts', ts'.length = ts.length ∧ (∀ (j : Nat) (x : api_Class) (t : Int), xs[j]? = some x → ts[j]? = some t → ts'[j]? = some (tk1 x t)) ∧ Ss W (Purse p ts' :: R) w') := by
  unfold weirlaw18_Purse_tick
  have hl := (s.rd_len (i := i + 1) e rdS_rdb).1
  refine WP.loop (fun (k : Int) w' => 0 ≤ k ∧ k ≤ xs.length ∧ ∃ ts', ts'.length = ts.length ∧ (∀ (j : Nat) (x : api_Class) (t : Int), j < k.toNat → xs[j]? = some x → ts[j]? = some t → ts'[j]? = some (tk1 x t)) ∧ (∀ j : Nat, k.toNat ≤ j → ts'[j]? = ts[j]?) ∧ Ss W (Purse p ts' :: R) w') (fun k _ => ((xs.length : Int) - k).toNat) ⟨by omega, by omega, ts, rfl, fun j x t h => by omega, fun _ _ => rfl, s⟩ ?_
  rintro k w ⟨k0, k1, ts', t1, t2, t3, s⟩
  unfold weirlaw18_Purse_tick.L1
  refine WP.ite (fun hk => WP.draw' s (fun w s => ?_)) (fun hk => ?_)
  · rw [hl] at hk
    obtain ⟨pa, y, sp, hpa, sO⟩ := s.openP
    subst hpa
    have hkl : k.toNat < xs.length := by omega
    have hx := List.getElem?_eq_getElem hkl
    generalize xs[k.toNat] = x at hx
    have htk : ts'[k.toNat]? = some (ts'.getD k.toNat 0) := getD_get (by omega)
    generalize ts'.getD k.toNat 0 = t at htk
    have hte : ts[k.toNat]? = some t := by rw [← t3 _ (Nat.le_refl _)]; exact htk
    refine WP.nilck (WP.ld sO 0 rfl (o := 0) (by simp [Addr.add]) (At_weirlaw18_Purse_T _) (WP.nilck ?_))
    refine WP.ld sO 0 rfl (o := 0) (by simp [Addr.add]) (At_weirlaw18_Purse_T _) ?_
    refine WP.rdx sO 1 rfl vec_rdb k0 htk rfl ?_
    refine WP.rdxp sO (i + 2) e rdS_rdb k0 hx rfl (At_api_Class_Rate x) ?_
    refine WP.stx sO 1 rfl k0 (by omega) rfl (fun w s => WP.draw' s (fun w s => WP.nilck ?_))
    have hset : (ts'.set k.toNat (IntKind.wrap .i64 (t + x.Rate)))[k.toNat]? = some (IntKind.wrap .i64 (t + x.Rate)) := List.getElem?_set_self (by omega)
    refine WP.ld s 0 rfl (o := 0) (by simp [Addr.add]) (At_weirlaw18_Purse_T _) ?_
    refine WP.rdx s 1 rfl vec_rdb k0 hset rfl ?_
    refine WP.rdxp s (i + 2) e rdS_rdb k0 hx rfl (At_api_Class_Burst x) ?_
    have fin : ∀ (u : Int) (w : World), u = tk1 x t → Ss W (PurseHs pa y (ts'.set k.toNat u) sp ++ R) w → WP (pure (LS.next (IntKind.wrap .i64 (k + 1))) : M (LS Int Unit)) w (WP.Rd (fun k' w' => (0 ≤ k' ∧ k' ≤ xs.length ∧ ∃ ts', ts'.length = ts.length ∧ (∀ (j : Nat) (x : api_Class) (t : Int), j < k'.toNat → xs[j]? = some x → ts[j]? = some t → ts'[j]? = some (tk1 x t)) ∧ (∀ j : Nat, k'.toNat ≤ j → ts'[j]? = ts[j]?) ∧ Ss W (Purse (some pa) ts' :: R) w') ∧ ((xs.length : Int) - k').toNat < ((xs.length : Int) - k).toNat) (fun _ w' => ∃ ts', ts'.length = ts.length ∧ (∀ (j : Nat) (x : api_Class) (t : Int), xs[j]? = some x → ts[j]? = some t → ts'[j]? = some (tk1 x t)) ∧ Ss W (Purse (some pa) ts' :: R) w')) := by
      intro u w hu s
      subst hu
      refine WP.next ?_
      rw [wrap_i64 (by omega) (by omega)]
      refine ⟨⟨by omega, by omega, ts'.set k.toNat (tk1 x t), by rw [List.length_set]; exact t1, ?_, ?_, Ss.closeP s rfl⟩, by omega⟩
      · intro j x2 t2' hj hx2 ht2
        by_cases e : j = k.toNat
        · subst e
          rw [hx] at hx2
          rw [hte] at ht2
          cases hx2
          cases ht2
          exact List.getElem?_set_self (by omega)
        · rw [List.getElem?_set_ne (fun h => e h.symm)]
          exact t2 j x2 t2' (by omega) hx2 ht2
      · intro j hj
        rw [List.getElem?_set_ne (by omega)]
        exact t3 j (by omega)
    refine WP.ite (fun hb => WP.draw' s (fun w s => WP.nilck ?_)) (fun hb => ?_)
    · refine WP.ld s 0 rfl (o := 0) (by simp [Addr.add]) (At_weirlaw18_Purse_T _) ?_
      refine WP.rdxp s (i + 2) e rdS_rdb k0 hx rfl (At_api_Class_Burst x) ?_
      refine WP.stx s 1 rfl k0 (by rw [List.length_set]; omega) rfl (fun w s => fin x.Burst w ?_ ?_)
      · unfold tk1; rw [if_pos hb]
      · rw [List.set_set] at s
        exact s
    · exact fin _ w (by unfold tk1; rw [if_neg hb]) s
  · rw [hl] at hk
    refine WP.done ⟨ts', t1, fun j x t hx ht => t2 j x t ?_ hx ht, s⟩
    have := (List.getElem?_eq_some_iff.1 hx).1
    omega
theorem ready_wp' {m : QM} {l : Sl} {xs : List api_Class} (s : Ss W R w) {ip ib i : Nat} (ep : nth R ip = some (Purse p ts)) (eb : nth R ib = some (Book b m.qs sv)) (e : nth R i = some (rdS c_api_Class false l xs)) (ok : m.Ok) (hx : m.cl.map (·.c) = xs) (hp : PT ts m) {j : Int} (j0 : 0 ≤ j) {k : Cl} (hk : m.cl[j.toNat]? = some k) :
    WP (weirlaw18_Purse_ready p l b j) w (fun r w' => r = k.rdy ∧ Ss W R w') := by
  unfold weirlaw18_Purse_ready
  refine WP.draw' s (fun w s => ?_)
  obtain ⟨ba, xl, y, z, ls, lsp, bsp, ssp, rfl, g1, g2, sB⟩ := (s.perm (nth_perm eb)).openB
  obtain ⟨pa, y2, sp2, rfl, sP⟩ := (s.perm (nth_perm ep)).openP
  have hq := qs_get hk
  obtain ⟨sl, hsl⟩ := get_of g1 hq
  have hll := BookHs.len sB hsl hq
  have okk := ok.cl k (List.mem_of_getElem? hk)
  have hcl := okClass_iff.1 okk.c
  have hxk : xs[j.toNat]? = some k.c := by rw [← hx, List.getElem?_map, hk]; rfl
  refine WP.nilck (WP.ld sB 0 rfl (o := 0) (by simp [Addr.add]) (At_weirlaw18_Book_L _) ?_)
  refine WP.rdx sB 1 rfl vec_rdb j0 hsl rfl ?_
  rw [hll]
  refine WP.step (R := fun y w' => y = k.rdy ∧ w' = w) (WP.ite (fun h => ?_) (fun h => WP.ret ⟨?_, rfl⟩)) (fun y w' h => WP.ret ⟨h.1, h.2 ▸ s⟩)
  · obtain ⟨x, q', hxq⟩ : ∃ x q', k.q = x :: q' := by
      cases hq : k.q with
      | nil => rw [hq] at h; simp at h
      | cons x q => exact ⟨x, q, rfl⟩
    have hrdy : k.rdy = (k.c.Rate == 0 || decide (k.tok ≥ x.size)) := by unfold Cl.rdy; rw [hxq]; rfl
    refine WP.rdxp s i e rdS_rdb j0 hxk rfl (At_api_Class_Rate _) ?_
    refine WP.step (R := fun y w' => y = k.rdy ∧ w' = w) (WP.ite (fun hr => WP.ret ⟨by rw [hrdy]; simp [hr], rfl⟩) (fun hr => WP.nilck ?_)) (fun y w' h => WP.ret h)
    have hr' : k.c.Rate > 0 := by omega
    have htk := hp.2 _ k hk hr'
    refine WP.ld sP 0 rfl (o := 0) (by simp [Addr.add]) (At_weirlaw18_Purse_T _) ?_
    refine WP.rdx sP 1 rfl vec_rdb j0 htk rfl (WP.nilck ?_)
    refine WP.ld sB 0 rfl (o := 0) (by simp [Addr.add]) (At_weirlaw18_Book_L _) ?_
    refine WP.rdx sB 1 rfl vec_rdb j0 hsl rfl ?_
    have s2 := sB.out 4 rfl (zipH_nth (P := lineH) hsl hq)
    obtain ⟨sp, _, s3⟩ := s2.openx 0 rfl
    rw [hxq] at s3
    refine WP.rdxp0 s3 0 rfl vec_rdb (by omega) (x := toItem x) rfl rfl (At_weirlaw18_Item_Size _) (WP.ret ⟨?_, rfl⟩)
    rw [hrdy]
    simp [hr, toItem]
  · have hq0 : k.q = [] := by cases hq : k.q with | nil => rfl | cons x q => rw [hq] at h; simp at h
    unfold Cl.rdy
    rw [hq0]
    rfl
end
end Go.Proofs.Ytgddbpmfendaeaa.Lx
