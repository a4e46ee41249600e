
import Derived.Test.YtfgcobigollfjaaDoorRoutePlain
import Derived.Test.YtfgcobigollfjaaDoorRouteAll
import Derived.Test.YtfgcobigollfjaaDoorRouteSame
set_option linter.unusedVariables false
set_option linter.unusedSimpArgs false
namespace Go.Proofs.YtfgcobigollfjaaDoor.Lx
open Go Go.Proofs Go.RowKit
def stat (r : api_Route) : Prop := isPx r.Prefix = true ∧ ¬ (r.Port < 0 ∨ r.Port ≥ 8) ∧ viaOk r = true
theorem addR_zero {M : List api_Route} {r : api_Route} : addR M r = 0 ↔ stat r ∧ known M r.Prefix = false ∧ M.length ≠ 256 := by
  unfold addR addM addE stat
  constructor
  · intro h
    split at h
    · omega
    · rename_i h1
      split at h
      · omega
      · rename_i h2
        split at h
        · omega
        · rename_i h3
          split at h
          · omega
          · rename_i h4
            split at h
            · omega
            · rename_i h5
              exact ⟨⟨by simpa using h1, h2, by simpa using h3⟩, by simpa using h4, h5⟩
  · rintro ⟨⟨h1, h2, h3⟩, h4, h5⟩
    rw [if_neg (by rw [h1]; decide), if_neg h2, if_neg (by rw [h3]; decide), if_neg (by rw [h4]; decide), if_neg h5]
theorem putR_stat {L : List api_Route} {r x : api_Route} (h : x ∈ putR L r (addR L r)) : x ∈ L ∨ (x = r ∧ stat x) := by
  rw [putR_fill] at h
  split at h
  · rename_i h0
    rcases List.mem_append.1 h with h | h
    · exact .inl h
    · have e := List.mem_singleton.1 h
      exact .inr ⟨e, e ▸ (addR_zero.1 h0).1⟩
  · exact .inl h
theorem fillR_stat : ∀ {l L : List api_Route} {x : api_Route}, x ∈ fillR L l → x ∈ L ∨ stat x
  | [], L, x, h => .inl h
  | r :: l, L, x, h => by
    rcases fillR_stat (l := l) h with h | h
    · rcases putR_stat h with h | ⟨_, h⟩
      · exact .inl h
      · exact .inr h
    · exact .inr h
theorem look_perm {L M : List api_Route} (nd : (L.map (·.Prefix)).Nodup) (p : L.Perm M) (k : api_Prefix) : lookR L k = lookR M k := by
  have nd2 : (M.map (·.Prefix)).Nodup := ((p.map _).nodup_iff).1 nd
  cases h : lookR M k with
  | none => exact lookR_none.2 fun x hx => lookR_none.1 h x (p.mem_iff.1 hx)
  | some x =>
    obtain ⟨h1, h2⟩ := lookR_mem h
    exact lookR_some nd (p.mem_iff.2 h1) h2
theorem findSome_congr {α β : Type} {f g : α → Option β} : ∀ {l : List α}, (∀ x ∈ l, f x = g x) → l.findSome? f = l.findSome? g
  | [], _ => rfl
  | a :: l, h => by
    rw [List.findSome?_cons, List.findSome?_cons, h a (List.mem_cons_self ..), findSome_congr (l := l) (fun x hx => h x (List.mem_cons_of_mem _ hx))]
theorem find_perm {L M : List api_Route} (nd : (L.map (·.Prefix)).Nodup) (p : L.Perm M) (ip : api_IP) : findM L ip = findM M ip := by
  unfold findM
  rw [findSome_congr (fun k _ => look_perm nd p k)]
theorem find_more {L : List api_Route} {x : api_Route} {ip : api_IP} (hv : isPx x.Prefix = true) (hc : ctM x.Prefix ip = false) : findM (L ++ [x]) ip = findM L ip := by
  have e : (pxs ip).findSome? (lookR (L ++ [x])) = (pxs ip).findSome? (lookR L) := by
    refine findSome_congr fun k hk => ?_
    unfold lookR
    rw [List.find?_append]
    have hne : x.Prefix ≠ k := fun e => by
      have := (ct_iff (p := x.Prefix) (ip := ip) (by simpa [isPx] using hv)).2 (e ▸ hk)
      rw [hc] at this
      cases this
    rw [List.find?_cons_of_neg (by simpa using hne)]
    simp
  unfold findM
  rw [e]
theorem find_top {L : List api_Route} {x : api_Route} {ip : api_IP} (nd : (L.map (·.Prefix)).Nodup) (hv : ∀ r ∈ L, isPx r.Prefix = true) (hx : x ∈ L) (hc : ctM x.Prefix ip = true) : (findM L ip).2 = true ∧ x.Prefix.Len ≤ (findM L ip).1.Prefix.Len := by
  have hm := (match_mem nd hv).2 ⟨hx, hc⟩
  cases h : findM L ip with
  | mk r f =>
    cases f with
    | true => exact ⟨rfl, match_top h hm⟩
    | false =>
      rw [(find_false h).1] at hm
      cases hm
theorem drop_last {L : List api_Route} {x : api_Route} (h : known L x.Prefix = false) : dropR (L ++ [x]) x.Prefix = L := by
  unfold dropR
  rw [List.filter_append, List.filter_cons_of_neg (by simp), List.filter_nil, List.append_nil]
  refine List.filter_eq_self.2 fun y hy => ?_
  have : y.Prefix ≠ x.Prefix := fun e => by
    have := known_iff.2 ⟨y, hy, e⟩
    rw [h] at this
    cases this
  simpa using this
def Beside (had : Bool) (x : api_Route) (L T : List api_Route) : Prop := (had = true ∧ T = L) ∨ (had = false ∧ T = L ++ [x] ∧ stat x ∧ known L x.Prefix = false)
section
variable {W w : World} {Hs : List HP} {p b p2 b2 t : Nat} {L T U : List api_Route} {r2 : Option Addr × Sl} {sp : List api_Route} {x : api_Route}
theorem All_wp (s : Ss W Hs w) (q : Option Addr) : WP (route_Table_All q) w (fun r w' => ∃ a, (∀ y, weirlaw14_RouteAny.it r y = route_Table_All_1 y a) ∧ Ss W (pts true a (cP.enc q) :: Hs) w') := by
  unfold route_Table_All
  exact WP.newv s (fun b w s => WP.ret ⟨_, fun y => rfl, s⟩)
theorem got1_wp {b1 ll : Nat} {l : List api_Route} (hl : l.length < 300) (s : Ss W (lpH ll .ready none :: MHs b1 l :: Hs) w) : WP (weirlaw14_RouteAny.R1 b1 ll x) w (fun j w' => j = none ∧ Ss W (lpH ll .busy none :: MHs b1 (l ++ [x]) :: Hs) w') := by
  unfold weirlaw14_RouteAny.R1
  obtain ⟨⟨sl, sp⟩, -, s1⟩ := s.openx 1 rfl
  have s2 := Ss.split (l := [pts true (pt b1 0) (cL.enc sl), vec cRt sl l sp]) (s1.use [1] rfl)
  have s3 : Ss W (lpH ll .ready none :: pts true (pt b1 0) (cL.enc sl) :: vec cRt sl l sp :: Hs) w := s2.use [2] rfl
  refine WP.slot' s3 (fun _ w s => WP.begM s (fun w s => WP.ld s 1 rfl (o := 0) (by simp [Addr.add]) (At.whole _) (WP.slot' s (fun _ w s => WP.appl s 2 rfl (by simp only [List.length_singleton]; omega) (by decide) (fun r w sp' s => WP.st s 1 rfl (o := 0) (by simp [Addr.add]) (Upd.whole rfl) (fun w s => WP.ret ⟨rfl, ?_⟩))))))
  have s5 := Ss.group (l := [pts true (pt b1 0) (cL.enc r), vec cRt r (l ++ [x]) sp']) (s.use [1, 1] rfl)
  exact (s5.first (B := MHs b1 (l ++ [x])) (fun h hh => ⟨(r, sp'), trivial, hh⟩)).perm (List.Perm.swap _ _ _)
theorem got2_wp {b1 ll : Nat} {l : List api_Route} (hl : l.length < 300) (s : Ss W (lpH ll .ready none :: MHs b1 l :: Hs) w) : WP (weirlaw14_RouteAny.R2 b1 ll x) w (fun j w' => j = none ∧ Ss W (lpH ll .busy none :: MHs b1 (l ++ [x]) :: Hs) w') := got1_wp hl s
theorem MHs_nil {b1 : Nat} (s : Ss W (pts true (pt b1 0) (cL.enc Sl.nil) :: Hs) w) : Ss W (MHs b1 [] :: Hs) w := by
  have s1 := (s.mk0 (A := vec cRt Sl.nil [] []) vec_nil).use [1, 0] rfl
  exact (Ss.group (l := [pts true (pt b1 0) (cL.enc Sl.nil), vec cRt Sl.nil [] []]) s1).first (fun h hh => ⟨(Sl.nil, []), trivial, hh⟩)
theorem anyK1_wp {had : Bool} (h2 : r2.1 = some (pt p 0)) (hT : Beside had x L T) (hp : U.Perm L) (hL : L.length ≤ 256)
    (s : Ss W (TblHs p b T ++ (TblHs p2 b2 U ++ (vec cRt r2.2 L sp :: Hs))) w) : WP (weirlaw14_RouteAny.K1 r2 (some (pt p2 0)) had x) w (fun r w' => r = true ∧ ∃ Hs', Ss W Hs' w') := by
  unfold weirlaw14_RouteAny.K1
  rw [h2]
  refine WP.step (R := fun y w' => y = false ∧ Ss W (TblHs p b L ++ (TblHs p2 b2 U ++ (vec cRt r2.2 L sp :: Hs))) w') (WP.ite (fun h => ?_) (fun h => WP.ret ⟨rfl, ?_⟩)) ?_
  · have hf : had = false := by simpa using h
    rcases hT with ⟨h1, _⟩ | ⟨_, rfl, _, hk⟩
    · rw [hf] at h1; cases h1
    · refine WP.step (Drop_wp s _) ?_
      rintro _ w ⟨rfl, s⟩
      rw [drop_last hk] at s
      exact WP.ret ⟨by rw [known_iff.2 ⟨x, by simp, rfl⟩]; rfl, s⟩
  · have hf : had = true := by simpa using h
    rcases hT with ⟨_, rfl⟩ | ⟨h1, _⟩
    · exact s
    · rw [hf] at h1; cases h1
  rintro _ w ⟨rfl, s⟩
  have nd := TblHs.nd s
  refine WP.step (R := fun y w' => y = false ∧ Ss W (TblHs p b L ++ (TblHs p2 b2 U ++ (vec cRt r2.2 L sp :: Hs))) w') (WP.ite (fun h => by cases h) (fun _ => WP.step (Len_wp s) ?_)) ?_
  · rintro _ w ⟨rfl, s⟩
    refine WP.step (Len_wp (s.use [2, 2] rfl)) ?_
    rintro _ w ⟨rfl, s⟩
    exact WP.ret ⟨by rw [hp.length_eq]; simp, s.use [2, 2] rfl⟩
  rintro _ w ⟨rfl, s⟩
  have hl := (s.rd_len (i := 4) rfl vec_rdb).1
  refine WP.ite (fun h => by cases h) (fun _ => WP.newv s (fun b56 w s => WP.newv s (fun b57 w s => WP.step (All_wp s _) ?_)))
  rintro r58 w ⟨a, hit, s⟩
  have s0 : Ss W (([MHs b56 [], pts true (pt b57 0) (cL.enc Sl.nil)] ++ (TblHs p b L ++ (TblHs p2 b2 U ++ (vec cRt r2.2 L sp :: Hs)))) ++ [pts true a (cP.enc (some (pt p 0)))]) w := by
    have s1 := MHs_nil (s.use [2] rfl)
    refine s1.perm ?_
    refine List.Perm.cons _ ?_
    exact (List.perm_append_comm (l₁ := [pts true a (cP.enc (some (pt p 0)))]))
  have hsl : (sortR L).length ≤ 256 := by rw [(sortR_perm L).length_eq]; exact hL
  refine WP.rangeAll (p := p) (b := b) (L := L) (Hs := TblHs p2 b2 U ++ (vec cRt r2.2 L sp :: Hs)) hit hL [MHs b56 [], pts true (pt b57 0) (cL.enc Sl.nil)] (fun i => [MHs b56 ((sortR L).take i), pts true (pt b57 0) (cL.enc Sl.nil)] ++ (TblHs p b L ++ (TblHs p2 b2 U ++ (vec cRt r2.2 L sp :: Hs)))) (fun i c => [fact False]) (fun _ _ s => s) s0 ?_ ?_ ?_
  · clear s s0
    intro ll i y w Z hy s
    have hlt := (List.getElem?_eq_some_iff.1 hy).1
    refine (got1_wp (x := y) (by rw [List.length_take]; omega) s).mono ?_
    rintro _ w ⟨rfl, s⟩
    refine .inl ⟨rfl, ?_⟩
    rw [List.take_add_one, hy]
    exact s
  · clear s s0
    intro w Z s
    rw [List.take_length] at s
    show WP (route_Table_All _ >>= _) w _
    refine WP.step (All_wp s _) ?_
    rintro r69 w ⟨a2, hit2, s⟩
    have hU : U.length ≤ 256 := by rw [hp.length_eq]; exact hL
    have hsu : (sortR U).length ≤ 256 := by rw [(sortR_perm U).length_eq]; exact hU
    have s0 : Ss W (([MHs b57 [], MHs b56 (sortR L)] ++ (TblHs p2 b2 U ++ (TblHs p b L ++ ((vec cRt r2.2 L sp :: Hs) ++ Z)))) ++ [pts true a2 (cP.enc (some (pt p2 0)))]) w := by
      have s1 := MHs_nil (s.use [2] rfl)
      refine s1.perm (List.Perm.cons _ ?_)
      refine (List.Perm.swap _ _ _).trans (List.Perm.cons _ ?_)
      refine (List.perm_append_comm (l₁ := [pts true a2 (cP.enc (some (pt p2 0)))])).trans (List.Perm.append_right _ ?_)
      have e : (TblHs p b L ++ (TblHs p2 b2 U ++ (vec cRt r2.2 L sp :: Hs))) ++ Z = TblHs p b L ++ (TblHs p2 b2 U ++ ((vec cRt r2.2 L sp :: Hs) ++ Z)) := by simp
      show (TblHs p b L ++ (TblHs p2 b2 U ++ (vec cRt r2.2 L sp :: Hs)) ++ Z).Perm _
      rw [e]
      exact List.perm_append_comm_assoc _ _ _
    refine WP.rangeAll (p := p2) (b := b2) (L := U) (Hs := TblHs p b L ++ ((vec cRt r2.2 L sp :: Hs) ++ Z)) hit2 hU [MHs b57 [], MHs b56 (sortR L)] (fun i => [MHs b57 ((sortR U).take i), MHs b56 (sortR L)] ++ (TblHs p2 b2 U ++ (TblHs p b L ++ ((vec cRt r2.2 L sp :: Hs) ++ Z)))) (fun i c => [fact False]) (fun _ _ s => s) s0 ?_ ?_ ?_
    · clear s s0
      intro ll i y w Z' hy s
      have hlt := (List.getElem?_eq_some_iff.1 hy).1
      refine (got2_wp (x := y) (by rw [List.length_take]; omega) s).mono ?_
      rintro _ w ⟨rfl, s⟩
      refine .inl ⟨rfl, ?_⟩
      rw [List.take_add_one, hy]
      exact s
    · clear s s0
      intro w Z' s
      rw [List.take_length] at s
      have e : sortR U = sortR L := (sortR_eq nd hp.symm).symm
      rw [e] at s
      obtain ⟨⟨sl2, sp2⟩, -, s1⟩ := s.openx 0 rfl
      have s2 := Ss.split (l := [pts true (pt b57 0) (cL.enc sl2), vec cRt sl2 (sortR L) sp2]) s1
      obtain ⟨⟨sl1, sp1⟩, -, s3⟩ := s2.openx 2 rfl
      have s4 := Ss.split (l := [pts true (pt b56 0) (cL.enc sl1), vec cRt sl1 (sortR L) sp1]) (s3.use [2] rfl)
      have hl1 := (s4.rd_len (i := 1) rfl vec_rdb).1
      show WP (ld _ _ >>= _) w _
      refine WP.ld s4 0 rfl (o := 0) (by simp [Addr.add]) (At.whole _) (WP.ld s4 2 rfl (o := 0) (by simp [Addr.add]) (At.whole _) (WP.step (same_wp s4 1 rfl vec_rdb 3 rfl vec_rdb (by omega)) ?_))
      rintro _ w ⟨rfl, s4⟩
      refine WP.step (R := fun y w' => y = true ∧ ∃ Hs', Ss W Hs' w') (WP.ite (fun _ => ?_) (fun h => absurd (decide_eq_true rfl) h)) (fun y w h => WP.ret h)
      refine WP.ld s4 0 rfl (o := 0) (by simp [Addr.add]) (At.whole _) (WP.ret ⟨?_, _, s4⟩)
      rw [hl1, hl, (sortR_perm L).length_eq]
      simp
    · intro i x c w Z hx s
      exact absurd (Ss.fact s).1 (fun h => h)
  · intro i x c w Z hx s
    exact absurd (Ss.fact s).1 (fun h => h)
theorem anyL1_wp {had f0 : Bool} {r24 : Sl} {ips sp24 : List api_IP} (h2 : r2.1 = some (pt p 0)) (hT : Beside had x L T) (hp : U.Perm L) (hL : L.length ≤ 256) (hx : RByt x) (hb9 : ∀ y ∈ ips, Byt y.A.l) (hv : ∀ r ∈ L, isPx r.Prefix = true)
    (s : Ss W (TblHs p b T ++ (TblHs p2 b2 U ++ (vec cRt r2.2 L sp :: vec c_api_IP r24 ips sp24 :: Hs))) w) :
    WP (loopM (fun s_ : (Bool × Int) => weirlaw14_RouteAny.L1 r2 (some (pt p2 0)) had x r24 s_.1 s_.2) (f0, 0)) w (fun r w' => r = true ∧ ∃ Hs', Ss W Hs' w') := by
  have hl := (s.rd_len (i := 5) rfl vec_rdb).1
  have ndT := TblHs.nd s
  have ndU := TblHs.nd (s.use [2, 2] rfl)
  have ndL : (L.map (·.Prefix)).Nodup := ((hp.map _).nodup_iff).1 ndU
  have hvT : ∀ r ∈ T, isPx r.Prefix = true := by
    intro r hr
    rcases hT with ⟨_, rfl⟩ | ⟨_, rfl, hs, _⟩
    · exact hv r hr
    · rcases List.mem_append.1 hr with hr | hr
      · exact hv r hr
      · rw [List.mem_singleton.1 hr]; exact hs.1
  refine WP.loopG (γ := Nat) (fun k (z : Bool × Int) w => z.2 = (k : Int) ∧ k ≤ 60 ∧ Ss W (TblHs p b T ++ (TblHs p2 b2 U ++ (vec cRt r2.2 L sp :: vec c_api_IP r24 ips sp24 :: Hs))) w) (fun k _ => 60 - k) 0 ⟨rfl, by omega, s⟩ ?_
  clear s
  rintro k ⟨f, _⟩ w ⟨rfl, hk, s⟩
  show WP (weirlaw14_RouteAny.L1 r2 (some (pt p2 0)) had x r24 f (k : Int)) w _
  unfold weirlaw14_RouteAny.L1
  refine WP.step (R := fun y w' => y = decide (k < ips.length ∧ k < 60) ∧ w = w') (WP.ite (fun h => WP.ret ⟨?_, rfl⟩) (fun h => WP.ret ⟨?_, rfl⟩)) ?_
  · rw [hl] at h
    rw [Bool.eq_iff_iff]
    simp only [decide_eq_true_eq]
    omega
  · rw [hl] at h
    exact (decide_eq_false (by omega)).symm
  rintro _ _ ⟨rfl, rfl⟩
  refine WP.ite (fun h => ?_) (fun h => WP.step (anyK1_wp h2 hT hp hL s) (fun r w h => WP.done h))
  obtain ⟨h1, h3⟩ := of_decide_eq_true h
  have hi : ips[(k : Int).toNat]? = some ips[k] := by rw [Int.toNat_natCast, List.getElem?_eq_getElem h1]
  have hbk := hb9 _ (List.getElem_mem h1)
  refine WP.rdx s 5 rfl vec_rdb (by omega) hi rfl ?_
  rw [h2]
  refine WP.step (Find_wp s ips[k] hbk) ?_
  rintro _ w ⟨rfl, s⟩
  refine WP.slot' s (fun _ w s => WP.rdx s 5 rfl vec_rdb (by omega) hi rfl (WP.step (Find_wp (s.use [2, 2] rfl) ips[k] hbk) ?_))
  rintro _ w ⟨rfl, s⟩
  have s := s.use [2, 2] rfl
  refine WP.slot' s (fun _ w s => WP.draw' s (fun w s => ?_))
  refine WP.step (R := fun y w' => y = (had || !ctM x.Prefix ips[k]) ∧ Ss W (TblHs p b T ++ (TblHs p2 b2 U ++ (vec cRt r2.2 L sp :: vec c_api_IP r24 ips sp24 :: Hs))) w') (WP.ite (fun h => WP.ret ⟨by rw [h]; rfl, s⟩) (fun h => WP.rdx s 5 rfl vec_rdb (by omega) hi rfl (WP.step (Contains_wp s x.Prefix hx.1 ips[k] hbk) (by rintro _ w ⟨rfl, s⟩; exact WP.ret ⟨by simp [show had = false by simpa using h], s⟩)))) ?_
  rintro _ w ⟨rfl, s⟩
  have hU : findM U ips[k] = findM L ips[k] := find_perm ndU hp _
  refine WP.step (R := fun y w' => y = false ∧ w = w') (WP.ite (fun h => ?_) (fun h => WP.ret ⟨rfl, rfl⟩)) ?_
  · have hTL : findM T ips[k] = findM L ips[k] := by
      rcases hT with ⟨_, rfl⟩ | ⟨hf, rfl, hs, _⟩
      · rfl
      · refine find_more hs.1 ?_
        rw [hf] at h
        simpa using h
    rw [hTL, hU]
    refine WP.step (R := fun y w' => y = false ∧ w = w') (WP.ite (fun h => absurd rfl h) (fun _ => WP.ret ⟨?_, rfl⟩)) (fun y w h => WP.ret h)
    cases (findM L ips[k]).2 <;> rfl
  rintro _ _ ⟨rfl, rfl⟩
  refine WP.ite (fun h => by cases h) (fun _ => WP.draw' s (fun w s => ?_))
  refine WP.step (R := fun y w' => y = (!had && ctM x.Prefix ips[k]) ∧ Ss W (TblHs p b T ++ (TblHs p2 b2 U ++ (vec cRt r2.2 L sp :: vec c_api_IP r24 ips sp24 :: Hs))) w') (WP.ite (fun h => WP.rdx s 5 rfl vec_rdb (by omega) hi rfl (WP.step (Contains_wp s x.Prefix hx.1 ips[k] hbk) (by rintro _ w ⟨rfl, s⟩; exact WP.ret ⟨by simp [show had = false by simpa using h], s⟩))) (fun h => WP.ret ⟨by simp [show had = true by simpa using h], s⟩)) ?_
  rintro _ w ⟨rfl, s⟩
  refine WP.step (R := fun y w' => y = false ∧ w = w') (WP.ite (fun h => ?_) (fun h => WP.ret ⟨rfl, rfl⟩)) ?_
  · rw [Bool.and_eq_true] at h
    have hf : had = false := by simpa using h.1
    have htop : (findM T ips[k]).2 = true ∧ x.Prefix.Len ≤ (findM T ips[k]).1.Prefix.Len := by
      rcases hT with ⟨h1, _⟩ | ⟨_, rfl, _, _⟩
      · rw [hf] at h1; cases h1
      · exact find_top ndT hvT (by simp) h.2
    rw [htop.1]
    exact WP.step (R := fun y w' => y = false ∧ w = w') (WP.ite (fun h => absurd rfl h) (fun _ => WP.ret ⟨decide_eq_false (by omega), rfl⟩)) (fun y w h => WP.ret h)
  rintro _ _ ⟨rfl, rfl⟩
  refine WP.ite (fun h => by cases h) (fun _ => WP.next ⟨k + 1, ⟨?_, by omega, s⟩, by omega⟩)
  rw [wrap_i64 (by omega) (by omega)]
  omega
theorem anyK2_wp {had f0 : Bool} {B : HP} {slp : Sl} {ys : List api_IP} (h2 : r2.1 = some (pt p 0)) (hT : Beside had x L T) (hp : U.Perm L) (hL : L.length ≤ 256) (hx : RByt x) (hv : ∀ r ∈ L, isPx r.Prefix = true) (iy : Nat) (ey : nth Hs iy = some B) (ry : Rdb B c_api_IP slp ys) (hy : ∀ y ∈ ys, Byt y.A.l) (by_ : ys.length * 24 ≤ 140737488351232)
    (s : Ss W (TblHs p b T ++ (TblHs p2 b2 U ++ (vec cRt r2.2 L sp :: Hs))) w) : WP (weirlaw14_RouteAny.K2 slp r2 (some (pt p2 0)) f0 had x) w (fun r w' => r = true ∧ ∃ Hs', Ss W Hs' w') := by
  unfold weirlaw14_RouteAny.K2
  refine WP.newv s (fun b8 w s => ?_)
  have s3 : Ss W (vec c_api_IP ⟨some (pt b8 0), 1, 1⟩ [x.Prefix.IP] [] :: (TblHs p b T ++ (TblHs p2 b2 U ++ (vec cRt r2.2 L sp :: Hs)))) w := s.first (fun h hp => vec_mk (l := [x.Prefix.IP]) (sp := []) (by rw [Cod.arr_enc] at hp; exact hp))
  refine WP.appS s3 (iy + 6) ey ry (by decide) (WP.appl s3 0 rfl (by simp only [List.length_singleton]; omega) (by decide) (fun r9 w sp9 s => ?_))
  have hb9 : ∀ y ∈ [x.Prefix.IP] ++ ys, Byt y.A.l := by
    intro y h
    rcases List.mem_append.1 h with h | h
    · rw [List.mem_singleton.1 h]; exact hx.1
    · exact hy y h
  have s4 := s.use [1, 1, 1, 1, 1] rfl
  have s5 : Ss W (TblHs p b T ++ (TblHs p2 b2 U ++ (vec cRt r2.2 L sp :: vec c_api_IP r9 ([x.Prefix.IP] ++ ys) sp9 :: Hs))) w := s4
  exact anyL1_wp h2 hT hp hL hx hb9 hv s5
theorem anyK3_wp {f0 : Bool} {B : HP} {slp : Sl} {ys : List api_IP} (h2 : r2.1 = some (pt p 0)) (hp : U.Perm L) (hL : L.length ≤ 256) (hx : RByt x) (hv : ∀ r ∈ L, isPx r.Prefix = true) (iy : Nat) (ey : nth Hs iy = some B) (ry : Rdb B c_api_IP slp ys) (hy : ∀ y ∈ ys, Byt y.A.l) (by_ : ys.length * 24 ≤ 140737488351232) (t : Nat) (et : nth Hs t = some TabC)
    (s : Ss W (TblHs p b L ++ (TblHs p2 b2 U ++ (vec cRt r2.2 L sp :: Hs))) w) : WP (weirlaw14_RouteAny.K3 x slp r2 (some (pt p2 0)) f0) w (fun r w' => r = true ∧ ∃ Hs', Ss W Hs' w') := by
  unfold weirlaw14_RouteAny.K3
  have hl := (s.rd_len (i := 4) rfl vec_rdb).1
  rw [h2]
  refine WP.step (R := fun y w' => y = false ∧ Ss W (TblHs p b L ++ (TblHs p2 b2 U ++ (vec cRt r2.2 L sp :: Hs))) w') (WP.ite (fun h => by cases h) (fun _ => WP.step (Len_wp (s.use [2, 2] rfl)) ?_)) ?_
  · rintro _ w ⟨rfl, s⟩
    refine WP.step (Len_wp (s.use [2, 2] rfl)) ?_
    rintro _ w ⟨rfl, s⟩
    exact WP.ret ⟨by rw [hp.length_eq]; simp, s⟩
  rintro _ w ⟨rfl, s⟩
  refine WP.ite (fun h => by cases h) (fun _ => WP.step (Add_wp s (t + 5) et x hx) ?_)
  rintro _ w ⟨rfl, s⟩
  rw [putR_fill] at s
  refine WP.step (R := fun y w' => y = decide (L = [] ∧ addR L x ≠ 0) ∧ w = w') (WP.ite (fun h => WP.ret ⟨?_, rfl⟩) (fun h => WP.ret ⟨?_, rfl⟩)) ?_
  · rw [hl] at h
    have : L = [] := List.eq_nil_of_length_eq_zero (by omega)
    rw [bne, Bool.eq_iff_iff]
    simp [this]
  · rw [hl] at h
    exact (decide_eq_false fun e => h (by rw [e.1]; rfl)).symm
  rintro _ _ ⟨rfl, rfl⟩
  refine WP.ite (fun h => ?_) (fun h => ?_)
  · obtain ⟨hn, h0⟩ := of_decide_eq_true h
    rw [if_neg h0] at s
    refine WP.step (route0_wp s) ?_
    rintro _ w ⟨rfl, s⟩
    have hb0 : RByt route0M := ⟨show ∀ x ∈ route0M.Prefix.IP.A.l, 0 ≤ x ∧ x ≤ 255 by decide +kernel, show ∀ x ∈ route0M.Via.A.l, 0 ≤ x ∧ x ≤ 255 by decide +kernel⟩
    refine WP.step (Add_wp s (t + 5) et route0M hb0) ?_
    rintro _ w ⟨rfl, s⟩
    have e0 : addR L route0M = 0 := by
      rw [hn]
      decide +kernel
    rw [putR_fill, if_pos e0] at s
    rw [e0]
    refine WP.ite (fun h => absurd rfl h) (fun _ => WP.step (route0_wp s) ?_)
    rintro _ w ⟨rfl, s⟩
    obtain ⟨z1, z2, _⟩ := addR_zero.1 e0
    exact anyK2_wp h2 (had := false) (.inr ⟨rfl, rfl, z1, z2⟩) hp hL hb0 hv iy ey ry hy by_ s
  · by_cases h0 : addR L x = 0
    · rw [if_pos h0] at s
      rw [h0]
      obtain ⟨z1, z2, _⟩ := addR_zero.1 h0
      exact anyK2_wp h2 (had := false) (.inr ⟨rfl, rfl, z1, z2⟩) hp hL hx hv iy ey ry hy by_ s
    · rw [if_neg h0] at s
      rw [show (addR L x != 0) = true by simpa using h0]
      exact anyK2_wp h2 (had := true) (.inl ⟨rfl, rfl⟩) hp hL hx hv iy ey ry hy by_ s
theorem RouteAny_wp {sl slp : Sl} {A B : HP} {xs : List api_Route} {ys : List api_IP} (s : Ss W Hs w) (ix : Nat) (ex : nth Hs ix = some A) (rx : Rdb A cRt sl xs) (iy : Nat) (ey : nth Hs iy = some B) (ry : Rdb B c_api_IP slp ys) (t : Nat) (et : nth Hs t = some TabC)
    (hxs : ∀ x ∈ xs, RByt x) (hx : RByt x) (hy : ∀ x ∈ ys, Byt x.A.l) (by_ : ys.length * 24 ≤ 140737488351232) : WP (weirlaw14_RouteAny sl x slp) w (fun r w' => r = true ∧ ∃ Hs', Ss W Hs' w') := by
  unfold weirlaw14_RouteAny
  refine WP.slot' s (fun _ w s => WP.step (filled_wp s ix ex rx t et hxs) ?_)
  rintro r2 w ⟨p, b, sp, h2, s⟩
  generalize hL : fillR [] (xs.take 600) = L at s
  have hst : ∀ r ∈ L, RByt r ∧ stat r := by
    intro r hr
    rw [← hL] at hr
    rcases fillR_ok hr with h | ⟨h, _⟩
    · cases h
    · rcases fillR_stat hr with h' | h'
      · cases h'
      · exact ⟨hxs r (List.mem_of_mem_take h), h'⟩
  have hlen : L.length ≤ 256 := by rw [← hL]; exact fillR_le (by simp)
  have hl := (s.rd_len (i := 0) rfl vec_rdb).1
  have s1 : Ss W (TblHs p b L ++ (vec cRt r2.2 L sp :: Hs)) w := s.use [1, 1] rfl
  have nd := TblHs.nd s1
  refine WP.ite (fun h => by rw [h2] at h; cases h) (fun _ => WP.step (New_wp s1) ?_)
  rintro _ w ⟨p2, b2, rfl, s⟩
  have s2 : Ss W (TblHs p2 b2 ((L.drop (L.length - 0)).reverse) ++ (TblHs p b L ++ (vec cRt r2.2 L sp :: Hs))) w := by
    rw [Nat.sub_zero, List.drop_length]
    exact s
  have e0 : IntKind.wrap .i64 ((r2.2.len : Int) - 1) = (L.length : Int) - 1 := by rw [hl, wrap_i64 (by omega) (by omega)]
  rw [e0]
  refine WP.loopG (γ := Nat) (fun k (z : Bool × Int) w => z.1 = false ∧ z.2 = (L.length : Int) - 1 - (k : Int) ∧ k ≤ L.length ∧ Ss W (TblHs p2 b2 ((L.drop (L.length - k)).reverse) ++ (TblHs p b L ++ (vec cRt r2.2 L sp :: Hs))) w) (fun k _ => L.length - k) 0 ⟨rfl, by simp, Nat.zero_le _, s2⟩ ?_
  clear s s1 s2
  rintro k ⟨f, n⟩ w ⟨hf, hn, hk, s⟩
  simp only at hf hn
  subst hf hn
  show WP (weirlaw14_RouteAny.L2 x slp r2 (some (pt p2 0)) false ((L.length : Int) - 1 - (k : Int))) w _
  unfold weirlaw14_RouteAny.L2
  refine WP.ite (fun h => ?_) (fun h => ?_)
  · have hk1 : k < L.length := by omega
    have hidx : ((L.length : Int) - 1 - (k : Int)).toNat = L.length - 1 - k := by omega
    have hlt : L.length - 1 - k < L.length := by omega
    have hx' : L[((L.length : Int) - 1 - (k : Int)).toNat]? = some L[L.length - 1 - k] := by rw [hidx, List.getElem?_eq_getElem hlt]
    have hmem := List.getElem_mem hlt
    have ed : L.drop (L.length - (k + 1)) = L[L.length - 1 - k] :: L.drop (L.length - k) := by
      have h1 := List.drop_eq_getElem_cons hlt
      rw [show L.length - 1 - k + 1 = L.length - k by omega] at h1
      rw [show L.length - (k + 1) = L.length - 1 - k by omega]
      exact h1
    have hnd : ((L.drop (L.length - (k + 1))).map (·.Prefix)).Nodup := by
      rw [List.map_drop]
      exact nd.sublist (List.drop_sublist _ _)
    have ha : addR ((L.drop (L.length - k)).reverse) L[L.length - 1 - k] = 0 := by
      refine addR_zero.2 ⟨(hst _ hmem).2, ?_, ?_⟩
      · rw [Bool.eq_false_iff]
        intro hkn
        obtain ⟨y, hy, e⟩ := known_iff.1 hkn
        rw [ed, List.map_cons, List.nodup_cons] at hnd
        exact hnd.1 (List.mem_map.2 ⟨y, by simpa using hy, e⟩)
      · rw [List.length_reverse, List.length_drop]
        omega
    refine WP.step (R := fun y w' => y = false ∧ Ss W (TblHs p2 b2 ((L.drop (L.length - (k + 1))).reverse) ++ (TblHs p b L ++ (vec cRt r2.2 L sp :: Hs))) w') (WP.ite (fun h => by cases h) (fun _ => ?_)) ?_
    · refine WP.rdx s 4 rfl vec_rdb (by omega) hx' rfl (WP.step (Add_wp s (t + 5) et _ (hst _ hmem).1) ?_)
      rintro _ w ⟨rfl, s⟩
      rw [putR_fill, if_pos ha] at s
      refine WP.ret ⟨by rw [ha]; rfl, ?_⟩
      rw [ed, List.reverse_cons]
      exact s
    rintro _ w ⟨rfl, s⟩
    refine WP.ite (fun h => by cases h) (fun _ => WP.next ⟨k + 1, ⟨rfl, ?_, hk1, s⟩, by omega⟩)
    simp only
    rw [wrap_i64 (by omega) (by omega)]
    omega
  · have : k = L.length := by omega
    subst this
    rw [Nat.sub_self, List.drop_zero] at s
    exact WP.step (anyK3_wp h2 (List.reverse_perm L) hlen hx (fun r hr => (hst r hr).2.1) iy ey ry hy by_ t et (s.use [2, 2] rfl)) (fun r w h => WP.done h)
end
end Go.Proofs.YtfgcobigollfjaaDoor.Lx
