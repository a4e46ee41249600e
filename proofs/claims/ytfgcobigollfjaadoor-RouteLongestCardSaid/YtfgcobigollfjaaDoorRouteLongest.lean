/- The walk of the law RouteLongest: the longest prefix decides; Matches tells all, falling. -/
import Derived.Test.YtfgcobigollfjaaDoorRoutePlain
set_option linter.unusedVariables false
set_option linter.unusedSimpArgs false
namespace Go.Proofs.YtfgcobigollfjaaDoor.Lx
open Go Go.Proofs Go.RowKit
theorem At_route_len (r : api_Route) : At (cRt.enc r) 17 ((cI .i64).enc r.Prefix.Len) := (At_api_Route_Prefix r).trans (At_api_Prefix_Len r.Prefix)
theorem wrap_n {n : Nat} (h : n < 9223372036854775807) : IntKind.wrap .i64 ((n : Int) + 1) = ((n + 1 : Nat) : Int) := by
  rw [wrap_i64 (by omega) (by omega)]
  omega
section
variable {W w : World} {Hs : List HP} {p b t : Nat} {L ls : List api_Route} {r9 : Sl} {ips sp9 : List api_IP} {r4 : Option Addr × Sl} {sp : List api_Route}
theorem longL2_wp {r108 : Sl} {M sp8 : List api_Route} {i : Nat} (hi : i < ips.length) (hb9 : ∀ x ∈ ips, Byt x.A.l) (hbL : ∀ r ∈ L, RByt r ∧ isPx r.Prefix = true) (nd : (L.map (·.Prefix)).Nodup) (hM : M = matchesM L (ips[i]))
    (s : Ss W (vec cRt r108 M sp8 :: vec c_api_IP r9 ips sp9 :: Hs) w) (hMl : M.length ≤ 129) :
    WP (loopM (fun s_ : Int => weirlaw14_RouteLongest.L2 r9 (i : Int) r108 s_) 1) w (fun r w' => r = LS.next (IntKind.wrap .i64 ((i : Int) + 1)) ∧ Ss W (vec c_api_IP r9 ips sp9 :: Hs) w') := by
  have hl := (s.rd_len (i := 0) rfl vec_rdb).1
  refine WP.loopG (γ := Nat) (fun k (x : Int) w => x = (k : Int) ∧ 1 ≤ k ∧ (k ≤ M.length ∨ k = 1) ∧ Ss W (vec cRt r108 M sp8 :: vec c_api_IP r9 ips sp9 :: Hs) w) (fun k _ => M.length - k) 1 ⟨rfl, Nat.le_refl _, .inr rfl, s⟩ ?_
  clear s
  rintro k _ w ⟨rfl, hk1, hk, s⟩
  show WP (weirlaw14_RouteLongest.L2 r9 (i : Int) r108 (k : Int)) w _
  unfold weirlaw14_RouteLongest.L2
  refine WP.ite (fun h => ?_) (fun h => WP.done ⟨rfl, s.drop⟩)
  rw [hl] at h
  have hkM : k < M.length := by omega
  have hx : M[(k : Int).toNat]? = some M[k] := by rw [Int.toNat_natCast, List.getElem?_eq_getElem hkM]
  have ew : IntKind.wrap .i64 ((k : Int) - 1) = ((k - 1 : Nat) : Int) := by rw [wrap_i64 (by omega) (by omega)]; omega
  have hx1 : M[((k - 1 : Nat) : Int).toNat]? = some M[k - 1] := by rw [Int.toNat_natCast, List.getElem?_eq_getElem (by omega)]
  rw [ew]
  refine WP.draw' s (fun w s => ?_)
  refine WP.rdxp s 0 rfl vec_rdb (by omega) hx rfl (At_route_len _) (WP.rdxp s 0 rfl vec_rdb (by omega) hx1 rfl (At_route_len _) ?_)
  have hf : M[k].Prefix.Len < M[k - 1].Prefix.Len := by
    have h1 := match_falls (L := L) (ip := ips[i])
    rw [← hM] at h1
    exact List.pairwise_iff_getElem.1 h1 (k - 1) k (by omega) hkM (by omega)
  have hmem : M[k] ∈ matchesM L ips[i] := hM ▸ List.getElem_mem hkM
  obtain ⟨m1, m2⟩ := (match_mem nd (fun r hr => (hbL r hr).2)).1 hmem
  refine WP.step (R := fun y w' => y = false ∧ Ss W (vec cRt r108 M sp8 :: vec c_api_IP r9 ips sp9 :: Hs) w') (WP.ite (fun h => by omega) (fun _ => ?_)) ?_
  · refine WP.rdxp0 s 0 rfl vec_rdb (by omega) hx rfl (At_api_Route_Prefix _) (WP.rdx s 1 rfl vec_rdb (by omega) (x := ips[i]) (by rw [Int.toNat_natCast, List.getElem?_eq_getElem hi]) rfl ?_)
    refine WP.step (Contains_wp s M[k].Prefix (hbL _ m1).1.1 ips[i] (hb9 _ (List.getElem_mem hi))) ?_
    rintro _ w ⟨rfl, s⟩
    exact WP.ret ⟨by rw [m2]; rfl, s⟩
  rintro _ w ⟨rfl, s⟩
  refine WP.ite (fun h => by cases h) (fun _ => WP.next ⟨k + 1, ⟨wrap_n (by omega), by omega, .inl (by omega), s⟩, by omega⟩)
theorem longK_wp {i n : Nat} {fd : Bool} (hi : i < ips.length) (hb9 : ∀ x ∈ ips, Byt x.A.l) (hbL : ∀ r ∈ L, RByt r ∧ isPx r.Prefix = true) (h4 : r4.1 = some (pt p 0))
    (s : Ss W (TblHs p b L ++ (vec c_api_IP r9 ips sp9 :: Hs)) w) (hn : n = (matchesM L ips[i]).length) (hf : fd = (findM L ips[i]).2) :
    WP (weirlaw14_RouteLongest.K1 r4 r9 (i : Int) (findM L ips[i]) (n : Int) fd) w (fun r w' => r = LS.next (IntKind.wrap .i64 ((i : Int) + 1)) ∧ Ss W (TblHs p b L ++ (vec c_api_IP r9 ips sp9 :: Hs)) w') := by
  have nd := TblHs.nd s
  have hi' : ips[(i : Int).toNat]? = some ips[i] := by rw [Int.toNat_natCast, List.getElem?_eq_getElem hi]
  have hMl : (matchesM L ips[i]).length ≤ 129 := by
    have h1 := List.length_filterMap_le (lookR L) (pxs ips[i])
    have h2 := pxs_le ips[i]
    unfold matchesM
    omega
  unfold weirlaw14_RouteLongest.K1
  rw [h4]
  refine WP.rdx s 2 rfl vec_rdb (by omega) hi' rfl (WP.step (Matches_wp s ips[i] (hb9 _ (List.getElem_mem hi))) ?_)
  rintro r108 w ⟨sp8, s⟩
  refine WP.draw' s (fun w s => ?_)
  have hl := (s.rd_len (i := 0) rfl vec_rdb).1
  generalize hF : findM L ips[i] = F at hf
  obtain ⟨fr, fb⟩ := F
  simp only at hf
  subst hf
  refine WP.step (R := fun y w' => y = false ∧ w = w') (WP.ite (fun h => absurd rfl h) (fun _ => WP.step (R := fun y w' => y = false ∧ w = w') (WP.ite (fun h => WP.ret ⟨?_, rfl⟩) (fun h => WP.ret ⟨rfl, rfl⟩)) ?_)) ?_
  · have hfb : fd = false := by simpa using h
    subst hfb
    obtain ⟨_, rfl⟩ := find_false hF
    rw [(eqv_iff (x := z_api_Route) (y := z_api_Route)).2 rfl]
    rfl
  · rintro _ _ ⟨rfl, rfl⟩
    exact WP.ret ⟨rfl, rfl⟩
  rintro _ _ ⟨rfl, rfl⟩
  refine WP.step (R := fun y w' => y = false ∧ w = w') (WP.ite (fun h => by cases h) (fun _ => WP.ret ⟨by rw [hl, hn]; simp, rfl⟩)) ?_
  rintro _ _ ⟨rfl, rfl⟩
  refine WP.step (R := fun y w' => y = false ∧ w = w') (WP.ite (fun h => by cases h) (fun _ => WP.step (R := fun y w' => y = false ∧ w = w') (WP.ite (fun h => ?_) (fun h => WP.ret ⟨rfl, rfl⟩)) ?_)) ?_
  · have h0 : 0 < (matchesM L ips[i]).length := by omega
    have hfd : fd = true := by
      cases fd with
      | true => rfl
      | false => rw [(find_false hF).1] at h0; simp at h0
    subst hfd
    have hx0 : (matchesM L ips[i])[(0 : Int).toNat]? = some fr := find_true hF
    exact WP.rdx s 0 rfl vec_rdb (by omega) hx0 rfl (WP.ret ⟨by rw [(eqv_iff (x := fr) (y := fr)).2 rfl]; rfl, rfl⟩)
  · rintro _ _ ⟨rfl, rfl⟩
    exact WP.ret ⟨rfl, rfl⟩
  rintro _ _ ⟨rfl, rfl⟩
  refine WP.ite (fun h => by cases h) (fun _ => ?_)
  refine (longL2_wp (L := L) (Hs := TblHs p b L ++ Hs) hi hb9 hbL nd rfl (s.use [0, 2] rfl) hMl).mono ?_
  rintro _ w ⟨rfl, s⟩
  exact ⟨rfl, s.use [1, 1] rfl⟩
theorem longL3_wp {i : Nat} (hi : i < ips.length) (hb9 : ∀ x ∈ ips, Byt x.A.l) (hbL : ∀ r ∈ L, RByt r ∧ isPx r.Prefix = true) (h4 : r4.1 = some (pt p 0)) (hL : L.length ≤ 256)
    (s : Ss W (TblHs p b L ++ (vec c_api_IP r9 ips sp9 :: vec cRt r4.2 L sp :: Hs)) w) :
    WP (loopM (fun s_ : (Int × Bool × Int) => weirlaw14_RouteLongest.L3 r4 r9 (i : Int) (findM L ips[i]) s_.1 s_.2.1 s_.2.2) (0, false, 0)) w (fun r w' => r = LS.next (IntKind.wrap .i64 ((i : Int) + 1)) ∧ Ss W (TblHs p b L ++ (vec c_api_IP r9 ips sp9 :: vec cRt r4.2 L sp :: Hs)) w') := by
  have nd := TblHs.nd s
  have hi' : ips[(i : Int).toNat]? = some ips[i] := by rw [Int.toNat_natCast, List.getElem?_eq_getElem hi]
  have hl := (s.rd_len (i := 3) rfl vec_rdb).1
  have hv : ∀ r ∈ L, isPx r.Prefix = true := fun r hr => (hbL r hr).2
  refine WP.loopG (γ := Nat) (fun k (x : Int × Bool × Int) w => x.2.2 = (k : Int) ∧ k ≤ L.length ∧ x.1 = (((L.take k).filter fun r => ctM r.Prefix ips[i]).length : Int) ∧ x.2.1 = (L.take k).any (fun r => ctM r.Prefix ips[i] && eqv r (findM L ips[i]).1) ∧ Ss W (TblHs p b L ++ (vec c_api_IP r9 ips sp9 :: vec cRt r4.2 L sp :: Hs)) w) (fun k _ => L.length - k) 0 ⟨rfl, Nat.zero_le _, rfl, rfl, s⟩ ?_
  clear s
  rintro k ⟨n, fd, _⟩ w ⟨rfl, hk, hn, hf, s⟩
  simp only at hn hf
  show WP (weirlaw14_RouteLongest.L3 r4 r9 (i : Int) (findM L ips[i]) n fd (k : Int)) w _
  unfold weirlaw14_RouteLongest.L3
  refine WP.ite (fun h => ?_) (fun h => ?_)
  · rw [hl] at h
    have hkL : k < L.length := by omega
    have hx : L[(k : Int).toNat]? = some L[k] := by rw [Int.toNat_natCast, List.getElem?_eq_getElem hkL]
    have hmem : L[k] ∈ L := List.getElem_mem hkL
    have et : L.take (k + 1) = L.take k ++ [L[k]] := by rw [List.take_add_one, List.getElem?_eq_getElem hkL]; rfl
    have hlen : ((L.take k).filter fun r => ctM r.Prefix ips[i]).length ≤ 256 := by
      have := List.length_filter_le (fun r : api_Route => ctM r.Prefix ips[i]) (L.take k)
      rw [List.length_take] at this
      omega
    refine WP.draw' s (fun w s => WP.rdxp0 s 3 rfl vec_rdb (by omega) hx rfl (At_api_Route_Prefix _) (WP.rdx s 2 rfl vec_rdb (by omega) hi' rfl ?_))
    refine WP.step (Contains_wp s L[k].Prefix (hbL _ hmem).1.1 ips[i] (hb9 _ (List.getElem_mem hi))) ?_
    rintro _ w ⟨rfl, s⟩
    refine WP.ite (fun h0 => WP.next ⟨k + 1, ⟨wrap_n (by omega), hkL, ?_, ?_, s⟩, by omega⟩) (fun h1 => ?_)
    · rw [et, List.filter_append, hn]
      simp [show ctM L[k].Prefix ips[i] = false by simpa using h0]
    · rw [et, List.any_append, hf]
      simp [show ctM L[k].Prefix ips[i] = false by simpa using h0]
    have hc : ctM L[k].Prefix ips[i] = true := by simpa using h1
    have hm : L[k] ∈ matchesM L ips[i] := (match_mem nd hv).2 ⟨hmem, hc⟩
    generalize hF : findM L ips[i] = F at hf
    obtain ⟨fr, fb⟩ := F
    have hfb : fb = true := by
      cases fb with
      | true => rfl
      | false => rw [(find_false hF).1] at hm; cases hm
    subst hfb
    have htop := match_top hF hm
    refine WP.draw' s (fun w s => ?_)
    refine WP.step (R := fun y w' => y = (fd || eqv L[k] fr) ∧ w = w') (WP.ite (fun h => WP.ret ⟨by rw [h]; rfl, rfl⟩) (fun h => WP.rdx s 3 rfl vec_rdb (by omega) hx rfl (WP.ret ⟨by simp [show fd = false by simpa using h], rfl⟩))) ?_
    rintro _ _ ⟨rfl, rfl⟩
    refine WP.draw' s (fun w s => ?_)
    refine WP.step (R := fun y w' => y = false ∧ w = w') (WP.ite (fun h => absurd rfl h) (fun _ => WP.rdxp s 3 rfl vec_rdb (by omega) hx rfl (At_route_len _) (WP.ret ⟨decide_eq_false (by show ¬ L[k].Prefix.Len > fr.Prefix.Len; omega), rfl⟩))) ?_
    rintro _ _ ⟨rfl, rfl⟩
    refine WP.ite (fun h => by cases h) (fun _ => WP.next ⟨k + 1, ⟨wrap_n (by omega), hkL, ?_, ?_, s⟩, by omega⟩)
    · simp only
      rw [hn, wrap_n (by omega), et, List.filter_append]
      simp [hc]
    · simp only
      rw [et, List.any_append, hf]
      simp [hc]
  · rw [hl] at h
    have hk' : k = L.length := by omega
    subst hk'
    rw [List.take_length] at hn hf
    have hfd : fd = (findM L ips[i]).2 := by
      generalize hF : findM L ips[i] = F at hf
      obtain ⟨fr, fb⟩ := F
      simp only at hf ⊢
      cases fb with
      | true =>
        have h0 := List.mem_of_getElem? (find_true hF)
        obtain ⟨g1, g2⟩ := (match_mem nd hv).1 h0
        rw [hf, List.any_eq_true]
        exact ⟨fr, g1, by rw [g2, (eqv_iff (x := fr) (y := fr)).2 rfl]; rfl⟩
      | false =>
        rw [hf, List.any_eq_false]
        intro x hx hc
        rw [Bool.and_eq_true] at hc
        have := (match_mem nd hv).2 ⟨hx, hc.1⟩
        rw [(find_false hF).1] at this
        cases this
    rw [hn]
    refine WP.step (longK_wp (Hs := vec cRt r4.2 L sp :: Hs) hi hb9 hbL h4 s ((match_len nd hv).symm ▸ rfl) hfd) (fun r w h => WP.done h)
theorem RouteLongest_wp {sl slp : Sl} {A B : HP} {xs : List api_Route} {ys : List api_IP} (s : Ss W Hs w) (ix : Nat) (ex : nth Hs ix = some A) (rx : Rdb A cRt sl xs) (iy : Nat) (ey : nth Hs iy = some B) (ry : Rdb B c_api_IP slp ys) (t : Nat) (et : nth Hs t = some TabC)
    (hx : ∀ x ∈ xs, RByt x) (hy : ∀ x ∈ ys, Byt x.A.l) (bx : xs.length * 64 ≤ 140737488351232) (by_ : ys.length * 24 ≤ 140737488351232) : WP (weirlaw14_RouteLongest sl slp) w (fun r w' => r = true ∧ ∃ Hs', Ss W Hs' w') := by
  unfold weirlaw14_RouteLongest
  refine WP.step (route0_wp s) ?_
  rintro _ w ⟨rfl, s⟩
  refine WP.newv s (fun b2 w s => ?_)
  have s1 : Ss W (vec cRt ⟨some (pt b2 0), 1, 1⟩ [route0M] [] :: Hs) w := s.first (fun h hp => vec_mk (l := [route0M]) (sp := []) (by rw [Cod.arr_enc] at hp; exact hp))
  refine WP.appS s1 (ix + 1) ex rx (by decide) (WP.appl s1 0 rfl (by simp only [List.length_singleton]; omega) (by decide) (fun r3 w sp3 s => ?_))
  have hb0 : RByt route0M := ⟨show ∀ x ∈ route0M.Prefix.IP.A.l, 0 ≤ x ∧ x ≤ 255 by decide +kernel, show ∀ x ∈ route0M.Via.A.l, 0 ≤ x ∧ x ≤ 255 by decide +kernel⟩
  have hbx : ∀ x ∈ [route0M] ++ xs, RByt x := by
    intro x h
    rcases List.mem_append.1 h with h | h
    · rw [List.mem_singleton.1 h]; exact hb0
    · exact hx x h
  refine WP.step (filled_wp s 0 rfl vec_rdb (t + 1) et hbx) ?_
  rintro r4 w ⟨p, b, sp, h4, s⟩
  generalize hL : fillR [] (([route0M] ++ xs).take 600) = L at s
  have hbL : ∀ r ∈ L, RByt r ∧ isPx r.Prefix = true := by
    intro r hr
    rw [← hL] at hr
    rcases fillR_ok hr with h | ⟨h, hp⟩
    · cases h
    · exact ⟨hbx r (List.mem_of_mem_take h), hp⟩
  have hne : L ≠ [] := by
    intro e
    have := route0_in (l := xs)
    rw [show (route0M :: xs).take 600 = ([route0M] ++ xs).take 600 from rfl, hL, e] at this
    cases this
  have hlen : L.length ≤ 256 := by rw [← hL]; exact fillR_le (by simp)
  have hl := (s.rd_len (i := 0) rfl vec_rdb).1
  have hpos : 0 < L.length := by
    cases L with
    | nil => exact absurd rfl hne
    | cons a l => simp
  refine WP.step (R := fun y w' => y = false ∧ w = w') (WP.ite (fun h => by rw [h4] at h; cases h) (fun _ => WP.ret ⟨?_, rfl⟩)) ?_
  · rw [hl]
    exact beq_eq_false_iff_ne.2 (by omega)
  rintro _ _ ⟨rfl, rfl⟩
  have s2 : Ss W (TblHs p b L ++ (vec cRt r4.2 L sp :: vec cRt r3 ([route0M] ++ xs) sp3 :: Hs)) w := s.use [1, 1] rfl
  refine WP.step (R := fun y w' => y = false ∧ Ss W (TblHs p b L ++ (vec cRt r4.2 L sp :: vec cRt r3 ([route0M] ++ xs) sp3 :: Hs)) w') (WP.ite (fun h => by cases h) (fun _ => by rw [h4]; exact WP.step (Len_wp s2) (by rintro _ w ⟨rfl, s⟩; exact WP.ret ⟨by rw [hl]; simp, s⟩))) ?_
  rintro _ w ⟨rfl, s⟩
  refine WP.ite (fun h => by cases h) (fun _ => WP.newv s (fun b8 w s => ?_))
  have s3 : Ss W (vec c_api_IP ⟨some (pt b8 0), 1, 1⟩ [(⟨4, v16 [10, 1]⟩ : api_IP)] [] :: (TblHs p b L ++ (vec cRt r4.2 L sp :: vec cRt r3 ([route0M] ++ xs) sp3 :: Hs))) w := s.first (fun h hp => vec_mk (l := [(⟨4, v16 [10, 1]⟩ : api_IP)]) (sp := []) (by rw [Cod.arr_enc] at hp; exact hp))
  refine WP.appS s3 (iy + 5) ey ry (by decide) (WP.appl s3 0 rfl (by simp only [List.length_singleton]; omega) (by decide) (fun r9 w sp9 s => ?_))
  generalize hips : [(⟨4, v16 [10, 1]⟩ : api_IP)] ++ ys = ips at s
  have hb9 : ∀ x ∈ ips, Byt x.A.l := by
    intro x h
    rw [← hips] at h
    rcases List.mem_append.1 h with h | h
    · rw [List.mem_singleton.1 h]
      show ∀ x ∈ (v16 [10, 1]).l, 0 ≤ x ∧ x ≤ 255
      decide +kernel
    · exact hy x h
  have s4 : Ss W (TblHs p b L ++ (vec c_api_IP r9 ips sp9 :: vec cRt r4.2 L sp :: vec cRt r3 ([route0M] ++ xs) sp3 :: Hs)) w := s.use [1, 1] rfl
  have hl9 := (s4.rd_len (i := 2) rfl vec_rdb).1
  refine WP.loopG (γ := Nat) (fun k (x : Int) w => x = (k : Int) ∧ k ≤ 60 ∧ Ss W (TblHs p b L ++ (vec c_api_IP r9 ips sp9 :: vec cRt r4.2 L sp :: vec cRt r3 ([route0M] ++ xs) sp3 :: Hs)) w) (fun k _ => 60 - k) 0 ⟨rfl, by omega, s4⟩ ?_
  clear s s1 s2 s3 s4
  rintro k _ w ⟨rfl, hk, s⟩
  show WP (weirlaw14_RouteLongest.L1 r4 r9 (k : Int)) w _
  unfold weirlaw14_RouteLongest.L1
  refine WP.step (R := fun y w' => y = decide (k < ips.length ∧ k < 60) ∧ w = w') (WP.ite (fun h => WP.ret ⟨?_, rfl⟩) (fun h => WP.ret ⟨?_, rfl⟩)) ?_
  · rw [hl9] at h
    rw [Bool.eq_iff_iff]
    simp only [decide_eq_true_eq]
    omega
  · rw [hl9] at h
    exact (decide_eq_false (by omega)).symm
  rintro _ _ ⟨rfl, rfl⟩
  refine WP.ite (fun h => ?_) (fun h => WP.done ⟨rfl, _, s⟩)
  obtain ⟨h1, h2⟩ := of_decide_eq_true h
  have hi' : ips[(k : Int).toNat]? = some ips[k] := by rw [Int.toNat_natCast, List.getElem?_eq_getElem h1]
  refine WP.rdx s 2 rfl vec_rdb (by omega) hi' rfl ?_
  rw [h4]
  refine WP.step (Find_wp s ips[k] (hb9 _ (List.getElem_mem h1))) ?_
  rintro _ w ⟨rfl, s⟩
  refine WP.slot' s (fun _ w s => (longL3_wp h1 hb9 hbL h4 hlen s).mono ?_)
  rintro _ w ⟨rfl, s⟩
  exact ⟨k + 1, ⟨wrap_n (by omega), by omega, s⟩, by omega⟩
end
end Go.Proofs.YtfgcobigollfjaaDoor.Lx
