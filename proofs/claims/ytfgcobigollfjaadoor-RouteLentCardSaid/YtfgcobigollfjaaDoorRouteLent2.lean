
import Derived.Test.YtfgcobigollfjaaDoorRouteLent
import Derived.Test.YtfgcobigollfjaaDoorRouteMatch
set_option linter.unusedVariables false
set_option linter.unusedSimpArgs false
namespace Go.Proofs.YtfgcobigollfjaaDoor.Lx
open Go Go.Proofs Go.RowKit
theorem byt_at : Byt atM.A.l := show ∀ x ∈ atM.A.l, 0 ≤ x ∧ x ≤ 255 by decide +kernel
theorem byt_0 : RByt route0M := ⟨show ∀ x ∈ route0M.Prefix.IP.A.l, 0 ≤ x ∧ x ≤ 255 by decide +kernel, show ∀ x ∈ route0M.Via.A.l, 0 ≤ x ∧ x ≤ 255 by decide +kernel⟩
theorem fill_0 : fillR [] ([route0M].take 600) = [route0M] := by decide +kernel
theorem match_0 : matchesM [route0M] atM = [route0M] := by decide +kernel
def LentHs (p b p2 b2 : Nat) (L : List api_Route) (s5 s8 : Sl) (sp5 sp8 : List api_Route) : List HP := TblHs p b L ++ (TblHs p2 b2 [route0M] ++ [vec cRt s5 L sp5, vec cRt s8 [route0M] sp8])
def LentDs (L : List api_Route) (ip : api_IP) (s12 s19 s20 : Sl) (sp19 sp20 : List api_Route) : List HP := [rdS cRt false s12 (sortR L), vec cRt s19 (matchesM L ip) sp19, vec cRt s20 (matchesM L atM) sp20]
section
variable {W w : World} {R : List HP} {p b p2 b2 : Nat} {L sp5 sp8 sp19 sp20 : List api_Route} {ip : api_IP} {r5 r8 : Option Addr × Sl} {s12 r19 r20 : Sl}
theorem lentK1_wp (h5 : r5.1 = some (pt p 0)) (h8 : r8.1 = some (pt p2 0)) (hL : TOk L) (hb : Byt ip.A.l) (s : Ss W (LentHs p b p2 b2 L r5.2 r8.2 sp5 sp8 ++ (LentDs L ip s12 r19 r20 sp19 sp20 ++ R)) w) :
  WP (weirlaw14_RouteLent.K1 ip r5 r8 s12 r19) w (fun r w' => r = true ∧ ∃ Hs', Ss W Hs' w') := by
 unfold weirlaw14_RouteLent.K1
 have nd : (L.map (·.Prefix)).Nodup := TblHs.nd (p := p) (b := b) s
 have ndD : ((sortR L).map (·.Prefix)).Nodup := (((sortR_perm L).map _).nodup_iff).2 nd
 have hD := hL.perm (sortR_perm L)
 have h256 := hL.len
 have hml : (matchesM L ip).length < 9223372036854775807 := by
  have := List.length_filterMap_le (lookR L) (pxs ip)
  have := pxs_le ip
  unfold matchesM
  omega
 rw [h5, h8]
 have hl5 := (s.rd_len (i := 4) rfl vec_rdb).1
 refine WP.step (Find_wp (p := p) (b := b) s ip hb) ?_
 rintro _ w ⟨rfl, s⟩
 refine WP.slot' s (fun _ w s => WP.step (rfind_wp s 6 rfl rdS_rdb hD ndD ip hb) ?_)
 rintro _ w ⟨rfl, s⟩
 have ef : findM (sortR L) ip = findM L ip := find_perm ndD (sortR_perm L) ip
 rw [ef]
 refine WP.slot' s (fun _ w s => WP.step (Matches_wp (p := p) (b := b) s ip hb) ?_)
 rintro q1 w ⟨sp1, s⟩
 refine WP.step (same_wp s 0 rfl vec_rdb 8 rfl vec_rdb hml) ?_
 rintro _ w ⟨rfl, s⟩
 refine WP.step (R := fun y w' => y = true ∧ Ss W (LentHs p b p2 b2 L r5.2 r8.2 sp5 sp8 ++ (LentDs L ip s12 r19 r20 sp19 sp20 ++ R)) w') (WP.ite (fun _ => ?_) (fun h => absurd (decide_eq_true rfl) h)) ?_
 ·have s : Ss W (TblHs p2 b2 [route0M] ++ (TblHs p b L ++ ([vec cRt r5.2 L sp5, vec cRt r8.2 [route0M] sp8] ++ (LentDs L ip s12 r19 r20 sp19 sp20 ++ R)))) w := s.drop.use [2, 2] rfl
  refine WP.step (Matches_wp s atM byt_at) ?_
  rintro q2 w ⟨sp2, s⟩
  refine WP.step (same_wp s 0 rfl vec_rdb 6 rfl vec_rdb (by rw [match_0]; decide)) ?_
  rintro _ w ⟨rfl, s⟩
  exact WP.ret ⟨decide_eq_true match_0, s.drop.use [2, 2, 0, 0, 0, 0] rfl⟩
 rintro _ w ⟨rfl, s⟩
 refine WP.step (R := fun y w' => y = true ∧ Ss W (LentHs p b p2 b2 L r5.2 r8.2 sp5 sp8 ++ (LentDs L ip s12 r19 r20 sp19 sp20 ++ R)) w') (WP.ite (fun _ => WP.ret ⟨eqv_refl _, s⟩) (fun h => absurd rfl h)) ?_
 rintro _ w ⟨rfl, s⟩
 refine WP.step (R := fun y w' => y = true ∧ Ss W (LentHs p b p2 b2 L r5.2 r8.2 sp5 sp8 ++ (LentDs L ip s12 r19 r20 sp19 sp20 ++ R)) w') (WP.ite (fun _ => WP.ret ⟨beq_self_eq_true _, s⟩) (fun h => absurd rfl h)) ?_
 rintro _ w ⟨rfl, s⟩
 refine WP.step (R := fun y w' => y = true ∧ Ss W (LentHs p b p2 b2 L r5.2 r8.2 sp5 sp8 ++ (LentDs L ip s12 r19 r20 sp19 sp20 ++ R)) w') (WP.ite (fun _ => WP.step (Len_wp (p := p) (b := b) s) ?_) (fun h => absurd rfl h)) ?_
 ·rintro _ w ⟨rfl, s⟩
  exact WP.ret ⟨by rw [hl5]; simp, s⟩
 rintro _ w ⟨rfl, s⟩
 exact WP.ret ⟨rfl, _, s⟩
theorem lentL7_wp (h5 : r5.1 = some (pt p 0)) (h8 : r8.1 = some (pt p2 0)) (hL : TOk L) (hb : Byt ip.A.l) (s : Ss W (LentHs p b p2 b2 L r5.2 r8.2 sp5 sp8 ++ (LentDs L ip s12 r19 r20 sp19 sp20 ++ R)) w) :
  WP (loopM (fun s_ : (Sl × Int) => weirlaw14_RouteLent.L7 ip r5 r8 s12 r19 r20 s_.1 s_.2) (Sl.nil, 0)) w (fun r w' => r = true ∧ ∃ Hs', Ss W Hs' w') := by
 have nd : (L.map (·.Prefix)).Nodup := TblHs.nd (p := p) (b := b) s
 have hml : ∀ ip, (matchesM L ip).length ≤ 129 := by
  intro ip
  have := List.length_filterMap_le (lookR L) (pxs ip)
  have := pxs_le ip
  unfold matchesM
  omega
 have s : Ss W (LentHs p b p2 b2 L r5.2 r8.2 sp5 sp8 ++ (LentDs L ip s12 r19 r20 sp19 sp20 ++ (vec cL Sl.nil (([] : List (Ls api_Route)).map Ls.s) [] :: seps (([] : List (Ls api_Route)).map (lsH cRt)) :: R))) w := by
  have s := (s.mk0 (A := seps (([] : List (Ls api_Route)).map (lsH cRt))) trivial).mk0 (A := vec cL Sl.nil (([] : List (Ls api_Route)).map Ls.s) []) vec_nil
  exact Ss.use (s := LentHs p b p2 b2 L r5.2 r8.2 sp5 sp8 ++ (LentDs L ip s12 r19 r20 sp19 sp20 ++ [vec cL Sl.nil (([] : List (Ls api_Route)).map Ls.s) [], seps (([] : List (Ls api_Route)).map (lsH cRt))])) (r := R) s [2, 2, 2, 2, 2, 2, 2, 2, 2, 0, 0] rfl
 refine WP.loopG (γ := Nat × List (Ls api_Route) × List Sl) (fun g (x : Sl × Int) w => x.2 = (g.1 : Int) ∧ g.1 ≤ 2 ∧ g.2.1.length = 4 * g.1 ∧ OkLs g.2.1 ∧ Ss W (LentHs p b p2 b2 L r5.2 r8.2 sp5 sp8 ++ (LentDs L ip s12 r19 r20 sp19 sp20 ++ (vec cL x.1 (g.2.1.map Ls.s) g.2.2 :: seps (g.2.1.map (lsH cRt)) :: R))) w) (fun g _ => 2 - g.1) (0, [], []) ⟨rfl, by simp, rfl, fun e he => by simp at he, s⟩ ?_
 clear s
 rintro ⟨k, es, l1⟩ ⟨V, _⟩ w ⟨rfl, hk, he, ho, s⟩
 simp only at hk he ho s
 show WP (weirlaw14_RouteLent.L7 ip r5 r8 s12 r19 r20 V (k : Int)) w _
 unfold weirlaw14_RouteLent.L7
 refine WP.ite (fun h => ?_) (fun h => ?_)
 rotate_left
 ·have : k = 2 := by omega
  subst this
  have s : Ss W ([vec cL V (es.map Ls.s) l1, seps (es.map (lsH cRt))] ++ (LentHs p b p2 b2 L r5.2 r8.2 sp5 sp8 ++ (LentDs L ip s12 r19 r20 sp19 sp20 ++ R))) w := s.use [9, 9] rfl
  exact WP.step (lentK4_wp (n := 8) (by omega) he ho s (fun w s => lentK1_wp h5 h8 hL hb s)) (fun r w h => WP.done h)
 rw [h5, h8]
 refine WP.draw' s (fun w s => WP.step (Matches_wp (p := p) (b := b) s ip hb) ?_)
 rintro q1 w ⟨sp1, s⟩
 refine WP.step (Matches_wp (p := p) (b := b) (s.use [1, 1] rfl) ip hb) ?_
 rintro q2 w ⟨sp2, s⟩
 refine WP.step (Matches_wp (p := p) (b := b) (s.use [1, 1] rfl) atM byt_at) ?_
 rintro q3 w ⟨sp3, s⟩
 have s : Ss W (TblHs p2 b2 [route0M] ++ (vec cRt q3 (matchesM L atM) sp3 :: (TblHs p b L ++ (vec cRt q2 (matchesM L ip) sp2 :: vec cRt q1 (matchesM L ip) sp1 :: ([vec cRt r5.2 L sp5, vec cRt r8.2 [route0M] sp8] ++ (LentDs L ip s12 r19 r20 sp19 sp20 ++ (vec cL V (es.map Ls.s) l1 :: seps (es.map (lsH cRt)) :: R))))))) w := s.use [5, 5] rfl
 refine WP.step (Matches_wp s atM byt_at) ?_
 rintro q4 w ⟨sp4, s⟩
 rw [match_0] at s
 have m1 : (matchesM L ip).length < 9223372036854775807 := by have := hml ip; omega
 have m2 : (matchesM L atM).length < 9223372036854775807 := by have := hml atM; omega
 refine WP.step (same_wp s 7 rfl vec_rdb 11 rfl vec_rdb m1) ?_
 rintro _ w ⟨rfl, s⟩
 refine WP.step (R := fun y w' => y = false ∧ Ss W _ w') (WP.ite (fun h => absurd (decide_eq_true rfl) h) (fun _ => WP.step (same_wp s 6 rfl vec_rdb 11 rfl vec_rdb m1) (by rintro _ w ⟨rfl, s⟩; exact WP.ret ⟨by simp, s⟩))) ?_
 rintro _ w ⟨rfl, s⟩
 refine WP.step (R := fun y w' => y = false ∧ Ss W _ w') (WP.ite (fun h => by cases h) (fun _ => WP.step (same_wp s 3 rfl vec_rdb 12 rfl vec_rdb m2) (by rintro _ w ⟨rfl, s⟩; exact WP.ret ⟨by simp, s⟩))) ?_
 rintro _ w ⟨rfl, s⟩
 refine WP.step (R := fun y w' => y = false ∧ Ss W _ w') (WP.ite (fun h => by cases h) (fun _ => WP.step (same_wp s 0 rfl vec_rdb 9 rfl vec_rdb (by decide)) (by rintro _ w ⟨rfl, s⟩; exact WP.ret ⟨by simp, s⟩))) ?_
 rintro _ w ⟨rfl, s⟩
 refine WP.ite (fun h => by cases h) (fun _ => WP.slot' s (fun _ w s => WP.appl s 13 rfl (by simp only [List.length_cons, List.length_nil, List.length_map]; omega) (by decide) (fun V' w l1' s => WP.next ?_)))
 have s : Ss W (seps (es.map (lsH cRt)) :: ([vec cRt q1 (matchesM L ip) sp1, vec cRt q2 (matchesM L ip) sp2, vec cRt q3 (matchesM L atM) sp3, vec cRt q4 [route0M] sp4] ++ (TblHs p2 b2 [route0M] ++ (TblHs p b L ++ ([vec cRt r5.2 L sp5, vec cRt r8.2 [route0M] sp8] ++ (LentDs L ip s12 r19 r20 sp19 sp20 ++ (vec cL V' (es.map Ls.s ++ [q1, q2, q3, q4]) l1' :: R))))))) w := s.use [14, 7, 6, 3, 0] rfl
 have s := Ss.split s
 rw [← List.append_assoc] at s
 have s := Ss.group s
 have e1 : es.map (lsH cRt) ++ [vec cRt q1 (matchesM L ip) sp1, vec cRt q2 (matchesM L ip) sp2, vec cRt q3 (matchesM L atM) sp3, vec cRt q4 [route0M] sp4] = (es ++ [⟨q1, matchesM L ip, sp1⟩, ⟨q2, matchesM L ip, sp2⟩, ⟨q3, matchesM L atM, sp3⟩, ⟨q4, [route0M], sp4⟩] : List (Ls api_Route)).map (lsH cRt) := by
  rw [List.map_append]
  rfl
 have e2 : es.map Ls.s ++ [q1, q2, q3, q4] = (es ++ [⟨q1, matchesM L ip, sp1⟩, ⟨q2, matchesM L ip, sp2⟩, ⟨q3, matchesM L atM, sp3⟩, ⟨q4, [route0M], sp4⟩] : List (Ls api_Route)).map Ls.s := by
  rw [List.map_append]
  rfl
 rw [e1, e2] at s
 have e4 : OkLs (es ++ [⟨q1, matchesM L ip, sp1⟩, ⟨q2, matchesM L ip, sp2⟩, ⟨q3, matchesM L atM, sp3⟩, ⟨q4, [route0M], sp4⟩]) := by
  have m3 := hml ip
  have m4 := hml atM
  intro e h
  rcases List.mem_append.1 h with h | h
  ·exact ho e h
  ·simp only [List.mem_cons, List.not_mem_nil, or_false] at h
   rcases h with rfl | rfl | rfl | rfl
   ·simp only; omega
   ·simp only; omega
   ·simp only; omega
   ·simp
 have e5 : (es ++ [⟨q1, matchesM L ip, sp1⟩, ⟨q2, matchesM L ip, sp2⟩, ⟨q3, matchesM L atM, sp3⟩, ⟨q4, [route0M], sp4⟩] : List (Ls api_Route)).length = 4 * (k + 1) := by
  simp only [List.length_append, List.length_cons, List.length_nil, he]
  omega
 generalize (es ++ [⟨q1, matchesM L ip, sp1⟩, ⟨q2, matchesM L ip, sp2⟩, ⟨q3, matchesM L atM, sp3⟩, ⟨q4, [route0M], sp4⟩] : List (Ls api_Route)) = es' at s e4 e5
 refine ⟨(k + 1, es', l1'), ⟨?_, by simp only; omega, e5, e4, Ss.use (s := LentHs p b p2 b2 L r5.2 r8.2 sp5 sp8 ++ (LentDs L ip s12 r19 r20 sp19 sp20 ++ [vec cL V' (es'.map Ls.s) l1', seps (es'.map (lsH cRt))])) (r := R) s [3, 3, 1, 1, 1, 1, 1, 1, 1, 1, 0] rfl⟩, by simp only; omega⟩
 simp only
 rw [wrap_i64 (by omega) (by omega)]
 omega
theorem RouteLent_wp {sl : Sl} {A : HP} {xs : List api_Route} (s : Ss W R w) (ix : Nat) (ex : nth R ix = some A) (rx : Rdb A cRt sl xs) (t : Nat) (et : nth R t = some TabC)
  (hx : ∀ x ∈ xs, RByt x) (bx : xs.length * 64 ≤ 140737488351232) (hb : Byt ip.A.l) : WP (weirlaw14_RouteLent sl ip) w (fun r w' => r = true ∧ ∃ Hs', Ss W Hs' w') := by
 unfold weirlaw14_RouteLent
 refine WP.slot' s (fun _ w s => WP.step (route0_wp s) ?_)
 rintro _ w ⟨rfl, s⟩
 refine WP.newv s (fun b3 w s => ?_)
 have s1 : Ss W (vec cRt ⟨some (pt b3 0), 1, 1⟩ [route0M] [] :: R) w := s.first (fun h hp => vec_mk (l := [route0M]) (sp := []) (by rw [Cod.arr_enc] at hp; exact hp))
 refine WP.appS s1 (ix + 1) ex rx (by decide) (WP.appl s1 0 rfl (by simp only [List.length_singleton]; omega) (by decide) (fun r4 w sp4 s => ?_))
 have s : Ss W (vec cRt r4 ([route0M] ++ xs) sp4 :: R) w := s
 have hbx : ∀ x ∈ [route0M] ++ xs, RByt x := by
  intro x h
  rcases List.mem_append.1 h with h | h
  ·rw [List.mem_singleton.1 h]; exact byt_0
  ·exact hx x h
 refine WP.step (filled_wp s 0 rfl vec_rdb (t + 1) et hbx) ?_
 rintro r5 w ⟨p, b, sp5, h5, s⟩
 generalize hL : fillR [] (([route0M] ++ xs).take 600) = L at s
 have hlen : L.length ≤ 256 := by rw [← hL]; exact fillR_le (by simp)
 have hok : TOk L := ⟨hlen, fun r hr => by
   rw [← hL] at hr
   rcases fillR_ok hr with h | ⟨h, hp⟩
   ·cases h
   ·exact hp, fun r hr => by
   rw [← hL] at hr
   rcases fillR_ok hr with h | ⟨h, hp⟩
   ·cases h
   ·exact hbx r (List.mem_of_mem_take h)⟩
 have hst : ∀ x ∈ L, stat x := fun x hx => by
  rw [← hL] at hx
  exact (fillR_stat hx).elim (fun h => by cases h) id
 have hne : 0 < L.length := by
  have := route0_in (l := xs)
  rw [show (route0M :: xs).take 600 = ([route0M] ++ xs).take 600 from rfl, hL] at this
  exact List.length_pos_of_mem this
 have s : Ss W (TblHs p b L ++ (vec cRt r5.2 L sp5 :: vec cRt r4 ([route0M] ++ xs) sp4 :: R)) w := s.use [1, 1] rfl
 have nd := TblHs.nd s
 refine WP.step (route0_wp s) ?_
 rintro _ w ⟨rfl, s⟩
 refine WP.newv s (fun b7 w s => ?_)
 have s : Ss W (vec cRt ⟨some (pt b7 0), 1, 1⟩ [route0M] [] :: (TblHs p b L ++ (vec cRt r5.2 L sp5 :: vec cRt r4 ([route0M] ++ xs) sp4 :: R))) w := s.first (fun h hp => vec_mk (l := [route0M]) (sp := []) (by rw [Cod.arr_enc] at hp; exact hp))
 refine WP.step (filled_wp s 0 rfl vec_rdb (t + 5) et (fun x h => by rw [List.mem_singleton.1 h]; exact byt_0)) ?_
 rintro r8 w ⟨p2, b2, sp8, h8, s⟩
 rw [fill_0] at s
 have s : Ss W (LentHs p b p2 b2 L r5.2 r8.2 sp5 sp8 ++ (vec cRt ⟨some (pt b7 0), 1, 1⟩ [route0M] [] :: vec cRt r4 ([route0M] ++ xs) sp4 :: R)) w := s.use [4, 4, 1, 1, 2, 0] rfl
 have hl5 := (s.rd_len (i := 4) rfl vec_rdb).1
 have hl8 := (s.rd_len (i := 5) rfl vec_rdb).1
 refine WP.step (R := fun y w' => y = false ∧ w = w') (WP.ite (fun h => by rw [h5] at h; cases h) (fun _ => WP.ret ⟨by rw [h8]; rfl, rfl⟩)) ?_
 rintro _ _ ⟨rfl, rfl⟩
 refine WP.step (R := fun y w' => y = false ∧ w = w') (WP.ite (fun h => by cases h) (fun _ => WP.ret ⟨?_, rfl⟩)) ?_
 ·rw [hl5]
  exact beq_eq_false_iff_ne.2 (by omega)
 rintro _ _ ⟨rfl, rfl⟩
 refine WP.step (R := fun y w' => y = false ∧ w = w') (WP.ite (fun h => by cases h) (fun _ => WP.ret ⟨?_, rfl⟩)) ?_
 ·rw [hl8]
  rfl
 rintro _ _ ⟨rfl, rfl⟩
 refine WP.ite (fun h => by cases h) (fun _ => ?_)
 generalize hR : vec cRt ⟨some (pt b7 0), 1, 1⟩ [route0M] [] :: vec cRt r4 ([route0M] ++ xs) sp4 :: R = R' at s
 have s : Ss W (rdS cRt false Sl.nil (sortR (L.take 0)) :: (LentHs p b p2 b2 L r5.2 r8.2 sp5 sp8 ++ R')) w := s.mk0 rdS_nil
 refine WP.loopG (γ := Nat) (fun i (x : Sl × Int) w => x.2 = (i : Int) ∧ i ≤ L.length ∧ Ss W (rdS cRt false x.1 (sortR (L.take i)) :: (LentHs p b p2 b2 L r5.2 r8.2 sp5 sp8 ++ R')) w) (fun i _ => L.length - i) 0 ⟨rfl, by omega, s⟩ ?_
 clear s
 rintro i ⟨s12, _⟩ w ⟨rfl, hi, s⟩
 simp only at hi s
 show WP (weirlaw14_RouteLent.L8 ip r5 r8 s12 (i : Int)) w _
 unfold weirlaw14_RouteLent.L8
 refine WP.ite (fun h => ?_) (fun h => ?_)
 ·have h1 : i < L.length := by omega
  have ndi : ((L.take i).map (·.Prefix)).Nodup := nd.sublist ((List.take_sublist i L).map _)
  refine WP.rdx s 5 rfl vec_rdb (by omega) (x := L[i]) (by rw [Int.toNat_natCast, List.getElem?_eq_getElem h1]) rfl ?_
  refine WP.step (radd_wp s 0 rfl (by rw [(sortR_perm _).length_eq, List.length_take]; omega) L[i] (hok.byt _ (List.getElem_mem h1))) ?_
  rintro ⟨s12', e⟩ w ⟨-, s⟩
  simp only at s
  rw [putD_sort ndi, fillR_id hst nd hlen h1] at s
  refine WP.next ⟨i + 1, ⟨by simp only; rw [wrap_i64 (by omega) (by omega)]; omega, h1, (s.use [1] rfl).drop⟩, by omega⟩
 ·have : i = L.length := by omega
  subst this
  rw [List.take_length] at s
  refine WP.step (R := fun r w' => r = true ∧ ∃ Hs', Ss W Hs' w') ?_ (fun r w h => WP.done h)
  unfold weirlaw14_RouteLent.K5
  have ndD : ((sortR L).map (·.Prefix)).Nodup := (((sortR_perm L).map _).nodup_iff).2 nd
  have hD := hok.perm (sortR_perm L)
  refine WP.slot' s (fun _ w s => WP.draw' s (fun w s => WP.step (rmatches_wp s 0 rfl rdS_rdb hD ndD ip hb) ?_))
  rintro r19 w ⟨sp19, s⟩
  refine WP.step (rmatches_wp s 1 rfl rdS_rdb hD ndD atM byt_at) ?_
  rintro r20 w ⟨sp20, s⟩
  rw [match_perm ndD (sortR_perm L), match_perm ndD (sortR_perm L)] at s
  exact lentL7_wp h5 h8 hok hb (Ss.use (s := LentHs p b p2 b2 L r5.2 r8.2 sp5 sp8 ++ LentDs L ip s12 r19 r20 sp19 sp20) (r := R') s [3, 3, 3, 3, 3, 3, 2, 1, 0] rfl)
end
end Go.Proofs.YtfgcobigollfjaaDoor.Lx
