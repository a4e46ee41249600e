/- The outright laws of the neighbours: the cache that they play with; its first play; what a call leaves as it was. -/
import Derived.Test.YtlkhijflgbobjaaNeighSameInts
import Derived.Test.YtlkhijflgbobjaaNeighLens
set_option linter.unusedVariables false
set_option linter.unusedSimpArgs false
namespace Go.Proofs.Ytlkhijflgbobjaa.Lx
open Go Go.Proofs Go.RowKit
theorem wf_u8 {x : Int} (h : (Lit.int .u8 x).wf = true) : 0 ≤ x ∧ x ≤ 255 := by
  simp [Lit.wf, IntKind.min, IntKind.max, IntKind.signed, IntKind.bits] at h
  omega
abbrev ip4 (d : Int) : api_IP := ⟨4, ⟨[10, 0, 0, d, 0, 0, 0, 0, 0, 0, 0, 0, 0, 0, 0, 0], rfl⟩⟩
abbrev mac9 : Vec Int 6 := ⟨[2, 0, 0, 0, 0, 9], rfl⟩
abbrev k200 : neigh_key := ⟨7, ip4 200⟩
def firstM (c : api_NeighConfig) : NM := ⟨c, [⟨k200, mac9, 2, 0, 0, []⟩]⟩
namespace NM
theorem first1 {c : api_NeighConfig} (ck : CfgOk c) : (⟨c, []⟩ : NM).want 7 (ip4 200) 5 = (⟨c, [⟨k200, zm, 1, 0, 1, [5]⟩]⟩, zm, 3, 0) := by
  have hr : (⟨c, []⟩ : NM).room = some ⟨c, []⟩ := by
    unfold room
    have := ck.m0
    rw [if_pos (by simp only [List.length_nil]; omega)]
  unfold want
  rw [if_neg (by decide)]
  simp only [show find [] ⟨7, ip4 200⟩ = none from rfl, hr]
  rfl
theorem first2 {c : api_NeighConfig} : (⟨c, [⟨k200, zm, 1, 0, 1, [5]⟩]⟩ : NM).learn 7 (ip4 200) mac9 1 = (firstM c, [5], 0) := by
  unfold learn
  rw [if_neg (by decide)]
  simp only [show ∀ e : NE, e.k = k200 → find [e] ⟨7, ip4 200⟩ = some 0 from fun e h => by
    refine List.findIdx?_eq_some_iff_getElem.2 ⟨by simp, ?_, fun j hj => absurd hj (by omega)⟩
    simpa using h]
  rfl
theorem first3 {c : api_NeighConfig} : (firstM c).want 7 (ip4 200) 6 = (firstM c, mac9, 1, 0) := by
  unfold want firstM
  rw [if_neg (by decide)]
  simp only [show ∀ e : NE, e.k = k200 → find [e] ⟨7, ip4 200⟩ = some 0 from fun e h => by
    refine List.findIdx?_eq_some_iff_getElem.2 ⟨by simp, ?_, fun j hj => absurd hj (by omega)⟩
    simpa using h]
  rfl
end NM
section
variable {W w : World} {R Hs : List HP} {p : Option Addr} {m : NM}
theorem lnum_wp {w : World} (e : Int) : WP (weirlaw15_num e) w (fun r w' => r = e ∧ w = w') := WP.ret ⟨rfl, rfl⟩
theorem ip_wp (s : Ss W R w) (d : Int) : WP (weirlaw15_ip d) w (fun r w' => r = ip4 d ∧ Ss W R w') := by
  unfold weirlaw15_ip
  exact WP.slot' s (fun _ w s => WP.ret ⟨rfl, s⟩)
theorem cache_wp (s : Ss W R w) (c : api_NeighConfig) : WP (weirlaw15_cache c) w (fun r w' => CfgOk r.2 ∧ (r.2 = if Bad c then ⟨3, 2, 2, 2, 3⟩ else c) ∧ Ss W (Cache r.1 ⟨r.2, []⟩ :: R) w') := by
  unfold weirlaw15_cache
  refine WP.slot' s (fun _ w s => WP.slot' s (fun _ w s => WP.step (New_wp s c) ?_))
  rintro ⟨p, e⟩ w (⟨hc, he, s⟩ | ⟨hc, he, s⟩)
  · simp only at he s
    subst he
    refine WP.step (lnum_wp _) ?_
    rintro _ _ ⟨rfl, rfl⟩
    refine WP.ite (fun h => absurd rfl h) (fun _ => ?_)
    unfold weirlaw15_cache.K1
    refine WP.step (lnum_wp _) ?_
    rintro _ _ ⟨rfl, rfl⟩
    exact WP.ite (fun h => absurd rfl h) (fun _ => WP.draw' s (fun w s => WP.ret ⟨hc, by rw [if_neg ((cfg_iff c).1 hc)], s⟩))
  · cases he
    refine WP.step (lnum_wp _) ?_
    rintro _ _ ⟨rfl, rfl⟩
    refine WP.ite (fun _ => ?_) (fun h => absurd (by decide) h)
    have small : CfgOk ⟨3, 2, 2, 2, 3⟩ := (cfg_iff _).2 (by decide)
    refine WP.step (New_wp s _) ?_
    rintro ⟨p, e⟩ w (⟨_, he, s⟩ | ⟨hn, _⟩)
    · simp only at he s
      subst he
      unfold weirlaw15_cache.K1
      refine WP.step (lnum_wp _) ?_
      rintro _ _ ⟨rfl, rfl⟩
      exact WP.ite (fun h => absurd rfl h) (fun _ => WP.draw' s (fun w s => WP.ret ⟨small, by rw [if_pos (Classical.byContradiction fun h => hc ((cfg_iff c).2 h))], s⟩))
    · exact absurd small hn
theorem ip4_bts : Bts (ip4 200).A.l := by decide
theorem mac9_bts : Bts mac9.l := by decide
theorem first_wp {c : api_NeighConfig} (s : Ss W (Cache p ⟨c, []⟩ :: R) w) : WP (weirlaw15_first p) w (fun r w' => r = true ∧ Ss W (Cache p (firstM c) :: R) w') := by
  unfold weirlaw15_first
  have ck := s.okC.c
  refine WP.step (ip_wp s 200) ?_
  rintro _ w ⟨rfl, s⟩
  refine WP.slot' s (fun _ w s => WP.slot' s (fun _ w s => WP.step (Want_wp s 7 (ip4 200) ip4_bts 5) ?_))
  rintro q w ⟨hq, s⟩
  rw [NM.first1 ck] at hq s
  subst hq
  refine WP.slot' s (fun _ w s => WP.step (Learn_wp s 7 (ip4 200) ip4_bts mac9 mac9_bts 1) ?_)
  rintro ⟨q, e⟩ w ⟨hq, s⟩
  rw [NM.first2] at hq s
  simp only at hq s
  subst hq
  refine WP.step (Want_wp (s.perm (List.Perm.swap _ _ _)) 7 (ip4 200) ip4_bts 6) ?_
  rintro q2 w ⟨hq, s⟩
  rw [NM.first3] at hq s
  subst hq
  refine WP.slot' s (fun _ w s => ?_)
  refine WP.step (R := fun y w' => y = true ∧ w = w') (WP.ite (fun _ => WP.step (lnum_wp _) (by rintro _ _ ⟨rfl, rfl⟩; exact WP.ret ⟨rfl, rfl⟩)) (fun h => absurd rfl h)) ?_
  rintro _ _ ⟨rfl, rfl⟩
  refine WP.step (R := fun y w' => y = true ∧ w = w') (WP.ite (fun _ => WP.step (lnum_wp _) (by rintro _ _ ⟨rfl, rfl⟩; exact WP.ret ⟨rfl, rfl⟩)) (fun h => absurd rfl h)) ?_
  rintro _ _ ⟨rfl, rfl⟩
  refine WP.step (R := fun y w' => y = true ∧ Ss W (Cache p (firstM c) :: R) w') (WP.ite (fun _ => WP.newv s (fun b w s => ?_)) (fun h => absurd rfl h)) ?_
  · have s := s.first (B := vec (cI .i64) ⟨some (pt b 0), 1, 1⟩ [5] []) (fun h hp => ⟨rfl, rfl, hp⟩)
    refine WP.step (sameInts_wp s 2 rfl vec_rdb 0 rfl vec_rdb (by simp)) ?_
    rintro _ w ⟨rfl, s⟩
    have s2 := (s.drop).use [1] (s := [_]) (r := [_] ++ R) rfl
    exact WP.ret ⟨rfl, s2.drop⟩
  rintro _ w ⟨rfl, s⟩
  refine WP.step (R := fun y w' => y = true ∧ w = w') (WP.ite (fun _ => WP.ret ⟨eqv_refl _, rfl⟩) (fun h => absurd rfl h)) ?_
  rintro _ _ ⟨rfl, rfl⟩
  refine WP.step (R := fun y w' => y = true ∧ w = w') (WP.ite (fun _ => WP.ret ⟨rfl, rfl⟩) (fun h => absurd rfl h)) ?_
  rintro _ _ ⟨rfl, rfl⟩
  refine WP.step (R := fun y w' => y = true ∧ w = w') (WP.ite (fun _ => WP.step (lnum_wp _) (by rintro _ _ ⟨rfl, rfl⟩; exact WP.ret ⟨rfl, rfl⟩)) (fun h => absurd rfl h)) ?_
  rintro _ _ ⟨rfl, rfl⟩
  exact WP.ret ⟨rfl, s⟩
end
end Go.Proofs.Ytlkhijflgbobjaa.Lx
