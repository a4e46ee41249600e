/- The document's answer of layer 15, of its programs in the M-world: a cache is rows that are only read (first part). -/
import Derived.Test.YtlkhijflgbobjaaNeighLessR
set_option linter.unusedVariables false
set_option linter.unusedSimpArgs false
namespace Go.Proofs.Ytlkhijflgbobjaa.Lx
open Go Go.Proofs Go.RowKit
abbrev cE := c_weirref15_Entry
abbrev cN := c_api_Neighbour
abbrev rdI : Sl → List Int → HP := rdS (cI .i64) false
def rowE (x : weirref15_Entry × NE) : HP := fun h => x.1.N = x.2.told ∧ rdI x.1.Items x.2.items h
def RefZ (L : Sl) (z : List (weirref15_Entry × NE)) : HP := fun h => rdS cE false L (z.map (·.1)) h ∧ ∀ x ∈ z, rowE x h
def RefC (r : weirref15_Cache) (m : NM) : HP := fun h => ∃ z, r.C = m.c ∧ z.map (·.2) = m.l ∧ RefZ r.L z h
theorem rowE_up {x : weirref15_Entry × NE} {h k : PH} (e : h.le k) (hp : rowE x h) : rowE x k := ⟨hp.1, rdS_up e hp.2⟩
theorem RefZ_rdb {L : Sl} {z : List (weirref15_Entry × NE)} : Rdb (RefZ L z) cE L (z.map (·.1)) := fun h hh => rdS_rdb h hh.1
theorem RefZ_items {L : Sl} {z : List (weirref15_Entry × NE)} {x : weirref15_Entry × NE} (hx : x ∈ z) : Rdb (RefZ L z) (cI .i64) x.1.Items x.2.items := fun h hh => rdS_rdb h (hh.2 x hx).2
theorem Ro.refZ {L : Sl} {z : List (weirref15_Entry × NE)} : Ro (RefZ L z) := fun h hh => ⟨Ro.rdS h hh.1, fun x hx => ⟨(hh.2 x hx).1, Ro.rdS h (hh.2 x hx).2⟩⟩
section
variable {W w : World} {Hs : List HP} {r : weirref15_Cache} {m : NM} {L : Sl} {z z' : List (weirref15_Entry × NE)}
theorem Ss.openF (s : Ss W (RefC r m :: Hs) w) : ∃ z, r.C = m.c ∧ z.map (·.2) = m.l ∧ Ss W (RefZ r.L z :: Hs) w := by
  obtain ⟨hb, k, ⟨h1, h2, e, l1, l2, ⟨z, a1, a2, a3⟩, b'⟩, hw⟩ := s
  exact ⟨z, a1, a2, hb, k, ⟨h1, h2, e, l1, l2, a3, b'⟩, hw⟩
theorem Ss.closeF (s : Ss W (RefZ r.L z :: Hs) w) (hc : r.C = m.c) (hz : z.map (·.2) = m.l) : Ss W (RefC r m :: Hs) w := s.first (fun h hh => ⟨z, hc, hz, hh⟩)
theorem RefZ_len {i : Nat} (s : Ss W Hs w) (e : nth Hs i = some (RefZ L z)) : L.len = z.length ∧ L.len ≤ L.cap ∧ (∀ x ∈ z, x.1.N = x.2.told ∧ x.1.Items.len = x.2.items.length) := by
  obtain ⟨h, hh⟩ := s.has e
  exact ⟨by rw [hh.1.1, List.length_map], hh.1.2.1, fun x hx => ⟨(hh.2 x hx).1, (hh.2 x hx).2.1⟩⟩
theorem Ss.mkZ {A : HP} {r : Sl} (s : Ss W (rdS cE false r (z'.map (·.1)) :: A :: Hs) w) (hz : ∀ h, A h → ∀ x ∈ z', rowE x h) : Ss W (RefZ r z' :: Hs) w :=
  s.merge (fun h1 h2 h l1 l2 a b => ⟨rdS_up l1 a, fun x hx => rowE_up l2 (hz h2 b x hx)⟩)
theorem out_wp {w : World} (n lo hi : Int) : WP (weirref15_out n lo hi) w (fun r w' => r = decide (n < lo ∨ n > hi) ∧ w = w') := by
  unfold weirref15_out
  refine WP.step (R := fun r w' => r = decide (n < lo ∨ n > hi) ∧ w = w') (WP.ite (fun h => WP.ret ⟨by simp [h], rfl⟩) (fun h => WP.ret ⟨by simp [h], rfl⟩)) (fun r w h => WP.ret h)
theorem orRef_wp {w : World} {P : Prop} [Decidable P] (n lo hi : Int) : WP (if decide P = true then pure true else weirref15_out n lo hi >>= fun r => pure r) w (fun y w' => y = decide (P ∨ n < lo ∨ n > hi) ∧ w = w') := by
  refine WP.ite (fun h => WP.ret ⟨?_, rfl⟩) (fun h => WP.step (out_wp _ _ _) ?_)
  · exact (decide_eq_true (.inl (of_decide_eq_true h))).symm
  · rintro _ _ ⟨rfl, rfl⟩
    have h : ¬ P := fun hp => h (decide_eq_true hp)
    exact WP.ret ⟨decide_eq_decide.2 ⟨.inr, fun hh => hh.resolve_left h⟩, rfl⟩
theorem refNew_wp (s : Ss W Hs w) (c : api_NeighConfig) : WP (weirref15_New c) w (fun r w' => (CfgOk c ∧ r.2 = 0 ∧ Ss W (RefC r.1 ⟨c, []⟩ :: Hs) w') ∨ (¬ CfgOk c ∧ r.2 = 150 ∧ Ss W Hs w')) := by
  unfold weirref15_New
  refine WP.slot' s (fun _ w s => WP.slot' s (fun _ w s => WP.step (out_wp _ _ _) ?_))
  rintro _ _ ⟨rfl, rfl⟩
  refine WP.step (orRef_wp _ _ _) ?_
  rintro _ _ ⟨rfl, rfl⟩
  refine WP.step (orRef_wp _ _ _) ?_
  rintro _ _ ⟨rfl, rfl⟩
  refine WP.step (orRef_wp _ _ _) ?_
  rintro _ _ ⟨rfl, rfl⟩
  refine WP.step (orRef_wp _ _ _) ?_
  rintro _ _ ⟨rfl, rfl⟩
  refine WP.ite (fun h => WP.ret (.inr ⟨fun hc => (cfg_iff c).1 hc (of_decide_eq_true h), rfl, s⟩)) (fun h => ?_)
  have hc : CfgOk c := (cfg_iff c).2 (fun hn => h (decide_eq_true hn))
  refine WP.ret (.inl ⟨hc, rfl, s.mk0 ⟨[], rfl, rfl, rdS_nil, by simp⟩⟩)
theorem refAddr_wp (s : Ss W Hs w) (ip : api_IP) : WP (weirref15_address ip) w (fun r w' => r = addrB ip ∧ Ss W Hs w') := by
  unfold weirref15_address
  have hd : ∀ j, j < 12 → (ip.A.l.drop 4)[j]? = some (ip.A.g ((4 + j : Nat) : Int) 0) := fun j hj => by
    rw [List.getElem?_drop]
    exact vec_g ip.A 0 (by omega)
  have hdl : (ip.A.l.drop 4).length = 12 := by rw [List.length_drop, ip.A.h]
  refine WP.slot' s (fun _ w s => ?_)
  refine WP.loopG (γ := Nat) (fun i x w => x = ((4 + i : Nat) : Int) ∧ i ≤ 12 ∧ (ip.V = 4 → ∀ j, j < i → ip.A.g ((4 + j : Nat) : Int) 0 = 0) ∧ Ss W Hs w) (fun i _ => 12 - i) 0 ⟨rfl, by omega, fun _ j hj => absurd hj (by omega), s⟩ ?_
  clear s
  rintro i _ w ⟨rfl, hi, he, s⟩
  show WP (weirref15_address.L1 ip ((4 + i : Nat) : Int)) w _
  unfold weirref15_address.L1
  refine WP.ite (fun h => ?_) (fun h => ?_)
  · refine WP.step (R := fun y w' => y = decide (ip.V = 4 ∧ ip.A.g ((4 + i : Nat) : Int) 0 ≠ 0) ∧ w = w') (WP.ite (fun h4 => WP.chk (by omega) (WP.ret ⟨?_, rfl⟩)) (fun h4 => WP.ret ⟨?_, rfl⟩)) ?_
    · by_cases hg : ip.A.g ((4 + i : Nat) : Int) 0 = 0
      · rw [hg]; simp
      · rw [decide_eq_true ⟨h4, hg⟩]; simpa using hg
    · exact (decide_eq_false (fun h => h4 h.1)).symm
    rintro _ _ ⟨rfl, rfl⟩
    refine WP.ite (fun hh => WP.done ⟨?_, s⟩) (fun hh => WP.next ?_)
    · obtain ⟨h4, hg⟩ := of_decide_eq_true hh
      unfold addrB
      rw [h4]
      have : (ip.A.l.drop 4).all (· == 0) = false := by
        cases hc : (ip.A.l.drop 4).all (· == 0) with
        | false => rfl
        | true =>
          have := List.all_eq_true.1 hc _ (List.mem_of_getElem? (hd i (by omega)))
          exact absurd (by simpa using this) hg
      rw [this]
      rfl
    · have hh : ¬ (ip.V = 4 ∧ ip.A.g ((4 + i : Nat) : Int) 0 ≠ 0) := fun h => hh (decide_eq_true h)
      refine ⟨i + 1, ⟨by rw [wrap_i64 (by omega) (by omega)]; omega, by omega, fun h4 j hj => ?_, s⟩, by omega⟩
      by_cases e : j = i
      · subst e
        exact Classical.byContradiction fun hg => hh ⟨h4, hg⟩
      · exact he h4 j (by omega)
  · obtain rfl : i = 12 := by omega
    unfold weirref15_address.K1
    refine WP.step (R := fun y w' => y = addrB ip ∧ Ss W Hs w') ?_ (fun r w h => WP.done h)
    refine WP.step (R := fun y w' => y = addrB ip ∧ Ss W Hs w') ?_ (fun r w h => WP.ret h)
    unfold addrB
    refine WP.ite (fun h4 => WP.ret ⟨?_, s⟩) (fun h4 => WP.ret ⟨?_, s⟩)
    · have : (ip.A.l.drop 4).all (· == 0) = true := by
        rw [List.all_eq_true]
        intro x hx
        obtain ⟨j, hj⟩ := List.getElem?_of_mem hx
        have hj2 := (List.getElem?_eq_some_iff.1 hj).1
        rw [hd j (by omega)] at hj
        cases hj
        simpa using he h4 j (by omega)
      rw [this, h4]
      rfl
    · rw [decide_eq_false h4, Bool.false_and, Bool.or_false]
      rfl
theorem find_first {l : List NE} {k : neigh_key} {i : Nat} {e : NE} (h : ∀ j, j < i → ∀ e, l[j]? = some e → e.k ≠ k) (he : l[i]? = some e) (hk : e.k = k) : NM.find l k = some i := by
  obtain ⟨hi1, hi2⟩ := List.getElem?_eq_some_iff.1 he
  refine List.findIdx?_eq_some_iff_getElem.2 ⟨hi1, ?_, fun j hj => ?_⟩
  · rw [hi2]; exact decide_eq_true hk
  · have := h j hj _ (List.getElem?_eq_getElem (by omega))
    simpa using this
theorem find_no {l : List NE} {k : neigh_key} (h : ∀ j, j < l.length → ∀ e, l[j]? = some e → e.k ≠ k) : NM.find l k = none := by
  refine List.findIdx?_eq_none_iff.2 fun e he => ?_
  obtain ⟨j, hj⟩ := List.getElem?_of_mem he
  exact decide_eq_false (h j (List.getElem?_eq_some_iff.1 hj).1 e hj)
def fI (o : Option Nat) : Int := match o with | some i => (i : Int) | none => -1
theorem find_wp {j : Nat} (s : Ss W Hs w) (e : nth Hs j = some (RefZ r.L z)) (hn : z.length ≤ 1024) (port : Int) (ip : api_IP) : WP (weirref15_find r port ip) w (fun x w' => x = fI (NM.find (z.map (·.2)) ⟨port, ip⟩) ∧ Ss W Hs w') := by
  unfold weirref15_find
  obtain ⟨hl, hc, hrow⟩ := RefZ_len s e
  refine WP.slot' s (fun _ w s => WP.slot' s (fun _ w s => ?_))
  refine WP.loopG (γ := Nat) (fun i x w => x = (i : Int) ∧ i ≤ z.length ∧ (∀ j, j < i → ∀ e, (z.map (·.2))[j]? = some e → e.k ≠ ⟨port, ip⟩) ∧ Ss W Hs w) (fun i _ => z.length - i) 0 ⟨rfl, by omega, fun j hj => absurd hj (by omega), s⟩ ?_
  clear s
  rintro i _ w ⟨rfl, hi, he, s⟩
  show WP (weirref15_find.L1 r port ip (i : Int)) w _
  unfold weirref15_find.L1
  refine WP.ite (fun h => ?_) (fun h => WP.done ?_)
  · have hi2 : i < z.length := by omega
    have hx := List.getElem?_eq_getElem hi2
    generalize z[i] = x at hx
    have hx1 : (z.map (·.1))[i]? = some x.1 := by rw [List.getElem?_map, hx]; rfl
    have hx2 : (z.map (·.2))[i]? = some x.2 := by rw [List.getElem?_map, hx]; rfl
    have hN := (hrow x (List.mem_of_getElem? hx)).1
    refine WP.draw' s (fun w s => ?_)
    refine WP.rdxp0 s j e RefZ_rdb (by omega) (x := x.1) (by rw [Int.toNat_natCast]; exact hx1) rfl ((At_weirref15_Entry_N _).trans (At_api_Neighbour_Port _)) ?_
    rw [hN]
    refine WP.step (R := fun y w' => (y = true ↔ x.2.k = ⟨port, ip⟩) ∧ w = w') (WP.ite (fun hp => ?_) (fun hp => WP.ret ⟨?_, rfl⟩)) ?_
    · refine WP.rdxp s j e RefZ_rdb (by omega) (x := x.1) (o := 0 + 1) (by rw [Int.toNat_natCast]; exact hx1) rfl ((At_weirref15_Entry_N _).trans (At_api_Neighbour_IP _)) (WP.ret ⟨?_, rfl⟩)
      rw [hN, eqv_true]
      have hp : x.2.k.port = port := hp
      show x.2.k.ip = ip ↔ _
      constructor
      · intro h
        cases hk : x.2.k
        rw [hk] at h hp
        simp only at h hp
        rw [h, hp]
      · intro h
        rw [h]
    · have hp : ¬ x.2.k.port = port := hp
      constructor
      · intro h; cases h
      · intro h; rw [h] at hp; exact absurd rfl hp
    rintro y _ ⟨hy, rfl⟩
    refine WP.ite (fun hh => WP.done ⟨?_, s⟩) (fun hh => WP.next ?_)
    · rw [find_first he hx2 (hy.1 hh)]
      rfl
    · refine ⟨i + 1, ⟨by rw [wrap_i64 (by omega) (by omega)]; simp, by omega, fun j hj e' he' => ?_, s⟩, by omega⟩
      by_cases ej : j = i
      · subst ej
        rw [hx2] at he'
        cases he'
        exact fun hk => hh (hy.2 hk)
      · exact he j (by omega) e' he'
  · rw [find_no (fun j hj => he j (by rw [List.length_map] at hj; omega))]
    exact ⟨rfl, s⟩
theorem without_wp {j : Nat} (s : Ss W Hs w) (e : nth Hs j = some (RefZ L z)) (hn : z.length ≤ 1024) {k : Nat} (hk : k < z.length) : WP (weirref15_without L (k : Int)) w (fun r w' => Ss W (rdS cE false r ((z.eraseIdx k).map (·.1)) :: Hs) w') := by
  unfold weirref15_without
  obtain ⟨hl, hc, hrow⟩ := RefZ_len s e
  have r1 : Rdb (RefZ L z) cE ⟨L.a, k, L.cap⟩ ((z.map (·.1)).take k) := RefZ_rdb.take (by rw [List.length_map]; omega)
  have r2 := (RefZ_rdb (L := L) (z := z)).drop (k := k + 1) (by rw [List.length_map]; omega) hc
  refine WP.cutpre (by omega) (by omega) ?_
  rw [Int.toNat_natCast]
  refine WP.appS s j e r1 (by decide) (WP.appl0 s (by rw [List.length_take, List.length_map]; omega) (by decide) (fun r w sp s => ?_))
  rw [wrap_i64 (by omega) (by omega)]
  refine WP.cutsuf (by omega) (by omega) hc ?_
  rw [show ((k : Int) + 1).toNat = k + 1 by omega]
  refine WP.appS s (j + 1) e r2 (by decide) (WP.appl s 0 rfl (by rw [List.length_take, List.length_drop, List.length_map]; omega) (by decide) (fun r w sp s => WP.ret ?_))
  have hz : (z.eraseIdx k).map (·.1) = (z.map (·.1)).take k ++ (z.map (·.1)).drop (k + 1) := by
    rw [← map_erase, List.eraseIdx_eq_take_drop_succ]
  rw [hz]
  exact s.vec_freeze
end
end Go.Proofs.Ytlkhijflgbobjaa.Lx
