/- The document's answer of layer 15, of its programs in the M-world: with, put, room, Want, Learn. -/
import Derived.Test.YtlkhijflgbobjaaNeighRef
set_option linter.unusedVariables false
set_option linter.unusedSimpArgs false
namespace Go.Proofs.Ytlkhijflgbobjaa.Lx
open Go Go.Proofs Go.RowKit
section
variable {W w : World} {Hs : List HP} {r : weirref15_Cache} {m : NM} {L : Sl} {z z' : List (weirref15_Entry × NE)}
theorem insAt_of {l : List NE} {k : neigh_key} {i : Nat} (h : ∀ j, j < i → ∀ e, l[j]? = some e → klt e.k k = true) (hi : i ≤ l.length) (hs : ∀ e, l[i]? = some e → klt e.k k = false) : NM.insAt l k = i := by
  unfold NM.insAt
  induction l generalizing i with
  | nil =>
    simp only [List.length_nil] at hi
    simp
    omega
  | cons a l ih =>
    rw [List.takeWhile_cons]
    cases i with
    | zero =>
      rw [hs a rfl]
      simp
    | succ i =>
      rw [h 0 (by omega) a rfl, if_pos rfl, List.length_cons]
      rw [ih (i := i) (fun j hj e he => h (j + 1) (by omega) e he) (by simpa using hi) (fun e he => hs e he)]
theorem with_wp {j : Nat} (s : Ss W Hs w) (e : nth Hs j = some (RefZ L z)) (hn : z.length ≤ 1024) (x : weirref15_Entry × NE) (hN : x.1.N = x.2.told) : WP (weirref15_with L x.1) w (fun r w' => Ss W (rdS cE false r ((z.take (NM.insAt (z.map (·.2)) x.2.k) ++ x :: z.drop (NM.insAt (z.map (·.2)) x.2.k)).map (·.1)) :: Hs) w') := by
  unfold weirref15_with
  obtain ⟨hl, hc, hrow⟩ := RefZ_len s e
  refine WP.slot' s (fun _ w s => ?_)
  refine WP.loopG (γ := Nat) (fun i v w => v = (i : Int) ∧ i ≤ z.length ∧ (∀ j, j < i → ∀ e, (z.map (·.2))[j]? = some e → klt e.k x.2.k = true) ∧ Ss W Hs w) (fun i _ => z.length - i) 0 ⟨rfl, by omega, fun j hj => absurd hj (by omega), s⟩ ?_
  clear s
  rintro i _ w ⟨rfl, hi, he, s⟩
  show WP (weirref15_with.L1 L x.1 (i : Int)) w _
  unfold weirref15_with.L1
  refine WP.draw' s (fun w s => ?_)
  refine WP.step (R := fun y w' => (y = true → i < z.length ∧ ∀ e, (z.map (·.2))[i]? = some e → klt e.k x.2.k = true) ∧ (y = false → ∀ e, (z.map (·.2))[i]? = some e → klt e.k x.2.k = false) ∧ Ss W Hs w') (WP.ite (fun h => ?_) (fun h => WP.ret ⟨(fun h => by cases h), fun _ e he => ?_, s⟩)) ?_
  · have hi2 : i < z.length := by omega
    have hx := List.getElem?_eq_getElem hi2
    generalize z[i] = u at hx
    have hx1 : (z.map (·.1))[i]? = some u.1 := by rw [List.getElem?_map, hx]; rfl
    have hx2 : (z.map (·.2))[i]? = some u.2 := by rw [List.getElem?_map, hx]; rfl
    have huN := (hrow u (List.mem_of_getElem? hx)).1
    rw [hx2, hN]
    have conc : ∀ {y : Bool} {w : World}, y = klt u.2.k x.2.k → Ss W Hs w → (y = true → i < z.length ∧ ∀ e, some u.2 = some e → klt e.k x.2.k = true) ∧ (y = false → ∀ e, some u.2 = some e → klt e.k x.2.k = false) ∧ Ss W Hs w := by
      rintro y w rfl s
      exact ⟨fun h => ⟨hi2, fun e he => by cases he; exact h⟩, fun h e he => by cases he; exact h, s⟩
    refine WP.rdxp0 s j e RefZ_rdb (by omega) (x := u.1) (by rw [Int.toNat_natCast]; exact hx1) rfl ((At_weirref15_Entry_N _).trans (At_api_Neighbour_Port _)) ?_
    rw [huN]
    refine WP.step (R := fun y w' => y = klt u.2.k x.2.k ∧ Ss W Hs w') (WP.ite (fun hp => WP.ret ⟨?_, s⟩) (fun hp => ?_)) (fun y w h => WP.ret (conc h.1 h.2))
    · have hp : u.2.k.port < x.2.k.port := hp
      unfold klt
      rw [if_neg (by omega)]
      exact (decide_eq_true hp).symm
    · have hp : ¬ u.2.k.port < x.2.k.port := hp
      refine WP.rdxp0 s j e RefZ_rdb (by omega) (x := u.1) (by rw [Int.toNat_natCast]; exact hx1) rfl ((At_weirref15_Entry_N _).trans (At_api_Neighbour_Port _)) ?_
      rw [huN]
      refine WP.step (R := fun y w' => y = klt u.2.k x.2.k ∧ Ss W Hs w') (WP.ite (fun hq => ?_) (fun hq => WP.ret ⟨?_, s⟩)) (fun y w h => WP.ret h)
      · have hq : u.2.k.port = x.2.k.port := hq
        refine WP.rdxp s j e RefZ_rdb (by omega) (x := u.1) (o := 0 + 1) (by rw [Int.toNat_natCast]; exact hx1) rfl ((At_weirref15_Entry_N _).trans (At_api_Neighbour_IP _)) ?_
        rw [huN]
        refine WP.step (refLess_wp s _ _) ?_
        rintro y w ⟨rfl, s⟩
        refine WP.ret ⟨?_, s⟩
        unfold klt
        rw [if_pos hq]
        rfl
      · have hq : ¬ u.2.k.port = x.2.k.port := hq
        unfold klt
        rw [if_neg hq]
        exact (decide_eq_false hp).symm
  · have := (List.getElem?_eq_some_iff.1 he).1
    rw [List.length_map] at this
    omega
  rintro y w ⟨h1, h0, s⟩
  refine WP.ite (fun hy => WP.next ?_) (fun hy => ?_)
  · obtain ⟨q1, q2⟩ := h1 hy
    refine ⟨i + 1, ⟨by rw [wrap_i64 (by omega) (by omega)]; simp, by omega, fun j hj e' he' => ?_, s⟩, by omega⟩
    by_cases ej : j = i
    · subst ej; exact q2 e' he'
    · exact he j (by omega) e' he'
  · rw [insAt_of he (by rw [List.length_map]; exact hi) (h0 (by simpa using hy))]
    refine WP.step (R := fun r w' => Ss W (rdS cE false r ((z.take i ++ x :: z.drop i).map (·.1)) :: Hs) w') ?_ (fun r w h => WP.done h)
    unfold weirref15_with.K1
    have r1 : Rdb (RefZ L z) cE ⟨L.a, i, L.cap⟩ ((z.map (·.1)).take i) := RefZ_rdb.take (by rw [List.length_map]; omega)
    have r2 := (RefZ_rdb (L := L) (z := z)).drop (k := i) (by rw [List.length_map]; omega) hc
    refine WP.cutpre (by omega) (by omega) ?_
    rw [Int.toNat_natCast]
    refine WP.appS s j e r1 (by decide) (WP.appl0 s (by rw [List.length_take, List.length_map]; omega) (by decide) (fun r w sp s => WP.slot' s (fun _ w s => ?_)))
    refine WP.appl s 0 rfl (by rw [List.length_take, List.length_map, List.length_singleton]; omega) (by decide) (fun r w sp s => ?_)
    refine WP.cutsuf (by omega) (by omega) hc ?_
    rw [Int.toNat_natCast]
    refine WP.appS s (j + 1) e r2 (by decide) (WP.appl s 0 rfl (by rw [List.length_append, List.length_take, List.length_drop, List.length_map, List.length_singleton]; omega) (by decide) (fun r w sp s => WP.ret ?_))
    have hz : (z.take i ++ x :: z.drop i).map (·.1) = (z.map (·.1)).take i ++ [x.1] ++ (z.map (·.1)).drop i := by
      rw [List.map_append, List.map_cons, List.map_take, List.map_drop, List.append_assoc]
      rfl
    rw [hz]
    exact s.vec_freeze
theorem put_wp {j : Nat} (s : Ss W Hs w) (e : nth Hs j = some (RefZ L z)) (hn : z.length ≤ 1024) {i : Nat} (hi : i < z.length) (x : weirref15_Entry × NE) : WP (weirref15_put L (i : Int) x.1) w (fun r w' => Ss W (rdS cE false r ((z.set i x).map (·.1)) :: Hs) w') := by
  unfold weirref15_put
  refine WP.slot' s (fun _ w s => WP.appS s j e RefZ_rdb (by decide) (WP.appl0 s (by rw [List.length_map]; omega) (by decide) (fun r w sp s => ?_)))
  refine WP.stx s 0 rfl (by omega) (by rw [List.length_map]; omega) rfl (fun w s => WP.ret ?_)
  rw [Int.toNat_natCast] at s
  rw [List.map_set]
  exact Ss.vec_freeze s
theorem refRoom_wp {j : Nat} (s : Ss W Hs w) (e : nth Hs j = some (RefZ r.L z)) (ok : m.Ok) (hc : r.C = m.c) (hz : z.map (·.2) = m.l) :
    WP (weirref15_room r) w (fun q w' => (q.2 = true ∧ q.1.C = r.C ∧ ∃ (m' : NM) (z' : List (weirref15_Entry × NE)), m.room = some m' ∧ z'.map (·.2) = m'.l ∧ (∀ x ∈ z', x ∈ z) ∧ Ss W (rdS cE false q.1.L (z'.map (·.1)) :: Hs) w') ∨ (q.2 = false ∧ m.room = none ∧ Ss W Hs w')) := by
  unfold weirref15_room
  obtain ⟨hl, hcp, hrow⟩ := RefZ_len s e
  have hzl : z.length = m.l.length := by rw [← hz, List.length_map]
  have hmax := ok.n
  have hm1 := ok.c.m1
  have hread : ∀ {i : Nat} {u : NE}, m.l[i]? = some u → ∃ x, z[i]? = some x ∧ x.2 = u ∧ (z.map (·.1))[i]? = some x.1 ∧ x.1.N = u.told := by
    intro i u hu
    rw [← hz, List.getElem?_map] at hu
    obtain ⟨x, hx, rfl⟩ := Option.map_eq_some_iff.1 hu
    exact ⟨x, hx, rfl, by rw [List.getElem?_map, hx]; rfl, (hrow x (List.mem_of_getElem? hx)).1⟩
  refine WP.slot' s (fun _ w s => WP.slot' s (fun _ w s => ?_))
  rw [hl, show r.C.Max = m.c.Max by rw [hc]]
  unfold NM.room
  rw [hzl]
  refine WP.ite (fun h => WP.ret (.inl ⟨rfl, rfl, m, z, by rw [if_pos h], hz, fun x hx => hx, ?_⟩)) (fun h => ?_)
  · have s1 := s.dup e Ro.refZ
    exact s1.first (fun h hh => hh.1)
  simp only [if_neg h]
  refine WP.loopG (γ := Nat) (fun i (v : Int × Int) w => v = (fI (NM.old m.l i), (i : Int)) ∧ i ≤ z.length ∧ Ss W Hs w) (fun i _ => z.length - i) 0 ⟨rfl, Nat.zero_le _, s⟩ ?_
  clear s
  rintro i _ w ⟨rfl, hi, s⟩
  show WP (weirref15_room.L1 r (fI (NM.old m.l i)) (i : Int)) w _
  unfold weirref15_room.L1
  refine WP.ite (fun h' => ?_) (fun h' => ?_)
  · have hi2 : i < m.l.length := by omega
    have hu := List.getElem?_eq_getElem hi2
    generalize m.l[i] = u at hu
    obtain ⟨x, hx, rfl, hx1, hN⟩ := hread hu
    have hun : NM.old m.l (i + 1) = if x.2.st = 3 ∧ (∀ k ∈ NM.old m.l i, ∀ y ∈ m.l[k]?, y.age < x.2.age) then some i else NM.old m.l i := by
      conv => lhs; unfold NM.old
      rw [hu]
    refine WP.draw' s (fun w s => ?_)
    refine WP.rdxp s j e RefZ_rdb (by omega) (x := x.1) (o := 0 + 24) (by rw [Int.toNat_natCast]; exact hx1) rfl ((At_weirref15_Entry_N _).trans (At_api_Neighbour_State _)) ?_
    rw [hN]
    refine WP.step (R := fun y w' => (y = true ↔ (x.2.st = 3 ∧ (∀ k ∈ NM.old m.l i, ∀ y ∈ m.l[k]?, y.age < x.2.age))) ∧ w = w') ?_ ?_
    · refine WP.ite (fun h3 => ?_) (fun h3 => WP.ret ⟨by constructor; (intro h; cases h); (intro h; exact absurd h.1 h3), rfl⟩)
      have h3 : x.2.st = 3 := h3
      refine WP.step (R := fun y w' => (y = true ↔ (x.2.st = 3 ∧ (∀ k ∈ NM.old m.l i, ∀ y ∈ m.l[k]?, y.age < x.2.age))) ∧ w = w') ?_ (fun r w h => WP.ret h)
      cases ho : NM.old m.l i with
      | none => exact WP.ite (fun _ => WP.ret ⟨by simp [h3], rfl⟩) (fun h => absurd (by decide) h)
      | some k =>
        obtain ⟨g1, v, g2, g3⟩ := NM.old_spec (by omega) ho
        obtain ⟨y, hy, rfl, hy1, hyN⟩ := hread g2
        refine WP.ite (fun h => absurd h (by simp only [fI]; omega)) (fun _ => ?_)
        refine WP.rdxp s j e RefZ_rdb (by omega) (x := x.1) (o := 0 + 25) (by rw [Int.toNat_natCast]; exact hx1) rfl ((At_weirref15_Entry_N _).trans (At_api_Neighbour_Age _)) ?_
        refine WP.rdxp s j e RefZ_rdb (k := (k : Int)) (by omega) (x := y.1) (o := 0 + 25) (by rw [Int.toNat_natCast]; exact hy1) rfl ((At_weirref15_Entry_N _).trans (At_api_Neighbour_Age _)) (WP.ret ⟨?_, rfl⟩)
        rw [hN, hyN, decide_eq_true_eq]
        simp [h3, g2, NE.told]
    · rintro y _ ⟨hy, rfl⟩
      refine WP.ite (fun hh => WP.next ?_) (fun hh => WP.next ?_)
      · refine ⟨i + 1, ⟨?_, by omega, s⟩, by omega⟩
        rw [hun, if_pos (hy.1 hh), wrap_i64 (by omega) (by omega)]
        rfl
      · refine ⟨i + 1, ⟨?_, by omega, s⟩, by omega⟩
        rw [hun, if_neg (fun h => hh (hy.2 h)), wrap_i64 (by omega) (by omega)]
        rfl
  · obtain rfl : i = m.l.length := by omega
    refine WP.step (R := fun q w' => (q.2 = true ∧ q.1.C = r.C ∧ ∃ (m' : NM) (z' : List (weirref15_Entry × NE)), Option.map (fun k => ({ c := m.c, l := m.l.eraseIdx k } : NM)) (NM.old m.l m.l.length) = some m' ∧ z'.map (·.2) = m'.l ∧ (∀ x ∈ z', x ∈ z) ∧ Ss W (rdS cE false q.1.L (z'.map (·.1)) :: Hs) w') ∨ (q.2 = false ∧ Option.map (fun k => ({ c := m.c, l := m.l.eraseIdx k } : NM)) (NM.old m.l m.l.length) = none ∧ Ss W Hs w')) ?_ (fun r w h => WP.done (by simpa using h))
    unfold weirref15_room.K1
    cases ho : NM.old m.l m.l.length with
    | none => exact WP.ite (fun _ => WP.ret (.inr ⟨rfl, rfl, s⟩)) (fun h => absurd (by decide) h)
    | some k =>
      obtain ⟨g1, v, g2, g3⟩ := NM.old_spec (Nat.le_refl _) ho
      refine WP.ite (fun h => absurd h (by simp only [fI]; omega)) (fun _ => ?_)
      refine WP.step (without_wp s e (by omega) (k := k) (by omega)) (fun q w s => WP.ret (.inl ⟨rfl, rfl, _, z.eraseIdx k, rfl, ?_, fun x hx => (List.eraseIdx_sublist _ _).subset hx, s⟩))
      rw [← map_erase, hz]
end
end Go.Proofs.Ytlkhijflgbobjaa.Lx
