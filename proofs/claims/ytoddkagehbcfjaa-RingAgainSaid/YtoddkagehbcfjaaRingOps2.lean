/- Package ring's calls, of their programs in the M-world: Arrive, Poll, Take, Buffer, Drain and New do what the plain value says. -/
import Derived.Test.YtoddkagehbcfjaaRingOps
set_option linter.unusedVariables false
set_option linter.unusedSimpArgs false
namespace Go.Proofs.Ytoddkagehbcfjaa.Lx
open Go Go.Proofs Go.RowKit

section
variable {W w : World} {R : List HP} {p : Option Addr} {pa : Addr} {P : ring_Port} {ad : List (Option Addr)} {m : RM}
theorem vec_of_pts {a : Addr} {d : List Int} {h : PH} (hp : pts true a (d.flatMap (cI .u8).enc) h) : vec (cI .u8) ⟨some a, d.length, d.length⟩ d [] h := by
  have : pts true a ((d ++ []).flatMap (cI .u8).enc) h := by rw [List.append_nil]; exact hp
  exact vec_mk this
theorem pts_of_vec {a : Addr} {k c : Nat} {d : List Int} {h : PH} (hp : vec (cI .u8) ⟨some a, k, c⟩ d [] h) : pts true a (d.flatMap (cI .u8).enc) h := by
  have : pts true a ((d ++ []).flatMap (cI .u8).enc) h := hp.2.2
  rwa [List.append_nil] at this
theorem RM.Ok.arrive (ok : m.Ok) {xs : List Int} (hx : ∀ x ∈ xs, 0 ≤ x ∧ x ≤ 255) : (m.arrive xs).1.Ok := by
  unfold RM.arrive
  split
  · exact ok
  · split
    · exact ok
    · rename_i h1 h2
      split
      · exact ok
      · rename_i i t hL
        have hi := ok.lt (k := 2) (.inr (.inl rfl)) (by rw [hL]; simp : i ∈ m.L 2)
        have hd := getD_get (z := ([] : List Int)) (l := m.dat) (i := i) hi
        have hdd := ok.d _ (List.mem_of_getElem? hd)
        refine RM.Ok.move (m := (m.setd i (xs ++ (m.dat.getD i []).drop xs.length)).setl i xs.length) ?_ (k := 2) (k' := 3) (t := t) (.inr (.inl rfl)) hL (.inr (.inr (.inl rfl))) ?_ ?_
        · refine RM.Ok.setl (ok.setd ⟨?_, fun x hxx => ?_⟩) ⟨by omega, by show (xs.length : Int) ≤ m.size; omega⟩
          · rw [List.length_append, List.length_drop, hdd.1]
            omega
          · rcases List.mem_append.1 hxx with h | h
            · exact hx x h
            · exact hdd.2 x (List.mem_of_mem_drop h)
        · have := ok.rr
          simp [RM.out, RM.mv, RM.setd, RM.setl, hL] at *
          omega
        · have := ok.qq
          simpa [RM.out, RM.mv, RM.setd, RM.setl, hL] using this
theorem Arrive_wp {A : HP} {b : Sl} {xs : List Int} (s : Ss W (Port p m ad :: R) w) (j : Nat) (e : nth R j = some A) (r : Rdb A (cI .u8) b xs) (hx : ∀ x ∈ xs, 0 ≤ x ∧ x ≤ 255) :
    WP (ring_Port_Arrive p b) w (fun r w' => r = (m.arrive xs).2 ∧ ∃ ad', Ext ad ad' ∧ Ss W (Port p (m.arrive xs).1 ad' :: R) w') := by
  unfold ring_Port_Arrive
  obtain ⟨hl, _⟩ := s.rd_len (i := j + 1) e r
  obtain ⟨pa, P, rfl, po, ok, s⟩ := s.openR
  have okr := ok.arrive hx
  unfold RM.arrive at okr ⊢
  rw [hl]
  refine WP.ite (fun h => ?_) (fun h => WP.nilck ?_)
  · rw [if_pos (show xs.length > 65535 by omega)]
    exact WP.ret ⟨rfl, ad, Ext.refl ad, Ss.closeR s rfl po ok⟩
  rw [if_neg (show ¬ xs.length > 65535 by omega)] at okr ⊢
  refine WP.ld s 0 rfl (o := 0) (by simp [Addr.add]) (At_ring_Port_size _) ?_
  rw [po.size]
  refine WP.ite (fun h => ?_) (fun h => WP.nilck ?_)
  · rw [if_pos (show xs.length > m.size by omega)]
    exact WP.ret ⟨rfl, ad, Ext.refl ad, Ss.closeR s rfl po ok⟩
  rw [if_neg (show ¬ xs.length > m.size by omega)] at okr ⊢
  have np := n_posted s
  refine WP.ld s 0 rfl (o := 9 + 2) (by rw [add_add]) ((At_ring_Port_posted _).trans (At_ring_line_n _)) ?_
  rw [np.1]
  cases hL : m.L 2 with
  | nil =>
    simp only
    exact WP.ite (fun _ => WP.ret ⟨rfl, ad, Ext.refl ad, Ss.closeR s rfl po ok⟩) (fun h => absurd rfl h)
  | cons i t =>
    rw [hL] at okr
    simp only at okr ⊢
    refine WP.ite (fun h => by simp at h; omega) (fun _ => WP.nilck ?_)
    have hi := ok.lt (k := 2) (.inr (.inl rfl)) (by rw [hL]; simp : i ∈ m.L 2)
    have hd := getD_get (z := ([] : List Int)) (l := m.dat) (i := i) hi
    have hdd := ok.d _ (List.mem_of_getElem? hd)
    generalize m.dat.getD i [] = d at hd hdd okr ⊢
    have hs0 := ok.s0
    have hs1 := ok.s1
    refine WP.step (leave_posted s hL) ?_
    rintro _ w ⟨rfl, ln, s⟩
    refine WP.step (bytes_wp s ⟨po.size, po.rx, po.tx, po.ad⟩ (m := m.out 2) hd hdd.1 (by show 1 ≤ m.size; omega) hs1) ?_
    rintro _ w ⟨a, ad', rfl, ha, hext, po', s⟩
    have s1 := (buf_out s ha (m := m.out 2) hd).first (fun h hp => vec_of_pts hp)
    rw [hdd.1] at s1
    refine WP.cpy s1 0 rfl (j + 10) e r (by decide) (fun w s => WP.draw' s (fun w s => WP.nilck ?_))
    have hmin : min xs.length d.length = xs.length := by rw [hdd.1]; omega
    rw [hmin, List.take_length] at s
    have s := buf_back (m := m.out 2) (d' := xs ++ d.drop xs.length) ha hd (s.first (fun h hp => pts_of_vec hp))
    refine WP.ld s 0 rfl (o := 4) rfl (At_ring_Port_place _) (WP.nilck ?_)
    refine WP.ld s 0 rfl (o := 5) rfl (At_ring_Port_length _) ?_
    refine WP.stx s 2 rfl (by omega) (by show (i : Int) < m.place.length; rw [ok.pl]; omega) rfl (fun w s => ?_)
    refine WP.stx s 3 rfl (by omega) (by show (i : Int) < m.len.length; rw [ok.ll]; omega) rfl (fun w s => WP.nilck ?_)
    rw [Int.toNat_natCast] at s
    have s : Ss W (PortHs pa { P with posted := ln } ad' { (((m.out 2).setd i (xs ++ d.drop xs.length)).setl i xs.length) with place := m.place.set i 3 } ++ R) w := s
    refine WP.step (join_filled s i (by
      show ((m.out 2).L 3).length < m.rx
      have := ok.rr
      rw [hL] at this
      simp [RM.out] at *
      omega)) ?_
    rintro _ w ⟨ln2, s⟩
    refine WP.ret ⟨rfl, ad', hext, Ss.closeR (P := { { P with posted := ln } with filled := ln2 }) s rfl ⟨po.size, po.rx, po.tx, ?_⟩ okr⟩
    rw [po'.ad]
    unfold RM.n RM.out RM.mv RM.setl RM.setd
    simp
theorem Poll_wp (s : Ss W (Port p m ad :: R) w) : WP (ring_Port_Poll p) w (fun r w' => match m.L 3 with
    | [] => r = (0, Sl.nil, false) ∧ Ss W (Port p m ad :: R) w'
    | i :: _ => ∃ a ad', r = ((i : Int), ⟨some a, (m.len.getD i 0).toNat, (m.len.getD i 0).toNat⟩, true) ∧ ad'[i]? = some (some a) ∧ Ext ad ad' ∧ Ss W (Port p ((m.out 3).mv i 4) ad' :: R) w') := by
  unfold ring_Port_Poll
  obtain ⟨pa, P, rfl, po, ok, s⟩ := s.openR
  have np := n_filled s
  refine WP.nilck (WP.ld s 0 rfl (o := 12 + 2) (by rw [add_add]) ((At_ring_Port_filled _).trans (At_ring_line_n _)) ?_)
  rw [np.1]
  cases hL : m.L 3 with
  | nil =>
    simp only
    exact WP.ite (fun _ => WP.ret ⟨rfl, Ss.closeR s rfl po ok⟩) (fun h => absurd rfl h)
  | cons i t =>
    simp only
    refine WP.ite (fun h => by simp at h; omega) (fun _ => WP.nilck ?_)
    have hi := ok.lt (k := 3) (.inr (.inr (.inl rfl))) (by rw [hL]; simp : i ∈ m.L 3)
    have hd := getD_get (z := ([] : List Int)) (l := m.dat) (i := i) hi
    have hdd := ok.d _ (List.mem_of_getElem? hd)
    have hlen := getD_get (z := (0 : Int)) (l := m.len) (i := i) (by rw [ok.ll]; exact hi)
    have hlb := ok.l _ (List.mem_of_getElem? hlen)
    have hs0 := ok.s0
    have hs1 := ok.s1
    refine WP.step (leave_filled s hL) ?_
    rintro _ w ⟨rfl, ln, s⟩
    refine WP.nilck (WP.ld s 0 rfl (o := 4) rfl (At_ring_Port_place _) ?_)
    refine WP.stx s 2 rfl (by omega) (by show (i : Int) < m.place.length; rw [ok.pl]; omega) rfl (fun w s => WP.nilck ?_)
    rw [Int.toNat_natCast] at s
    refine WP.ld s 0 rfl (o := 5) rfl (At_ring_Port_length _) ?_
    refine WP.rdx s 3 rfl vec_rdb (by omega) (x := m.len.getD i 0) (by rw [Int.toNat_natCast]; exact hlen) rfl ?_
    have s : Ss W (PortHs pa { P with filled := ln } ad ((m.out 3).mv i 4) ++ R) w := by
      have e : ∀ j, ((m.out 3).mv i 4).L j = (m.out 3).L j := fun j => by simp [RM.mv]
      unfold PortHs
      rw [e, e, e, e]
      exact s
    refine WP.step (window_wp s (po := ⟨po.size, po.rx, po.tx, po.ad⟩) (m := (m.out 3).mv i 4) hd hdd.1 (by show 1 ≤ m.size; omega) hs1 hlb.1 hlb.2) ?_
    rintro _ w ⟨a, ad', rfl, ha, hext, po', s⟩
    exact WP.ret ⟨a, ad', rfl, ha, hext, Ss.closeR s rfl po' (ok.take (.inr (.inr (.inl rfl))) hL)⟩
theorem Take_wp (s : Ss W (Port p m ad :: R) w) : WP (ring_Port_Take p) w (fun r w' => match m.L 1 with
    | [] => r = (0, Sl.nil, 33) ∧ Ss W (Port p m ad :: R) w'
    | i :: _ => ∃ a ad', r = ((i : Int), ⟨some a, m.size, m.size⟩, 0) ∧ ad'[i]? = some (some a) ∧ Ext ad ad' ∧ Ss W (Port p (((m.out 1).mv i 4).setd i (List.replicate m.size 0)) ad' :: R) w') := by
  unfold ring_Port_Take
  obtain ⟨pa, P, rfl, po, ok, s⟩ := s.openR
  have np := n_free s
  refine WP.nilck (WP.ld s 0 rfl (o := 6 + 2) (by rw [add_add]) ((At_ring_Port_free _).trans (At_ring_line_n _)) ?_)
  rw [np.1]
  cases hL : m.L 1 with
  | nil =>
    simp only
    exact WP.ite (fun _ => WP.ret ⟨rfl, Ss.closeR s rfl po ok⟩) (fun h => absurd rfl h)
  | cons i t =>
    simp only
    refine WP.ite (fun h => by simp at h; omega) (fun _ => WP.nilck ?_)
    have hi := ok.lt (k := 1) (.inl rfl) (by rw [hL]; simp : i ∈ m.L 1)
    have hd := getD_get (z := ([] : List Int)) (l := m.dat) (i := i) hi
    have hdd := ok.d _ (List.mem_of_getElem? hd)
    generalize m.dat.getD i [] = d at hd hdd
    have hs0 := ok.s0
    have hs1 := ok.s1
    refine WP.step (leave_free s hL) ?_
    rintro _ w ⟨rfl, ln, s⟩
    refine WP.nilck (WP.ld s 0 rfl (o := 4) rfl (At_ring_Port_place _) ?_)
    refine WP.stx s 2 rfl (by omega) (by show (i : Int) < m.place.length; rw [ok.pl]; omega) rfl (fun w s => WP.nilck ?_)
    rw [Int.toNat_natCast] at s
    refine WP.ld s 0 rfl (o := 0) (by simp [Addr.add]) (At_ring_Port_size _) ?_
    have s : Ss W (PortHs pa { P with free := ln } ad ((m.out 1).mv i 4) ++ R) w := by
      have e : ∀ j, ((m.out 1).mv i 4).L j = (m.out 1).L j := fun j => by simp [RM.mv]
      unfold PortHs
      rw [e, e, e, e]
      exact s
    have hP : ({ P with free := ln } : ring_Port).size = m.size := po.size
    rw [hP]
    refine WP.step (window_wp s (po := ⟨po.size, po.rx, po.tx, po.ad⟩) (m := (m.out 1).mv i 4) hd hdd.1 (by show 1 ≤ m.size; omega) hs1 (by omega) (Int.le_refl _)) ?_
    rintro _ w ⟨a, ad', rfl, ha, hext, po', s⟩
    rw [Int.toNat_natCast]
    have s1 := buf_out s ha (m := (m.out 1).mv i 4) hd
    have hu : Upd (d.flatMap (cI .u8).enc) 0 ((List.replicate m.size (0 : Int)).flatMap (cI .u8).enc) ((List.replicate m.size (0 : Int)).flatMap (cI .u8).enc) := Upd.whole (by rw [flat_len, flat_len, List.length_replicate, hdd.1])
    refine WP.clr s1 0 rfl (sl := ⟨some a, m.size, m.size⟩) (by simp [Addr.add]) hu (fun w s => WP.ret ⟨a, ad', rfl, ha, hext, ?_⟩)
    have s := buf_back (m := (m.out 1).mv i 4) (d' := List.replicate m.size 0) ha hd s
    refine Ss.closeR s rfl ⟨po'.size, po'.rx, po'.tx, ?_⟩ ((ok.take (.inl rfl) hL).setd ⟨by rw [List.length_replicate]; rfl, fun x hx => by rw [List.eq_of_mem_replicate hx]; omega⟩)
    rw [po'.ad]
    unfold RM.n RM.setd
    simp
theorem Buffer_wp (s : Ss W (Port p m ad :: R) w) (i : Int) : WP (ring_Port_Buffer p i) w (fun r w' => r.2 = m.heldE i ∧ (m.heldE i ≠ 0 → r.1 = Sl.nil ∧ Ss W (Port p m ad :: R) w') ∧ (m.heldE i = 0 → ∃ a ad', r.1 = ⟨some a, m.size, m.size⟩ ∧ ad'[i.toNat]? = some (some a) ∧ Ext ad ad' ∧ Ss W (Port p m ad' :: R) w')) := by
  unfold ring_Port_Buffer
  obtain ⟨pa, P, rfl, po, ok, s⟩ := s.openR
  refine WP.step (held_wp s ok i) ?_
  rintro _ w ⟨rfl, s⟩
  refine WP.ite (fun h => WP.ret ⟨rfl, fun _ => ⟨rfl, Ss.closeR s rfl po ok⟩, fun h' => absurd h' h⟩) (fun h => WP.nilck ?_)
  rcases heldE_cases m i with e | e | ⟨e, e1, e2, e3⟩
  · exact absurd (by rw [e]; decide) h
  · exact absurd (by rw [e]; decide) h
  obtain ⟨i, rfl⟩ : ∃ n : Nat, i = n := ⟨i.toNat, by omega⟩
  have hd := getD_get (z := ([] : List Int)) (l := m.dat) (i := i) (by unfold RM.n at e2; omega)
  have hdd := ok.d _ (List.mem_of_getElem? hd)
  have hs0 := ok.s0
  have hs1 := ok.s1
  refine WP.ld s 0 rfl (o := 0) (by simp [Addr.add]) (At_ring_Port_size _) ?_
  rw [po.size]
  refine WP.step (window_wp s po hd hdd.1 (by omega) hs1 (by omega) (Int.le_refl _)) ?_
  rintro _ w ⟨a, ad', rfl, ha, hext, po', s⟩
  exact WP.ret ⟨e.symm, fun h' => absurd e h', fun _ => ⟨a, ad', rfl, ha, hext, Ss.closeR s rfl po' ok⟩⟩
theorem RM.Ok.drain (ok : m.Ok) {i : Nat} {t : List Nat} (hL : m.L 5 = i :: t) : ((m.out 5).mv i 1).Ok := by
  refine ok.move (.inr (.inr (.inr rfl))) hL (.inl rfl) ?_ ?_
  · have := ok.rr
    simpa [RM.out, RM.mv] using this
  · have := ok.qq
    rw [hL] at this
    simp [RM.out, RM.mv, hL] at *
    omega
theorem Drain_wp (s : Ss W (Port p m ad :: R) w) : WP (ring_Port_Drain p) w (fun r w' => match m.L 5 with
    | [] => r = (Sl.nil, false) ∧ Ss W (Port p m ad :: R) w'
    | i :: _ => ∃ ad', r.2 = true ∧ Ext ad ad' ∧ Ss W (vec (cI .u8) r.1 ((m.dat.getD i []).take (m.len.getD i 0).toNat) [] :: Port p ((m.out 5).mv i 1) ad' :: R) w') := by
  unfold ring_Port_Drain
  obtain ⟨pa, P, rfl, po, ok, s⟩ := s.openR
  have np := n_queued s
  refine WP.nilck (WP.ld s 0 rfl (o := 15 + 2) (by rw [add_add]) ((At_ring_Port_queued _).trans (At_ring_line_n _)) ?_)
  rw [np.1]
  cases hL : m.L 5 with
  | nil =>
    simp only
    exact WP.ite (fun _ => WP.ret ⟨rfl, Ss.closeR s rfl po ok⟩) (fun h => absurd rfl h)
  | cons i t =>
    simp only
    refine WP.ite (fun h => by simp at h; omega) (fun _ => WP.nilck ?_)
    have hi := ok.lt (k := 5) (.inr (.inr (.inr rfl))) (by rw [hL]; simp : i ∈ m.L 5)
    have hd := getD_get (z := ([] : List Int)) (l := m.dat) (i := i) hi
    have hdd := ok.d _ (List.mem_of_getElem? hd)
    have hlen := getD_get (z := (0 : Int)) (l := m.len) (i := i) (by rw [ok.ll]; exact hi)
    have hlb := ok.l _ (List.mem_of_getElem? hlen)
    generalize m.dat.getD i [] = d at hd hdd ⊢
    generalize m.len.getD i 0 = k at hlen hlb ⊢
    have hs0 := ok.s0
    have hs1 := ok.s1
    refine WP.step (leave_queued s hL) ?_
    rintro _ w ⟨rfl, ln, s⟩
    refine WP.nilck (WP.ld s 0 rfl (o := 5) rfl (At_ring_Port_length _) ?_)
    refine WP.rdx s 3 rfl vec_rdb (by omega) (x := k) (by rw [Int.toNat_natCast]; exact hlen) rfl ?_
    refine WP.mkS s hlb.1 (Int.le_refl _) (by omega) (by omega) (fun r w s _ => ?_)
    rw [Int.sub_self, show Int.toNat 0 = 0 from rfl, List.replicate_zero] at s
    have s : Ss W (PortHs pa { P with queued := ln } ad (m.out 5) ++ (vec (cI .u8) r (List.replicate k.toNat 0) [] :: R)) w := s.use [1, 1, 1, 1, 1, 1, 1, 1, 1] rfl
    refine WP.step (bytes_wp s ⟨po.size, po.rx, po.tx, po.ad⟩ (m := m.out 5) hd hdd.1 (by show 1 ≤ m.size; omega) hs1) ?_
    rintro _ w ⟨a, ad', rfl, ha, hext, po', s⟩
    have s1 := buf_out s ha (m := m.out 5) hd
    have hr : Rdb (pts true a (d.flatMap (cI .u8).enc)) (cI .u8) ⟨some a, m.size, m.size⟩ d := by
      have := pts_rdb (c := cI .u8) (q := true) (a := a) (k := m.size) (xs := d)
      rwa [hdd.1] at this
    refine WP.cpy s1 10 rfl 0 rfl hr (by decide) (fun w s => WP.nilck ?_)
    have hmin : min d.length (List.replicate k.toNat (0 : Int)).length = k.toNat := by rw [List.length_replicate, hdd.1]; omega
    rw [hmin, List.drop_eq_nil_of_le (by rw [List.length_replicate]; exact Nat.le_refl _), List.append_nil] at s
    have s : Ss W (pts true a (d.flatMap (cI .u8).enc) :: up (PortHs pa { P with queued := ln } ad' (m.out 5) ++ (vec (cI .u8) r (d.take k.toNat) [] :: R)) 8 (seps (wo (zipH bufH ad' (m.out 5).dat) i))) w := s
    have s := buf_back (m := m.out 5) (d' := d) ha hd s
    have ed : (m.out 5).setd i d = m.out 5 := by
      unfold RM.setd RM.out
      rw [set_eq hd]
    rw [ed] at s
    refine WP.ld s 0 rfl (o := 4) rfl (At_ring_Port_place _) ?_
    refine WP.stx s 2 rfl (by omega) (by show (i : Int) < m.place.length; rw [ok.pl]; omega) rfl (fun w s => WP.nilck ?_)
    rw [Int.toNat_natCast] at s
    have s : Ss W (PortHs pa { P with queued := ln } ad' { m.out 5 with place := m.place.set i 1 } ++ (vec (cI .u8) r (d.take k.toNat) [] :: R)) w := s
    refine WP.step (join_free s i (by
      show (m.L 1).length < m.n
      exact ok.room (k := 1) (.inl rfl) hi (ok.apart (k := 5) (k' := 1) (.inr (.inr (.inr rfl))) (.inl rfl) (by decide) (by rw [hL]; simp)))) ?_
    rintro _ w ⟨ln2, s⟩
    exact WP.ret ⟨ad', rfl, hext, (Ss.closeR (m := (m.out 5).mv i 1) (P := { { P with queued := ln } with free := ln2 }) s rfl ⟨po'.size, po'.rx, po'.tx, po'.ad⟩ (ok.drain hL)).use [1] rfl⟩
end
section
variable {W w : World} {R : List HP}
theorem list_replicate_set {α : Type} {n i : Nat} {x y : α} (h : i < n) : (List.replicate i y ++ List.replicate (n - i) x).set i y = List.replicate (i + 1) y ++ List.replicate (n - (i + 1)) x := by
  rw [List.set_append_right _ _ (by simp), List.length_replicate, Nat.sub_self, show n - i = (n - (i + 1)) + 1 by omega, List.replicate_succ, List.set_cons_zero, List.replicate_succ', List.append_assoc]
  rfl
theorem New_wp {rx tx pool size : Int} (s : Ss W R w) : WP (ring_New rx tx pool size) w (fun r w' => (newE rx tx pool size = true → r = (none, 1) ∧ Ss W R w') ∧ (newE rx tx pool size = false → ∃ pa, r = (some pa, 0) ∧ Ss W (Port (some pa) (newM rx.toNat tx.toNat pool.toNat size.toNat) (List.replicate pool.toNat none) :: R) w')) := by
  unfold ring_New
  have st : ∀ {a b c : Prop} [Decidable a] [Decidable b] {β : Type} {f : Bool → M β} {Q : β → World → Prop} {w : World} {y : Bool}, y = decide a → WP (f (decide (a ∨ b))) w Q → WP ((if y = true then pure true else pure (decide b) : M Bool) >>= f) w Q := by
    intro a b c _ _ β f Q w y hy h
    subst hy
    refine WP.step (R := fun z w' => z = decide (a ∨ b) ∧ w = w') (WP.ite (fun h => WP.ret ⟨by have := of_decide_eq_true h; simp [this], rfl⟩) (fun h => WP.ret ⟨by
      have h' : ¬ a := fun hx => h (decide_eq_true hx)
      simp [h'], rfl⟩)) ?_
    rintro _ _ ⟨rfl, rfl⟩
    exact h
  refine WP.step (R := fun z w' => z = decide (rx < 1 ∨ rx > 4096) ∧ w = w') (WP.ite (fun h => WP.ret ⟨by simp [h], rfl⟩) (fun h => WP.ret ⟨by simp [h], rfl⟩)) ?_
  rintro _ _ ⟨rfl, rfl⟩
  refine st (c := True) rfl (st (c := True) rfl (st (c := True) rfl (st (c := True) rfl (st (c := True) rfl (st (c := True) rfl ?_)))))
  have hE : newE rx tx pool size = decide ((((((((rx < 1 ∨ rx > 4096) ∨ tx < 1) ∨ tx > 4096) ∨ pool < 1) ∨ pool > 8192) ∨ size < 64) ∨ size > 65535)) := by
    unfold newE
    congr 1
    simp only [or_assoc]
  rw [← hE]
  refine WP.ite (fun h => WP.ret ⟨fun _ => ⟨rfl, s⟩, fun h' => by rw [h] at h'; cases h'⟩) (fun h => ?_)
  have hF : newE rx tx pool size = false := by simpa using h
  have ok := newM_ok (rx := rx.toNat) (tx := tx.toNat) (pool := pool.toNat) (size := size.toNat) (by
    unfold newE at hF ⊢
    rw [decide_eq_false_iff_not] at hF ⊢
    omega)
  have hb : ¬ (rx < 1 ∨ rx > 4096 ∨ tx < 1 ∨ tx > 4096 ∨ pool < 1 ∨ pool > 8192 ∨ size < 64 ∨ size > 65535) := by
    unfold newE at hF
    rwa [decide_eq_false_iff_not] at hF
  rw [hF]
  obtain ⟨rx, rfl⟩ : ∃ n : Nat, rx = n := ⟨rx.toNat, by omega⟩
  obtain ⟨tx, rfl⟩ : ∃ n : Nat, tx = n := ⟨tx.toNat, by omega⟩
  obtain ⟨pool, rfl⟩ : ∃ n : Nat, pool = n := ⟨pool.toNat, by omega⟩
  obtain ⟨size, rfl⟩ : ∃ n : Nat, size = n := ⟨size.toNat, by omega⟩
  simp only [Int.toNat_natCast] at ok ⊢
  clear h hE hF st
  -- behind the three rows, in whatever order
  have rest : ∀ (b : Nat) (r1 r2 r3 : Sl) (w : World), Ss W (pts true (pt b 0) (c_ring_Port.enc ⟨size, rx, tx, r1, r2, r3, z_ring_Port.free, z_ring_Port.posted, z_ring_Port.filled, z_ring_Port.queued⟩) :: vec cL r1 (List.replicate pool Sl.nil) [] :: vec (cI .i64) r2 (List.replicate pool 0) [] :: vec (cI .i64) r3 (List.replicate pool 0) [] :: R) w →
      WP (ring_New.K1 rx tx pool (pt b 0)) w (fun r w' => (false = true → r = (none, 1) ∧ Ss W R w') ∧ (True → ∃ pa, r = (some pa, 0) ∧ Ss W (Port (some pa) (newM rx tx pool size) (List.replicate pool none) :: R) w')) := by
    intro b r1 r2 r3 w s
    unfold ring_New.K1
    refine WP.step (newLine_wp s (by omega) (by omega)) ?_
    intro l1 w s
    refine WP.step (newLine_wp s (by omega) (by omega)) ?_
    intro l2 w s
    refine WP.step (newLine_wp s (by omega) (by omega)) ?_
    intro l3 w s
    refine WP.step (newLine_wp s (by omega) (by omega)) ?_
    intro l4 w s
    refine WP.st s 4 rfl (o := 6) rfl (Up_ring_Port_free _ _) (fun w s => ?_)
    refine WP.st s 4 rfl (o := 9) rfl (Up_ring_Port_posted _ _) (fun w s => ?_)
    refine WP.st s 4 rfl (o := 12) rfl (Up_ring_Port_filled _ _) (fun w s => ?_)
    refine WP.st s 4 rfl (o := 15) rfl (Up_ring_Port_queued _ _) (fun w s => ?_)
    have hz : ∀ n : Nat, seps (zipH bufH (List.replicate n none) (List.replicate n (List.replicate size 0))) PH.nil := by
      intro n
      induction n with
      | zero => trivial
      | succ n ih =>
        exact ⟨PH.nil, PH.nil, fun _ _ _ _ h => (by cases h), fun _ _ _ h => h, fun _ _ _ h => h, fun x hx => List.eq_of_mem_replicate hx, ih⟩
    have s := (s.mk0 (A := seps (zipH bufH (List.replicate pool none) (List.replicate pool (List.replicate size 0)))) (hz pool)).use [5, 5, 5, 5, 4, 3, 2, 1, 0] rfl
    -- the state after k buffers
    let mk : Nat → RM := fun k => { newM rx tx pool size with place := List.replicate k 1 ++ List.replicate (pool - k) 0, L := fun j => if j = 1 then List.range k else [] }
    let P0 : ring_line → ring_Port := fun l => ⟨size, rx, tx, r1, r2, r3, l, l2, l3, l4⟩
    have hmn : ∀ k, (mk k).n = pool := fun k => by show (List.replicate pool _).length = pool; simp
    have s0 : Ss W (PortHs (pt b 0) (P0 l1) (List.replicate pool none) (mk 0) ++ R) w := by
      unfold PortHs
      rw [hmn, List.map_replicate]
      exact s
    refine WP.loop (fun (k : Int) w' => 0 ≤ k ∧ k ≤ pool ∧ ∃ l, Ss W (PortHs (pt b 0) (P0 l) (List.replicate pool none) (mk k.toNat) ++ R) w') (fun k _ => ((pool : Int) - k).toNat) ⟨by omega, by omega, l1, s0⟩ ?_
    clear s s0
    rintro k w ⟨k0, k1, l, s⟩
    unfold ring_New.L1
    refine WP.ite (fun hk => ?_) (fun hk => WP.done ⟨(fun h => by cases h), fun _ => ⟨pt b 0, rfl, ?_⟩⟩)
    · obtain ⟨k, rfl⟩ : ∃ n : Nat, k = n := ⟨k.toNat, by omega⟩
      simp only [Int.toNat_natCast] at s ⊢
      refine WP.ld s 0 rfl (o := 4) rfl (At_ring_Port_place _) ?_
      refine WP.stx s 2 rfl k0 (by show (k : Int) < (List.replicate k (1 : Int) ++ List.replicate (pool - k) 0).length; simp; omega) rfl (fun w s => ?_)
      rw [Int.toNat_natCast] at s
      have s : Ss W (PortHs (pt b 0) (P0 l) (List.replicate pool none) { mk k with place := (List.replicate k (1 : Int) ++ List.replicate (pool - k) 0).set k 1 } ++ R) w := s
      refine WP.step (join_free s k (by show (List.range k).length < (List.replicate pool (List.replicate size (0 : Int))).length; simp; omega)) ?_
      rintro _ w ⟨ln, s⟩
      refine WP.next ?_
      rw [wrap_i64 (by omega) (by omega)]
      refine ⟨⟨by omega, by omega, ln, ?_⟩, by omega⟩
      rw [list_replicate_set (by omega)] at s
      have e : (((k : Int) + 1).toNat) = k + 1 := by omega
      rw [e]
      have el : (fun j => if j = 1 ∧ 1 ≠ 4 then (if j = 1 then List.range k else []) ++ [k] else (if j = 1 then List.range k else [])) = fun j => if j = 1 then List.range (k + 1) else [] := by
        funext j
        by_cases ej : j = 1
        · simp [ej, List.range_succ]
        · simp [ej]
      have s : Ss W (PortHs (pt b 0) (P0 ln) (List.replicate pool none) { newM rx tx pool size with place := List.replicate (k + 1) 1 ++ List.replicate (pool - (k + 1)) 0, L := (fun j => if j = 1 ∧ 1 ≠ 4 then (if j = 1 then List.range k else []) ++ [k] else (if j = 1 then List.range k else [])) } ++ R) w := s
      rw [el] at s
      exact s
    · have hkn : k.toNat = pool := by omega
      rw [hkn] at s
      have e : mk pool = newM rx tx pool size := by
        show ({ newM rx tx pool size with place := List.replicate pool 1 ++ List.replicate (pool - pool) 0, L := _ } : RM) = _
        rw [Nat.sub_self, List.replicate_zero, List.append_nil]
        rfl
      rw [e] at s
      exact Ss.closeR s rfl ⟨rfl, rfl, rfl, by rw [List.length_replicate]; show pool = (List.replicate pool _).length; simp⟩ ok
  have mk1 : ∀ {R : List HP} {w : World} {β : Type} {f : Sl → M β} {Q : β → World → Prop}, Ss W R w → (∀ r w', Ss W (vec (cI .i64) r (List.replicate pool 0) [] :: R) w' → WP (f r) w' Q) → WP (mkS (cI .i64) 3 8 0 (pool : Int) (pool : Int) >>= f) w Q := by
    intro R w β f Q s g
    refine WP.mkS s (by omega) (Int.le_refl _) (by omega) (by omega) (fun r w s _ => g r w ?_)
    rwa [Int.sub_self, Int.toNat_natCast, show Int.toNat 0 = 0 from rfl, List.replicate_zero] at s
  have mk2 : ∀ {R : List HP} {w : World} {β : Type} {f : Sl → M β} {Q : β → World → Prop}, Ss W R w → (∀ r w', Ss W (vec cL r (List.replicate pool Sl.nil) [] :: R) w' → WP (f r) w' Q) → WP (mkS cL 22 24 Sl.nil (pool : Int) (pool : Int) >>= f) w Q := by
    intro R w β f Q s g
    refine WP.mkS s (by omega) (Int.le_refl _) (by omega) (by omega) (fun r w s _ => g r w ?_)
    rwa [Int.sub_self, Int.toNat_natCast, show Int.toNat 0 = 0 from rfl, List.replicate_zero] at s
  refine WP.draws s (fun σ w s => ?_)
  refine WP.ite (fun _ => WP.ite (fun _ => WP.ite (fun _ => ?_) (fun _ => ?_)) (fun _ => ?_)) (fun _ => WP.ite (fun _ => WP.ite (fun _ => ?_) (fun _ => ?_)) (fun _ => ?_))
  · exact mk2 s (fun r1 w s => mk1 s (fun r2 w s => mk1 s (fun r3 w s => WP.newv s (fun b w s => rest b _ _ _ w (s.use [0, 2, 1] rfl)))))
  · exact mk2 s (fun r1 w s => mk1 s (fun r2 w s => mk1 s (fun r3 w s => WP.newv s (fun b w s => rest b _ _ _ w (s.use [0, 2, 0] rfl)))))
  · exact mk1 s (fun r1 w s => mk2 s (fun r2 w s => mk1 s (fun r3 w s => WP.newv s (fun b w s => rest b _ _ _ w (s.use [0, 1, 0] rfl)))))
  · exact mk1 s (fun r1 w s => mk2 s (fun r2 w s => mk1 s (fun r3 w s => WP.newv s (fun b w s => rest b _ _ _ w (s.use [0, 1, 1] rfl)))))
  · exact mk1 s (fun r1 w s => mk1 s (fun r2 w s => mk2 s (fun r3 w s => WP.newv s (fun b w s => rest b _ _ _ w (s.use [0, 0, 1] rfl)))))
  · exact mk1 s (fun r1 w s => mk1 s (fun r2 w s => mk2 s (fun r3 w s => WP.newv s (fun b w s => rest b _ _ _ w (s.use [0, 0, 0] rfl)))))
end
end Go.Proofs.Ytoddkagehbcfjaa.Lx
