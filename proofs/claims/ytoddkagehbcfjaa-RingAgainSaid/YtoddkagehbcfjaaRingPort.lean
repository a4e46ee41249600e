/- Package ring's ports, of their programs in the M-world: a port in memory, its lines, its buffers. -/
import Derived.Test.YtoddkagehbcfjaaRingModel
set_option linter.unusedVariables false
set_option linter.unusedSimpArgs false
namespace Go.Proofs.Ytoddkagehbcfjaa.Lx
open Go Go.Proofs Go.RowKit

def slot_ (size : Nat) : Option Addr → Sl
  | some a => ⟨some a, size, size⟩
  | none => Sl.nil
/-- a buffer's bytes, where they have been made -/
def bufH : Option Addr → List Int → HP
  | some a, d => pts true a (d.flatMap (cI .u8).enc)
  | none, d => fact (∀ x ∈ d, x = 0)
def PortHs (pa : Addr) (P : ring_Port) (ad : List (Option Addr)) (m : RM) : List HP :=
  [pts true pa (c_ring_Port.enc P), vec cL P.pool (ad.map (slot_ m.size)) [], vec (cI .i64) P.place m.place [], vec (cI .i64) P.length m.len [],
    LineH P.free m.n (m.L 1), LineH P.posted m.rx (m.L 2), LineH P.filled m.rx (m.L 3), LineH P.queued m.tx (m.L 5), seps (zipH bufH ad m.dat)]
structure PortOk (P : ring_Port) (ad : List (Option Addr)) (m : RM) : Prop where
  size : P.size = m.size
  rx : P.rx = m.rx
  tx : P.tx = m.tx
  ad : ad.length = m.n
/-- a port in memory; ad: where its buffers lie -/
def Port (p : Option Addr) (m : RM) (ad : List (Option Addr)) : HP := fun h => ∃ pa P, p = some pa ∧ PortOk P ad m ∧ m.Ok ∧ seps (PortHs pa P ad m) h
/-- what was made stays where it is -/
def Ext (ad ad' : List (Option Addr)) : Prop := ∀ (i : Nat) (a : Addr), ad[i]? = some (some a) → ad'[i]? = some (some a)
theorem Ext.refl (ad : List (Option Addr)) : Ext ad ad := fun _ _ h => h
theorem Ext.trans {a b c : List (Option Addr)} (h : Ext a b) (k : Ext b c) : Ext a c := fun i x hx => k i x (h i x hx)
section
variable {W w : World} {R : List HP} {p : Option Addr} {pa : Addr} {P : ring_Port} {ad : List (Option Addr)} {m : RM}
theorem Ss.openR (s : Ss W (Port p m ad :: R) w) : ∃ pa P, p = some pa ∧ PortOk P ad m ∧ m.Ok ∧ Ss W (PortHs pa P ad m ++ R) w := by
  obtain ⟨hb, k, ⟨h1, h2, e, l1, l2, ⟨pa, P, a1, a2, a3, a4⟩, b⟩, hw⟩ := s
  exact ⟨pa, P, a1, a2, a3, Ss.split ⟨hb, k, ⟨h1, h2, e, l1, l2, a4, b⟩, hw⟩⟩
theorem Ss.closeR (s : Ss W (PortHs pa P ad m ++ R) w) (hp : p = some pa) (po : PortOk P ad m) (ok : m.Ok) : Ss W (Port p m ad :: R) w := s.group.first (fun h hh => ⟨pa, P, hp, po, ok, hh⟩)
theorem Ss.okR (s : Ss W (Port p m ad :: R) w) : m.Ok := by
  obtain ⟨_, _, _, _, h, _⟩ := s.openR
  exact h
/-! ### lines -/
theorem leave_free (s : Ss W (PortHs pa P ad m ++ R) w) {x : Nat} {t : List Nat} (hL : m.L 1 = x :: t) : WP (ring_line_leave (some (pa.add 6))) w (fun r w' => r = (x : Int) ∧ ∃ ln', Ss W (PortHs pa { P with free := ln' } ad (m.out 1) ++ R) w') := by
  have s2 := s.use [0, 3] rfl
  rw [hL] at s2
  refine (leave_wp s2 (At_ring_Port_free P)).mono ?_
  rintro r w' ⟨rfl, ln', L', u, s⟩
  rw [u.uniq (Up_ring_Port_free P ln')] at s
  refine ⟨rfl, ln', ?_⟩
  have s3 := s.use [0, 1, 1, 1, 0] rfl
  unfold RM.out
  rw [hL]
  simpa [PortHs, RM.n, wo] using s3
theorem join_free (s : Ss W (PortHs pa P ad m ++ R) w) (x : Nat) (hr : (m.L 1).length < m.n) : WP (ring_line_join (some (pa.add 6)) (x : Int)) w (fun _ w' => ∃ ln', Ss W (PortHs pa { P with free := ln' } ad { m with L := fun j => if j = 1 ∧ 1 ≠ 4 then m.L j ++ [x] else m.L j } ++ R) w') := by
  have s2 := s.use [0, 3] rfl
  refine (join_wp x s2 (At_ring_Port_free P) hr).mono ?_
  rintro _ w' ⟨ln', L', u, s⟩
  rw [u.uniq (Up_ring_Port_free P ln')] at s
  have s3 := s.use [0, 1, 1, 1, 0] rfl
  refine ⟨ln', ?_⟩
  simpa [PortHs, RM.n, wo] using s3
theorem n_free (s : Ss W (PortHs pa P ad m ++ R) w) : P.free.n = (m.L 1).length ∧ (m.L 1).length ≤ m.n := by
  obtain ⟨h, hh⟩ := s.has (i := 4) rfl
  exact ⟨(LineH.n hh).1, (LineH.n hh).2.1⟩
theorem leave_posted (s : Ss W (PortHs pa P ad m ++ R) w) {x : Nat} {t : List Nat} (hL : m.L 2 = x :: t) : WP (ring_line_leave (some (pa.add 9))) w (fun r w' => r = (x : Int) ∧ ∃ ln', Ss W (PortHs pa { P with posted := ln' } ad (m.out 2) ++ R) w') := by
  have s2 := s.use [0, 4] rfl
  rw [hL] at s2
  refine (leave_wp s2 (At_ring_Port_posted P)).mono ?_
  rintro r w' ⟨rfl, ln', L', u, s⟩
  rw [u.uniq (Up_ring_Port_posted P ln')] at s
  refine ⟨rfl, ln', ?_⟩
  have s3 := s.use [0, 1, 1, 1, 1, 0] rfl
  unfold RM.out
  rw [hL]
  simpa [PortHs, RM.n, wo] using s3
theorem join_posted (s : Ss W (PortHs pa P ad m ++ R) w) (x : Nat) (hr : (m.L 2).length < m.rx) : WP (ring_line_join (some (pa.add 9)) (x : Int)) w (fun _ w' => ∃ ln', Ss W (PortHs pa { P with posted := ln' } ad { m with L := fun j => if j = 2 ∧ 2 ≠ 4 then m.L j ++ [x] else m.L j } ++ R) w') := by
  have s2 := s.use [0, 4] rfl
  refine (join_wp x s2 (At_ring_Port_posted P) hr).mono ?_
  rintro _ w' ⟨ln', L', u, s⟩
  rw [u.uniq (Up_ring_Port_posted P ln')] at s
  have s3 := s.use [0, 1, 1, 1, 1, 0] rfl
  refine ⟨ln', ?_⟩
  simpa [PortHs, RM.n, wo] using s3
theorem n_posted (s : Ss W (PortHs pa P ad m ++ R) w) : P.posted.n = (m.L 2).length ∧ (m.L 2).length ≤ m.rx := by
  obtain ⟨h, hh⟩ := s.has (i := 5) rfl
  exact ⟨(LineH.n hh).1, (LineH.n hh).2.1⟩
theorem leave_filled (s : Ss W (PortHs pa P ad m ++ R) w) {x : Nat} {t : List Nat} (hL : m.L 3 = x :: t) : WP (ring_line_leave (some (pa.add 12))) w (fun r w' => r = (x : Int) ∧ ∃ ln', Ss W (PortHs pa { P with filled := ln' } ad (m.out 3) ++ R) w') := by
  have s2 := s.use [0, 5] rfl
  rw [hL] at s2
  refine (leave_wp s2 (At_ring_Port_filled P)).mono ?_
  rintro r w' ⟨rfl, ln', L', u, s⟩
  rw [u.uniq (Up_ring_Port_filled P ln')] at s
  refine ⟨rfl, ln', ?_⟩
  have s3 := s.use [0, 1, 1, 1, 1, 1, 0] rfl
  unfold RM.out
  rw [hL]
  simpa [PortHs, RM.n, wo] using s3
theorem join_filled (s : Ss W (PortHs pa P ad m ++ R) w) (x : Nat) (hr : (m.L 3).length < m.rx) : WP (ring_line_join (some (pa.add 12)) (x : Int)) w (fun _ w' => ∃ ln', Ss W (PortHs pa { P with filled := ln' } ad { m with L := fun j => if j = 3 ∧ 3 ≠ 4 then m.L j ++ [x] else m.L j } ++ R) w') := by
  have s2 := s.use [0, 5] rfl
  refine (join_wp x s2 (At_ring_Port_filled P) hr).mono ?_
  rintro _ w' ⟨ln', L', u, s⟩
  rw [u.uniq (Up_ring_Port_filled P ln')] at s
  have s3 := s.use [0, 1, 1, 1, 1, 1, 0] rfl
  refine ⟨ln', ?_⟩
  simpa [PortHs, RM.n, wo] using s3
theorem n_filled (s : Ss W (PortHs pa P ad m ++ R) w) : P.filled.n = (m.L 3).length ∧ (m.L 3).length ≤ m.rx := by
  obtain ⟨h, hh⟩ := s.has (i := 6) rfl
  exact ⟨(LineH.n hh).1, (LineH.n hh).2.1⟩
theorem leave_queued (s : Ss W (PortHs pa P ad m ++ R) w) {x : Nat} {t : List Nat} (hL : m.L 5 = x :: t) : WP (ring_line_leave (some (pa.add 15))) w (fun r w' => r = (x : Int) ∧ ∃ ln', Ss W (PortHs pa { P with queued := ln' } ad (m.out 5) ++ R) w') := by
  have s2 := s.use [0, 6] rfl
  rw [hL] at s2
  refine (leave_wp s2 (At_ring_Port_queued P)).mono ?_
  rintro r w' ⟨rfl, ln', L', u, s⟩
  rw [u.uniq (Up_ring_Port_queued P ln')] at s
  refine ⟨rfl, ln', ?_⟩
  have s3 := s.use [0, 1, 1, 1, 1, 1, 1, 0] rfl
  unfold RM.out
  rw [hL]
  simpa [PortHs, RM.n, wo] using s3
theorem join_queued (s : Ss W (PortHs pa P ad m ++ R) w) (x : Nat) (hr : (m.L 5).length < m.tx) : WP (ring_line_join (some (pa.add 15)) (x : Int)) w (fun _ w' => ∃ ln', Ss W (PortHs pa { P with queued := ln' } ad { m with L := fun j => if j = 5 ∧ 5 ≠ 4 then m.L j ++ [x] else m.L j } ++ R) w') := by
  have s2 := s.use [0, 6] rfl
  refine (join_wp x s2 (At_ring_Port_queued P) hr).mono ?_
  rintro _ w' ⟨ln', L', u, s⟩
  rw [u.uniq (Up_ring_Port_queued P ln')] at s
  have s3 := s.use [0, 1, 1, 1, 1, 1, 1, 0] rfl
  refine ⟨ln', ?_⟩
  simpa [PortHs, RM.n, wo] using s3
theorem n_queued (s : Ss W (PortHs pa P ad m ++ R) w) : P.queued.n = (m.L 5).length ∧ (m.L 5).length ≤ m.tx := by
  obtain ⟨h, hh⟩ := s.has (i := 7) rfl
  exact ⟨(LineH.n hh).1, (LineH.n hh).2.1⟩
/-! ### buffers -/
theorem slot_get {i : Nat} {o : Option Addr} (h : ad[i]? = some o) : (ad.map (slot_ m.size))[i]? = some (slot_ m.size o) := by rw [List.getElem?_map, h]; rfl
theorem bytes_wp (s : Ss W (PortHs pa P ad m ++ R) w) (po : PortOk P ad m) {i : Nat} {d : List Int} (hd : m.dat[i]? = some d) (hl : d.length = m.size) (h0 : 1 ≤ m.size) (h1 : m.size ≤ 65535) :
    WP (ring_Port_bytes (some pa) (i : Int)) w (fun r w' => ∃ a ad', r = ⟨some a, m.size, m.size⟩ ∧ ad'[i]? = some (some a) ∧ Ext ad ad' ∧ PortOk P ad' m ∧ Ss W (PortHs pa P ad' m ++ R) w') := by
  unfold ring_Port_bytes
  have hi := (List.getElem?_eq_some_iff.1 hd).1
  have i0 : (0 : Int) ≤ (i : Int) := by omega
  obtain ⟨o, ho⟩ := get_of (m := m.dat) po.ad hd
  have hsl : (ad.map (slot_ m.size))[(i : Int).toNat]? = some (slot_ m.size o) := by rw [Int.toNat_natCast]; exact slot_get ho
  have hk1 : ∀ (a : Addr) (ad' : List (Option Addr)) (w : World), ad'[i]? = some (some a) → Ss W (PortHs pa P ad' m ++ R) w → WP (ring_Port_bytes.K1 (some pa) (i : Int)) w (fun r w' => r = ⟨some a, m.size, m.size⟩ ∧ Ss W (PortHs pa P ad' m ++ R) w') := by
    intro a ad' w ha s
    unfold ring_Port_bytes.K1
    refine WP.nilck (WP.ld s 0 rfl (o := 3) rfl (At_ring_Port_pool _) ?_)
    exact WP.rdx s 1 rfl vec_rdb i0 (x := slot_ m.size (some a)) (by rw [Int.toNat_natCast]; exact slot_get (m := m) ha) rfl (WP.ret ⟨rfl, s⟩)
  refine WP.nilck (WP.ld s 0 rfl (o := 3) rfl (At_ring_Port_pool _) ?_)
  refine WP.rdx s 1 rfl vec_rdb i0 hsl rfl ?_
  cases o with
  | some a =>
    refine WP.ite (fun h => by cases h) (fun _ => (hk1 a ad w ho s).mono ?_)
    rintro r w' ⟨rfl, s⟩
    exact ⟨a, ad, rfl, ho, Ext.refl ad, po, s⟩
  | none =>
    refine WP.ite (fun _ => WP.draw' s (fun w s => WP.nilck ?_)) (fun h => absurd rfl h)
    refine WP.ld s 0 rfl (o := 3) rfl (At_ring_Port_pool _) (WP.nilck ?_)
    refine WP.ld s 0 rfl (o := 0) (by simp [Addr.add]) (At_ring_Port_size _) ?_
    rw [po.size]
    refine WP.mkS s (by omega) (Int.le_refl _) (by omega) (by omega) (fun r w s hr => ?_)
    rw [Int.sub_self, Int.toNat_natCast] at s
    refine WP.same s 1 rfl (o := 3) rfl (At_ring_Port_pool _) ?_
    refine WP.stx s 2 rfl i0 (by rw [List.length_map, po.ad]; unfold RM.n; omega) rfl (fun w s => ?_)
    rw [Int.toNat_natCast] at s
    -- the new bytes join the buffers
    obtain ⟨e1, e2, _⟩ := s.vec_len (i := 0) rfl
    obtain ⟨b, eb⟩ : ∃ b, r.a = some b := Option.isSome_iff_exists.1 hr
    have er : r = ⟨some b, m.size, m.size⟩ := by
      obtain ⟨ra, rl, rc⟩ := r
      simp only at e1 e2 eb
      subst eb
      rw [List.length_replicate] at e1 e2
      rw [e1, e2]
      rfl
    rw [er] at s
    have s2 := s.out 9 rfl (zipH_nth (P := bufH) ho hd)
    obtain ⟨hz, s3⟩ := s2.fact
    have hdz : d = List.replicate m.size 0 := List.eq_replicate_iff.2 ⟨hl, hz⟩
    have s4 := s3.close (i := 0) (B := bufH (some b) d) rfl (fun h hv => by
      have h3 : pts true b ((List.replicate m.size (0 : Int) ++ []).flatMap (cI .u8).enc) h := hv.2.2
      rw [List.append_nil, ← hdz] at h3
      exact h3)
    have s5 := s4.back 8 rfl (zipH_nth (P := bufH) ho hd)
    have hil : i < ad.length := by rw [po.ad]; exact hi
    rw [zipH_up hil hi, set_eq hd] at s5
    have emap : (ad.map (slot_ m.size)).set i ⟨some b, m.size, m.size⟩ = (ad.set i (some b)).map (slot_ m.size) := by rw [List.map_set]; rfl
    have s6 : Ss W (PortHs pa P (ad.set i (some b)) m ++ R) w := by
      unfold PortHs
      rw [← emap]
      exact s5
    refine (hk1 b (ad.set i (some b)) w (List.getElem?_set_self hil) s6).mono ?_
    rintro r w' ⟨rfl, s⟩
    refine ⟨b, _, rfl, List.getElem?_set_self hil, fun j x hj => ?_, ⟨po.size, po.rx, po.tx, by rw [List.length_set]; exact po.ad⟩, s⟩
    have : j ≠ i := fun e => by rw [e, ho] at hj; cases hj
    rw [List.getElem?_set_ne (fun h => this h.symm)]
    exact hj
theorem window_wp (s : Ss W (PortHs pa P ad m ++ R) w) (po : PortOk P ad m) {i : Nat} {d : List Int} (hd : m.dat[i]? = some d) (hl : d.length = m.size) (h0 : 1 ≤ m.size) (h1 : m.size ≤ 65535) {k : Int} (k0 : 0 ≤ k) (k1 : k ≤ m.size) :
    WP (ring_Port_window (some pa) (i : Int) k) w (fun r w' => ∃ a ad', r = ⟨some a, k.toNat, k.toNat⟩ ∧ ad'[i]? = some (some a) ∧ Ext ad ad' ∧ PortOk P ad' m ∧ Ss W (PortHs pa P ad' m ++ R) w') := by
  unfold ring_Port_window
  refine WP.step (bytes_wp s po hd hl h0 h1) ?_
  rintro _ w ⟨a, ad', rfl, ha, hx, po', s⟩
  exact WP.cutpre3 k0 (Int.le_refl _) k1 (WP.ret ⟨a, ad', rfl, ha, hx, po', s⟩)
/-- a buffer's bytes as a row of their own, and back -/
theorem buf_out (s : Ss W (PortHs pa P ad m ++ R) w) {i : Nat} {a : Addr} {d : List Int} (ha : ad[i]? = some (some a)) (hd : m.dat[i]? = some d) : Ss W (pts true a (d.flatMap (cI .u8).enc) :: up (PortHs pa P ad m ++ R) 8 (seps (wo (zipH bufH ad m.dat) i))) w := s.out 8 rfl (zipH_nth (P := bufH) ha hd)
theorem buf_back {i : Nat} {a : Addr} {d d' : List Int} (ha : ad[i]? = some (some a)) (hd : m.dat[i]? = some d) (s : Ss W (pts true a (d'.flatMap (cI .u8).enc) :: up (PortHs pa P ad m ++ R) 8 (seps (wo (zipH bufH ad m.dat) i))) w) : Ss W (PortHs pa P ad (m.setd i d') ++ R) w := by
  have s1 := Ss.back (B := bufH (some a) d') s 8 rfl (zipH_nth (P := bufH) ha hd)
  rw [zipH_up (List.getElem?_eq_some_iff.1 ha).1 (List.getElem?_eq_some_iff.1 hd).1, set_eq ha] at s1
  have hn : (m.setd i d').n = m.n := by unfold RM.setd RM.n; simp
  unfold PortHs
  rw [hn]
  exact s1
/-- a window reads its buffer -/
theorem Port.rdb {i : Nat} {a : Addr} {d : List Int} {k c : Nat} (ha : ad[i]? = some (some a)) (hd : m.dat[i]? = some d) (hk : k ≤ d.length) : Rdb (Port p m ad) (cI .u8) ⟨some a, k, c⟩ (d.take k) := by
  rintro h ⟨pa, P, _, _, _, hs⟩
  obtain ⟨h1, a1, l1⟩ := seps_nth hs (i := 8) rfl
  obtain ⟨h2, a2, l2⟩ := seps_nth a1 (zipH_nth (P := bufH) ha hd)
  obtain ⟨r1, r2, r3⟩ := pts_rdb' (c := cI .u8) (q := true) (a := a) (n := c) hk h2 a2
  refine ⟨r1, r2, fun j x a' hx ha' => ?_⟩
  obtain ⟨sp, hp⟩ := r3 j x a' hx ha'
  exact ⟨sp, fun y v hv => by
    obtain ⟨q, hq⟩ := hp y v hv
    exact ⟨q, l1 _ _ _ (l2 _ _ _ hq)⟩⟩
theorem PortOk.of {m' : RM} (po : PortOk P ad m) (h1 : m'.size = m.size) (h2 : m'.rx = m.rx) (h3 : m'.tx = m.tx) (h4 : m'.n = m.n) : PortOk P ad m' := ⟨by rw [h1]; exact po.size, by rw [h2]; exact po.rx, by rw [h3]; exact po.tx, by rw [h4]; exact po.ad⟩
end
end Go.Proofs.Ytoddkagehbcfjaa.Lx
