/- The law RingWindows, of its program in the M-world: windows of one buffer are joined, an append writes into none, what Drain told is the caller's own: it answers true, and nothing that was there is turned. -/
import Derived.Test.YtoddkagehbcfjaaRingRows
import Derived.Test.YtoddkagehbcfjaaLxQ
set_option linter.unusedVariables false
set_option linter.unusedSimpArgs false
namespace Go.Proofs.Ytoddkagehbcfjaa.Lx
open Go Go.Proofs Go.RowKit

theorem wide_wp {W w : World} {Hs : List HP} {A : HP} {a : Sl} {xs : List Int} (s : Ss W Hs w) (i : Nat) (e : nth Hs i = some A) (r : Rdb A (cI .u8) a xs) (hb : xs.length ≤ 100000000000000) : WP (weirlaw3_wide a) w (fun r w' => ∃ sp, Ss W (vec (cI .u8) r (xs ++ [91, 92, 93]) sp :: Hs) w') := by
  unfold weirlaw3_wide
  refine WP.appS s i e r (by decide) (WP.appl0 s (by omega) (by decide) (fun r w sp s => WP.slot' s (fun _ w s => ?_)))
  exact WP.appl s 0 rfl (by simp only [List.length_cons, List.length_nil]; omega) (by decide) (fun r w sp' s => WP.ret ⟨sp', s⟩)
theorem num_wp {w : World} (e : Int) : WP (weirlaw3_num e) w (fun r w' => r = e ∧ w = w') := WP.ret ⟨rfl, rfl⟩
theorem wrap_u8 {n : Int} (h : 0 ≤ n) (h' : n ≤ 255) : IntKind.wrap .u8 n = n := by
  unfold IntKind.wrap
  simp only [IntKind.bits, IntKind.signed]
  have : n % (256 : Int) = n := Int.emod_eq_of_lt h (by omega)
  simp [this]
theorem vec_front {α : Type} {c : Cod α} {s : Sl} {ys zs sp : List α} {n k : Nat} (h : ys.length = n) : Rdb (vec c s (ys ++ zs) sp) c ⟨s.a, n, k⟩ ys := by
  have := (vec_rdb (c := c) (s := s) (xs := ys ++ zs) (sp := sp)).take (k := ys.length) (n := k) (by simp)
  rwa [List.take_left, h] at this
/-- a store through a window, of a byte -/
theorem WP.stwin {β : Type} {W w : World} {R : List HP} {p : Option Addr} {ad : List (Option Addr)} {m : RM} {i n : Nat} {a : Addr} {d : List Int} {k v : Int} {f : Unit → M β} {Q : β → World → Prop} (s : Ss W (Port p m ad :: R) w) (ha : ad[i]? = some (some a)) (hd : m.dat[i]? = some d) (k0 : 0 ≤ k) (k1 : k < n) (hn : n ≤ d.length) (hv : 0 ≤ v ∧ v ≤ 255)
    (g : ∀ w', Ss W (Port p (m.setd i (d.set k.toNat v)) ad :: R) w' → WP (f ()) w' Q) : WP (Lx.idx (some a) n k 1 >>= fun p => Lx.st (cI .u8) p v >>= f) w Q := by
  obtain ⟨pa, P, rfl, po, ok, s⟩ := s.openR
  have hdd := ok.d _ (List.mem_of_getElem? hd)
  have s1 := buf_out s ha hd
  refine WP.idx k0 k1 ?_
  refine WP.st s1 0 rfl rfl (upd_r (c := cI .u8) v (by omega)) (fun w s => g w ?_)
  have s := buf_back (d' := d.set k.toNat v) ha hd s
  refine Ss.closeR s rfl ⟨po.size, po.rx, po.tx, by rw [setd_n]; exact po.ad⟩ (ok.setd ⟨by rw [List.length_set]; exact hdd.1, fun x hx => ?_⟩)
  rcases List.mem_or_eq_of_mem_set hx with hx | rfl
  · exact hdd.2 x hx
  · exact hv
theorem held0 {m : RM} {i : Nat} (ok : m.Ok) (h : m.place[i]? = some 4) : m.heldE i = 0 := by
  have := (List.getElem?_eq_some_iff.1 h).1
  rw [ok.pl] at this
  unfold RM.heldE
  rw [if_neg (by omega), Int.toNat_natCast, List.getD, h]
  rfl
/-- the one buffer that is held, of a port of two -/
structure WM (m : RM) (d : List Int) : Prop where
  sz : m.size = 64
  n : m.n = 2
  dat : m.dat[0]? = some d
  h : m.place[0]? = some 4
  q : m.L 5 = []
  tx : m.tx = 2
theorem WM.setd {m : RM} {d : List Int} (h : WM m d) (d' : List Int) : WM (m.setd 0 d') d' := ⟨h.sz, by rw [setd_n]; exact h.n, by
  have := (List.getElem?_eq_some_iff.1 h.dat).1
  show (m.dat.set 0 d')[0]? = _
  rw [List.getElem?_set_self this], h.h, h.q, h.tx⟩
section
variable {W w : World} {R : List HP} {p : Option Addr} {ad : List (Option Addr)} {m : RM} {a : Addr} {d : List Int}
theorem win_K1 {n : Nat} {x want : Sl} {ys sp sp2 : List Int} {e : Int} {is : Bool} (s : Ss W (Port p m ad :: vec (cI .u8) x ys sp :: vec (cI .u8) want (d.take n ++ [91, 92, 93]) sp2 :: R) w) (ha : ad[0]? = some (some a)) (hd : m.dat[0]? = some d) (hl : d.length = 64) (hb : Bytes d) (hn : n ≤ 64) (hy : ys.length = n) :
    WP (weirlaw3_RingWindows.K1 (⟨some a, 64, 64⟩, e) (n : Int) want (x, is)) w (fun r w' => r = true ∧ Below W.heap.size W w') := by
  unfold weirlaw3_RingWindows.K1
  refine WP.slot' s (fun _ w s => ?_)
  refine WP.appl s 1 rfl (by simp only [List.length_cons, List.length_nil]; omega) (by decide) (fun r w sp' s => WP.draw' s (fun w s => ?_))
  have hr := (s.vec_len (i := 1) rfl).1
  have hw := s.vec_len (i := 2) rfl
  rw [List.length_append, List.length_take] at hw
  simp only [List.length_append, List.length_cons, List.length_nil] at hr hw
  refine WP.cutpre (by omega) (by show (n : Int) ≤ 64; omega) (WP.cutpre (by omega) (by omega) ?_)
  have r1 : Rdb (Port p m ad) (cI .u8) ⟨some a, (n : Int).toNat, 64⟩ (d.take n) := Port.rdb ha hd (by omega)
  have r2 : Rdb (vec (cI .u8) want (d.take n ++ [91, 92, 93]) sp2) (cI .u8) ⟨want.a, (n : Int).toNat, want.cap⟩ (d.take n) := vec_front (by rw [List.length_take]; omega)
  have hbt : Bytes (d.take n) := fun x hx => hb x (List.mem_of_mem_take hx)
  refine WP.step (alike_wp s 0 rfl r1 2 rfl r2 hbt hbt) ?_
  rintro _ w ⟨rfl, s⟩
  refine WP.step (R := fun y w' => y = true ∧ w = w') (WP.ite (fun _ => WP.ret ⟨?_, rfl⟩) (fun h => absurd (by simp) h)) ?_
  · rw [hr, hy, wrap_i64 (by omega) (by omega)]
    simp
  rintro _ _ ⟨rfl, rfl⟩
  exact WP.ret ⟨rfl, s.below⟩
theorem win_L1 {n : Nat} {x want : Sl} {ys sp sp2 : List Int} {e : Int} {is : Bool} (s : Ss W (Port p m ad :: vec (cI .u8) x ys sp :: vec (cI .u8) want (d.take n ++ [91, 92, 93]) sp2 :: R) w) (ha : ad[0]? = some (some a)) (hd : m.dat[0]? = some d) (hl : d.length = 64) (hb : Bytes d) (hn : n ≤ 64) (hy : ys.length = n) :
    WP (loopM (fun s_ : Int => weirlaw3_RingWindows.L1 (⟨some a, 64, 64⟩, e) (n : Int) want (x, is) s_) 0) w (fun r w' => r = true ∧ Below W.heap.size W w') := by
  have hx := (s.vec_len (i := 1) rfl).1
  refine WP.loop (fun (k : Int) w' => 0 ≤ k ∧ k ≤ n ∧ ∃ ys : List Int, ys.length = n ∧ Ss W (Port p m ad :: vec (cI .u8) x ys sp :: vec (cI .u8) want (d.take n ++ [91, 92, 93]) sp2 :: R) w') (fun k _ => ((n : Int) - k).toNat) ⟨by omega, by omega, ys, hy, s⟩ ?_
  clear s
  rintro k w ⟨k0, k1, zs, hz, s⟩
  unfold weirlaw3_RingWindows.L1
  refine WP.ite (fun hk => ?_) (fun hk => WP.step (win_K1 s ha hd hl hb hn hz) (fun r w h => WP.done h))
  have hk' : k < n := by rw [hx, hy] at hk; exact hk
  refine WP.rdx s 1 rfl vec_rdb k0 (List.getElem?_eq_getElem (show k.toNat < zs.length by omega)) rfl ?_
  refine WP.stx s 1 rfl k0 (by omega) rfl (fun w s => WP.next ?_)
  rw [wrap_i64 (by omega) (by omega)]
  exact ⟨⟨by omega, by omega, _, by rw [List.length_set]; exact hz, s⟩, by omega⟩
theorem win_K2 {n : Nat} {b g h : Sl} {e : Int} {r10 : Int × Sl × Bool} (s : Ss W (Port p m ad :: R) w) (hi : r10.1 = 0) (hm : WM m d) (ha : ad[0]? = some (some a)) (hn : n ≤ 64) (hg : g.len = b.len + 3) (hb64 : b.len ≤ 64) (hh : h.len = 67) (e2 : Int) :
    WP (weirlaw3_RingWindows.K2 (p, e2) b r10 (⟨some a, 64, 64⟩, e) g h (n : Int)) w (fun r w' => r = true ∧ Below W.heap.size W w') := by
  unfold weirlaw3_RingWindows.K2
  have ok := s.okR
  have hdd := ok.d _ (List.mem_of_getElem? hm.dat)
  have hl : d.length = 64 := by rw [hdd.1, hm.sz]
  refine WP.cutpre (by omega) (by show (n : Int) ≤ 64; omega) ?_
  have r1 : Rdb (Port p m ad) (cI .u8) ⟨some a, (n : Int).toNat, 64⟩ (d.take n) := Port.rdb ha hm.dat (by omega)
  refine WP.step (wide_wp s 0 rfl r1 (by rw [List.length_take]; omega)) ?_
  rintro want w ⟨sp2, s⟩
  have s : Ss W (Port p m ad :: vec (cI .u8) want (d.take n ++ [91, 92, 93]) sp2 :: R) w := s.use [1, 0] rfl
  rw [hi]
  have hs : m.send 0 (n : Int) = ((m.setl 0 (n : Int)).mv 0 5, 0) := by
    unfold RM.send
    rw [if_neg (by rw [hm.n, hm.sz]; omega), if_neg (by have := held0 ok hm.h; simp only [Int.natCast_zero] at this; rw [this]; decide), hm.q, hm.tx]
    rfl
  refine WP.step (Send_wp s 0 (n : Int)) ?_
  rw [hs]
  rintro _ w ⟨rfl, s⟩
  refine WP.step (num_wp _) ?_
  rintro _ _ ⟨rfl, rfl⟩
  refine WP.step (R := fun y w' => y = false ∧ w = w') (WP.ite (fun h => absurd rfl h) (fun _ => WP.ret ⟨?_, rfl⟩)) ?_
  · rw [hg, wrap_i64 (by omega) (by omega)]
    simp
  rintro _ _ ⟨rfl, rfl⟩
  refine WP.step (R := fun y w' => y = false ∧ w = w') (WP.ite (fun h => by cases h) (fun _ => WP.ret ⟨?_, rfl⟩)) ?_
  · rw [hh]
    rfl
  rintro _ _ ⟨rfl, rfl⟩
  refine WP.ite (fun h => by cases h) (fun _ => WP.step (Drain_wp s) ?_)
  intro x w hx
  have hL : ((m.setl 0 (n : Int)).mv 0 5).L 5 = [0] := by simp [RM.mv, RM.setl, hm.q]
  rw [hL] at hx
  obtain ⟨ad', hx2, hext, s⟩ := hx
  have hlen : ((m.setl 0 (n : Int)).mv 0 5).len.getD 0 0 = n := by
    show (m.len.set 0 (n : Int)).getD 0 0 = n
    exact getD_set_self (by rw [ok.ll, hm.n]; omega)
  have hdat : ((m.setl 0 (n : Int)).mv 0 5).dat.getD 0 [] = d := by
    show m.dat.getD 0 [] = d
    rw [List.getD, hm.dat]
    rfl
  rw [hlen, hdat, Int.toNat_natCast] at s
  have hbt : Bytes (d.take n) := fun x hx => hdd.2 x (List.mem_of_mem_take hx)
  have hw := s.vec_len (i := 2) rfl
  rw [List.length_append, List.length_take] at hw
  simp only [List.length_cons, List.length_nil] at hw
  obtain ⟨x, is⟩ := x
  simp only at hx2 s
  subst hx2
  refine WP.step (R := fun y w' => y = false ∧ Ss W (Port p ((((m.setl 0 (n : Int)).mv 0 5).out 5).mv 0 1) ad' :: vec (cI .u8) x (d.take n) [] :: vec (cI .u8) want (d.take n ++ [91, 92, 93]) sp2 :: R) w') (WP.ite (fun h => absurd rfl h) (fun _ => WP.cutpre (by omega) (by omega) ?_)) ?_
  · have r2 : Rdb (vec (cI .u8) want (d.take n ++ [91, 92, 93]) sp2) (cI .u8) ⟨want.a, (n : Int).toNat, want.cap⟩ (d.take n) := vec_front (by rw [List.length_take]; omega)
    refine WP.step (alike_wp s 0 rfl vec_rdb 2 rfl r2 hbt hbt) ?_
    rintro _ w ⟨rfl, s⟩
    exact WP.ret ⟨by simp, s.use [1, 0] rfl⟩
  rintro _ w ⟨rfl, s⟩
  refine WP.ite (fun h => by cases h) (fun _ => ?_)
  exact win_L1 s (hext 0 a ha) hm.dat hl hdd.2 hn (by rw [List.length_take]; omega)
theorem win_K3 {n : Int} {b g h : Sl} {e : Int} {r10 : Int × Sl × Bool} (s : Ss W (Port p m ad :: R) w) (hi : r10.1 = 0) (hm : WM m d) (ha : ad[0]? = some (some a)) (hg : g.len = b.len + 3) (hb64 : b.len ≤ 64) (hh : h.len = 67) (e2 : Int) :
    WP (weirlaw3_RingWindows.K3 n (p, e2) b r10 (⟨some a, 64, 64⟩, e) g h) w (fun r w' => r = true ∧ Below W.heap.size W w') := by
  unfold weirlaw3_RingWindows.K3
  refine WP.step (R := fun y w' => y = decide (n < 0 ∨ n > 64) ∧ w = w') (WP.ite (fun h => WP.ret ⟨by simp [h], rfl⟩) (fun h => WP.ret ⟨by simp [h], rfl⟩)) ?_
  rintro _ _ ⟨rfl, rfl⟩
  refine WP.ite (fun h => win_K2 (n := 64) s hi hm ha (by omega) hg hb64 hh e2) (fun h' => ?_)
  have h' : ¬ (n < 0 ∨ n > 64) := fun hx => h' (decide_eq_true hx)
  obtain ⟨n, rfl⟩ : ∃ k : Nat, n = k := ⟨n.toNat, by omega⟩
  exact win_K2 (n := n) s hi hm ha (by omega) hg hb64 hh e2
theorem win_K4 {n : Int} {b more g h : Sl} {e : Int} {r10 : Int × Sl × Bool} {A : HP} {ms : List Int} {k : Nat} (s : Ss W (Port p m ad :: R) w) (hi : r10.1 = 0) (hw : r10.2.1 = ⟨some a, k, k⟩) (hk : k ≤ 64) (hm : WM m d) (hd : ∀ j, j < 64 → j < ms.length → d[j]? = ms[j]?) (j : Nat) (he : nth (Port p m ad :: R) j = some A) (r : Rdb A (cI .u8) more ms) (ha : ad[0]? = some (some a)) (hg : g.len = b.len + 3) (hb64 : b.len ≤ 64) (hh : h.len = 67) (e2 : Int) :
    WP (weirlaw3_RingWindows.K4 n more (p, e2) b r10 (⟨some a, 64, 64⟩, e) g h) w (fun r w' => r = true ∧ Below W.heap.size W w') := by
  unfold weirlaw3_RingWindows.K4
  obtain ⟨i0, w0, t0⟩ := r10
  simp only at hi hw
  subst hi hw
  have hl := (s.rd_len he r).1
  have hdl : d.length = 64 := by rw [(s.okR.d _ (List.mem_of_getElem? hm.dat)).1, hm.sz]
  refine WP.loop (fun (i : Int) w' => 0 ≤ i ∧ i ≤ k ∧ Ss W (Port p m ad :: R) w') (fun i _ => ((k : Int) - i).toNat) ⟨by omega, by omega, s⟩ ?_
  clear s
  rintro i w ⟨i0, i1, s⟩
  unfold weirlaw3_RingWindows.L2
  refine WP.step (R := fun y w' => y = decide (i < k ∧ i < ms.length) ∧ w = w') (WP.ite (fun h => WP.ret ⟨?_, rfl⟩) (fun h => WP.ret ⟨?_, rfl⟩)) ?_
  · have h : i < k := h
    rw [hl]
    simp [h]
  · have h : ¬ i < k := h
    simp [h]
  rintro _ _ ⟨rfl, rfl⟩
  refine WP.ite (fun h => ?_) (fun h => WP.step (win_K3 s rfl hm ha hg hb64 hh e2) (fun r w h => WP.done h))
  obtain ⟨h1, h2⟩ := of_decide_eq_true h
  refine WP.draw' s (fun w s => ?_)
  have hj := List.getElem?_eq_getElem (show i.toNat < ms.length by omega)
  have hj2 : (d.take k)[i.toNat]? = some ms[i.toNat] := by rw [List.getElem?_take, if_pos (by omega), hd _ (by omega) (by omega), hj]
  have r1 : Rdb (Port p m ad) (cI .u8) ⟨some a, k, k⟩ (d.take k) := Port.rdb ha hm.dat (by omega)
  refine WP.rdx (sl := ⟨some a, k, k⟩) s 0 rfl r1 i0 hj2 rfl ?_
  refine WP.rdx s j he r i0 hj rfl ?_
  refine WP.ite (fun h => absurd rfl h) (fun _ => WP.next ?_)
  rw [wrap_i64 (by omega) (by omega)]
  exact ⟨⟨by omega, by omega, s⟩, by omega⟩
theorem win_K5 {n : Int} {b more g h : Sl} {e : Int} {r10 : Int × Sl × Bool} {A : HP} {ms : List Int} {k : Nat} (s : Ss W (Port p m ad :: R) w) (hi : r10.1 = 0) (hw : r10.2.1 = ⟨some a, k, k⟩) (hk : k ≤ 64) (hm : WM m d) (j : Nat) (he : nth R j = some A) (r : Rdb A (cI .u8) more ms) (hms : Bytes ms) (ha : ad[0]? = some (some a)) (hg : g.len = b.len + 3) (hb64 : b.len ≤ 64) (hh : h.len = 67) (e2 : Int) :
    WP (weirlaw3_RingWindows.K5 n more (p, e2) b r10 (⟨some a, 64, 64⟩, e) g h) w (fun r w' => r = true ∧ Below W.heap.size W w') := by
  unfold weirlaw3_RingWindows.K5
  have hl := (s.rd_len (i := j + 1) he r).1
  refine WP.loop (fun (i : Int) w' => 0 ≤ i ∧ i ≤ 64 ∧ i ≤ ms.length ∧ ∃ m d, WM m d ∧ (∀ j, j < i.toNat → d[j]? = ms[j]?) ∧ Ss W (Port p m ad :: R) w') (fun i _ => ((64 : Int) - i).toNat) ⟨by omega, by omega, by omega, m, d, hm, fun j h => absurd h (by simp), s⟩ ?_
  clear s hm
  rintro i w ⟨i0, i1, i2, m, d, hm, hj, s⟩
  have hdl : d.length = 64 := by rw [(s.okR.d _ (List.mem_of_getElem? hm.dat)).1, hm.sz]
  unfold weirlaw3_RingWindows.L3
  refine WP.step (R := fun y w' => y = decide (i < ms.length ∧ i < 64) ∧ w = w') (WP.ite (fun h => WP.ret ⟨?_, rfl⟩) (fun h => WP.ret ⟨?_, rfl⟩)) ?_
  · rw [hl] at h
    simp [h]
  · rw [hl] at h
    simp [h]
  rintro _ _ ⟨rfl, rfl⟩
  refine WP.ite (fun h => ?_) (fun h => WP.step (win_K4 s hi hw hk hm (fun j h1 h2 => hj j ?_) (j + 1) he r ha hg hb64 hh e2) (fun r w h => WP.done h))
  · obtain ⟨h1, h2⟩ := of_decide_eq_true h
    have hx := List.getElem?_eq_getElem (show i.toNat < ms.length by omega)
    refine WP.rdx s (j + 1) he r i0 hx rfl ?_
    refine WP.stwin (n := 64) s ha hm.dat i0 h2 (by omega) (hms _ (List.getElem_mem _)) (fun w s => WP.next ?_)
    rw [wrap_i64 (by omega) (by omega)]
    refine ⟨⟨by omega, by omega, by omega, _, _, hm.setd _, fun q hq => ?_, s⟩, by omega⟩
    by_cases e : q = i.toNat
    · subst e
      rw [List.getElem?_set_self (by omega), hx]
    · rw [List.getElem?_set_ne (fun h => e h.symm)]
      exact hj q (by omega)
  · have h : ¬ (i < ms.length ∧ i < 64) := fun hx => h (decide_eq_true hx)
    omega
theorem win_L4 {n : Int} {b more g h : Sl} {e : Int} {r10 : Int × Sl × Bool} {A : HP} {ms : List Int} {k : Nat} (s : Ss W (Port p m ad :: R) w) (hi : r10.1 = 0) (hw : r10.2.1 = ⟨some a, k, k⟩) (hk : k ≤ 64) (hm : WM m d) (hd : ∀ j : Nat, j < 64 → d[j]? = some (j : Int)) (j : Nat) (he : nth R j = some A) (r : Rdb A (cI .u8) more ms) (hms : Bytes ms) (ha : ad[0]? = some (some a)) (hg : g.len = b.len + 3) (hb64 : b.len ≤ 64) (hh : h.len = 67) (e2 : Int) :
    WP (loopM (fun s_ : Int => weirlaw3_RingWindows.L4 n more (p, e2) b r10 (⟨some a, 64, 64⟩, e) g h s_) 0) w (fun r w' => r = true ∧ Below W.heap.size W w') := by
  refine WP.loop (fun (i : Int) w' => 0 ≤ i ∧ i ≤ 64 ∧ Ss W (Port p m ad :: R) w') (fun i _ => ((64 : Int) - i).toNat) ⟨by omega, by omega, s⟩ ?_
  clear s
  rintro i w ⟨i0, i1, s⟩
  have hdl : d.length = 64 := by rw [(s.okR.d _ (List.mem_of_getElem? hm.dat)).1, hm.sz]
  unfold weirlaw3_RingWindows.L4
  refine WP.ite (fun h1 => ?_) (fun _ => WP.step (win_K5 s hi hw hk hm j he r hms ha hg hb64 hh e2) (fun r w h => WP.done h))
  have r1 : Rdb (Port p m ad) (cI .u8) ⟨some a, 64, 64⟩ d := by
    have := Port.rdb (p := p) (k := 64) (c := 64) ha hm.dat (by omega)
    rwa [List.take_of_length_le (by omega)] at this
  refine WP.rdx (sl := ⟨some a, 64, 64⟩) s 0 rfl r1 i0 (hd _ (by omega)) rfl ?_
  refine WP.ite (fun h => absurd ?_ h) (fun _ => WP.next ?_)
  · rw [wrap_u8 (by omega) (by omega)]
    omega
  rw [wrap_i64 (by omega) (by omega)]
  exact ⟨⟨by omega, by omega, s⟩, by omega⟩
theorem win_K6 {n : Int} {b more : Sl} {e : Int} {r10 : Int × Sl × Bool} {A : HP} {ms : List Int} {k : Nat} (s : Ss W (Port p m ad :: R) w) (hi : r10.1 = 0) (hw : r10.2.1 = ⟨some a, k, k⟩) (hk : k ≤ 64) (hb : b.len = k) (hm : WM m d) (hd : ∀ j : Nat, j < 64 → d[j]? = some (j : Int)) (j : Nat) (he : nth R j = some A) (r : Rdb A (cI .u8) more ms) (hms : Bytes ms) (ha : ad[0]? = some (some a)) (e2 : Int) :
    WP (weirlaw3_RingWindows.K6 n more (p, e2) b r10 (⟨some a, 64, 64⟩, e)) w (fun r w' => r = true ∧ Below W.heap.size W w') := by
  unfold weirlaw3_RingWindows.K6
  have hdl : d.length = 64 := by rw [(s.okR.d _ (List.mem_of_getElem? hm.dat)).1, hm.sz]
  have r0 : ∀ q, q ≤ 64 → Rdb (Port p m ad) (cI .u8) ⟨some a, q, q⟩ (d.take q) := fun q hq => Port.rdb ha hm.dat (by omega)
  have hlq : ∀ q, q ≤ 64 → (d.take q).length = q := fun q hq => by rw [List.length_take]; omega
  refine WP.slot' s (fun _ w s => ?_)
  rw [hw]
  refine WP.applR s 0 rfl (r0 k hk) (by rw [hlq k hk]; simp) (by rw [hlq k hk]; simp only [List.length_cons, List.length_nil]; omega) (by decide) (by decide) (fun g w spg s => WP.slot' s (fun _ w s => ?_))
  have hg := (s.vec_len (i := 0) rfl).1
  refine WP.applR s 1 rfl (r0 64 (by omega)) (by rw [hlq 64 (by omega)]; simp) (by rw [hlq 64 (by omega)]; simp only [List.length_cons, List.length_nil]; omega) (by decide) (by decide) (fun h w sph s => ?_)
  have hh := (s.vec_len (i := 0) rfl).1
  rw [List.length_append, hlq _ hk] at hg
  rw [List.length_append, hlq 64 (by omega)] at hh
  exact win_L4 (R := _ :: _ :: R) (s.use [2] rfl) hi hw hk hm hd (j + 2) he r hms ha (by rw [hg, hb]; rfl) (by omega) (by rw [hh]; rfl) e2
theorem win_L5 {n : Int} {b more : Sl} {e : Int} {r10 : Int × Sl × Bool} {A : HP} {ms : List Int} {k : Nat} (s : Ss W (Port p m ad :: R) w) (hi : r10.1 = 0) (hw : r10.2.1 = ⟨some a, k, k⟩) (hk : k ≤ 64) (hb : b.len = k) (hm : WM m d) (j : Nat) (he : nth R j = some A) (r : Rdb A (cI .u8) more ms) (hms : Bytes ms) (ha : ad[0]? = some (some a)) (e2 : Int) :
    WP (loopM (fun s_ : Int => weirlaw3_RingWindows.L5 n more (p, e2) b r10 (⟨some a, 64, 64⟩, e) s_) 0) w (fun r w' => r = true ∧ Below W.heap.size W w') := by
  refine WP.loop (fun (i : Int) w' => 0 ≤ i ∧ i ≤ 64 ∧ ∃ m d, WM m d ∧ (∀ j : Nat, j < i.toNat → d[j]? = some (j : Int)) ∧ Ss W (Port p m ad :: R) w') (fun i _ => ((64 : Int) - i).toNat) ⟨by omega, by omega, m, d, hm, fun j h => absurd h (by simp), s⟩ ?_
  clear s hm
  rintro i w ⟨i0, i1, m, d, hm, hj, s⟩
  have hdl : d.length = 64 := by rw [(s.okR.d _ (List.mem_of_getElem? hm.dat)).1, hm.sz]
  unfold weirlaw3_RingWindows.L5
  refine WP.ite (fun h => ?_) (fun h => WP.step (win_K6 s hi hw hk hb hm (fun j h1 => hj j (by omega)) j he r hms ha e2) (fun r w h => WP.done h))
  rw [wrap_u8 i0 (by omega)]
  refine WP.stwin (n := 64) s ha hm.dat i0 h (by omega) (by omega) (fun w s => WP.next ?_)
  rw [wrap_i64 (by omega) (by omega)]
  refine ⟨⟨by omega, by omega, _, _, hm.setd _, fun q hq => ?_, s⟩, by omega⟩
  by_cases e : q = i.toNat
  · subst e
    rw [List.getElem?_set_self (by omega)]
    exact congrArg some (by omega)
  · rw [List.getElem?_set_ne (fun h => e h.symm)]
    exact hj q (by omega)
/-- behind a port of two buffers, of which one is posted -/
theorem win_K7 {n : Int} {b more : Sl} {A B : HP} {xs ms : List Int} (s : Ss W (Port p ((newM 1 2 2 64).refs 1) ad :: R) w) (j : Nat) (he : nth R j = some A) (r : Rdb A (cI .u8) more ms) (hms : Bytes ms) (j2 : Nat) (he2 : nth R j2 = some B) (rb : Rdb B (cI .u8) b xs) (hx : Bytes xs) (hk : xs.length ≤ 64) (e2 : Int) :
    WP (weirlaw3_RingWindows.K7 n more (p, e2) b) w (fun r w' => r = true ∧ Below W.heap.size W w') := by
  unfold weirlaw3_RingWindows.K7
  have hbl := (s.rd_len (i := j2 + 1) he2 rb).1
  have harr : ((newM 1 2 2 64).refs 1).arrive xs = (((((((newM 1 2 2 64).refs 1).out 2).setd 0 (xs ++ (List.replicate 64 (0 : Int)).drop xs.length)).setl 0 xs.length).mv 0 3), 0) := by
    unfold RM.arrive
    rw [if_neg (by omega), if_neg (by show ¬ xs.length > 64; omega)]
    rfl
  refine WP.step (Arrive_wp s j2 he2 rb hx) ?_
  rw [harr]
  rintro _ w ⟨rfl, ad1, _, s⟩
  refine WP.step (num_wp _) ?_
  rintro _ _ ⟨rfl, rfl⟩
  refine WP.ite (fun h => absurd rfl h) (fun _ => WP.step (Poll_wp s) ?_)
  intro r10 w h
  have hL : ((((((newM 1 2 2 64).refs 1).out 2).setd 0 (xs ++ (List.replicate 64 (0 : Int)).drop xs.length)).setl 0 xs.length).mv 0 3).L 3 = [0] := rfl
  rw [hL] at h
  obtain ⟨a, ad2, h10, ha, _, s⟩ := h
  have hlen : ((((((newM 1 2 2 64).refs 1).out 2).setd 0 (xs ++ (List.replicate 64 (0 : Int)).drop xs.length)).setl 0 xs.length).mv 0 3).len.getD 0 0 = xs.length := rfl
  rw [hlen, Int.toNat_natCast] at h10
  generalize hmm : ((((((((newM 1 2 2 64).refs 1).out 2).setd 0 (xs ++ (List.replicate 64 (0 : Int)).drop xs.length)).setl 0 xs.length).mv 0 3).out 3).mv 0 4) = m at s
  have hm : WM m (xs ++ (List.replicate 64 (0 : Int)).drop xs.length) := by
    subst hmm
    exact ⟨rfl, rfl, rfl, rfl, rfl, rfl⟩
  have hh := held0 s.okR hm.h
  subst h10
  refine WP.step (Buffer_wp s _) ?_
  rintro r11 w ⟨h1, _, h2⟩
  obtain ⟨a', ad3, h3, ha', hext, s⟩ := h2 hh
  simp only [Int.toNat_natCast] at ha'
  have := hext 0 a ha
  rw [this] at ha'
  cases ha'
  obtain ⟨v, f⟩ := r11
  simp only at h1 h3
  subst h3
  rw [hh] at h1
  subst h1
  rw [hm.sz] at *
  refine WP.step (R := fun y w' => y = false ∧ w = w') (WP.ite (fun h => absurd rfl h) (fun _ => WP.step (num_wp _) ?_)) ?_
  · rintro _ _ ⟨rfl, rfl⟩
    exact WP.ret ⟨rfl, rfl⟩
  rintro _ _ ⟨rfl, rfl⟩
  refine WP.step (R := fun y w' => y = false ∧ w = w') (WP.ite (fun h => by cases h) (fun _ => WP.ret ⟨by rw [hbl]; simp, rfl⟩)) ?_
  rintro _ _ ⟨rfl, rfl⟩
  refine WP.step (R := fun y w' => y = false ∧ w = w') (WP.ite (fun h => by cases h) (fun _ => WP.ret ⟨rfl, rfl⟩)) ?_
  rintro _ _ ⟨rfl, rfl⟩
  have r1 : Rdb (Port p m ad3) (cI .u8) ⟨some a, xs.length, xs.length⟩ xs := by
    have := Port.rdb (p := p) (k := xs.length) (c := xs.length) this hm.dat (by simp)
    rwa [List.take_left] at this
  refine WP.step (R := fun y w' => y = false ∧ Ss W (Port p m ad3 :: R) w') (WP.ite (fun h => by cases h) (fun _ => WP.step (alike_wp s 0 rfl r1 (j2 + 1) he2 rb hx hx) ?_)) ?_
  · rintro _ w ⟨rfl, s⟩
    exact WP.ret ⟨by simp, s⟩
  rintro _ w ⟨rfl, s⟩
  refine WP.ite (fun h => by cases h) (fun _ => ?_)
  exact win_L5 s rfl rfl hk hbl hm j he r hms this e2
end
theorem RingWindows_true : ∀ (W : World) (u0 : Int) (u1 : Sl) (u2 : Sl), ((Lit.int .i64 u0).wf = true) → (GSl (cI .u8) (Try.prog.bytesOf 5) (fun W u => (Lit.int .u8 u).wf = true) W u1) → (GSl (cI .u8) (Try.prog.bytesOf 5) (fun W u => (Lit.int .u8 u).wf = true) W u2) → ∃ W', weirlaw3_RingWindows u0 u1 u2 W = some (true, W') ∧ Below W.heap.size W W' := by
  intro W u0 u1 u2 _ g1 g2
  have hr : reachBytes = 140737488351232 := rfl
  obtain ⟨xs, hx, _, s⟩ := (Ss.start W).args g1 (by decide)
  obtain ⟨ms, hms, _, s⟩ := s.args g2 (by decide)
  have hx : Bytes xs := fun x h => byte_wf (hx x h)
  have hms : Bytes ms := fun x h => byte_wf (hms x h)
  have main : WP (weirlaw3_RingWindows u0 u1 u2) W (fun r W' => r = true ∧ Below W.heap.size W W') := by
    unfold weirlaw3_RingWindows
    refine WP.step (New_wp s) ?_
    rintro r w ⟨_, h⟩
    obtain ⟨pa, rfl, s⟩ := h (by decide)
    refine WP.step (R := fun y w' => y = false ∧ w = w') (WP.ite (fun h => by cases h) (fun _ => WP.step (num_wp _) ?_)) ?_
    · rintro _ _ ⟨rfl, rfl⟩
      exact WP.ret ⟨rfl, rfl⟩
    rintro _ _ ⟨rfl, rfl⟩
    have hN : (newM 1 2 2 64).refN 1 = 1 := refN_one (by decide)
    refine WP.step (R := fun y w' => y = false ∧ Ss W (Port (some pa) ((newM 1 2 2 64).refs 1) (List.replicate 2 none) :: [rdS (cI .u8) false u2 ms, rdS (cI .u8) false u1 xs]) w') (WP.ite (fun h => by cases h) (fun _ => WP.step (Refill_wp s 1) ?_)) ?_
    · rintro _ w ⟨rfl, s⟩
      have s : Ss W (Port (some pa) ((newM 1 2 2 64).refs ((newM 1 2 2 64).refN 1)) (List.replicate 2 none) :: [rdS (cI .u8) false u2 ms, rdS (cI .u8) false u1 xs]) w := s
      rw [hN] at s
      refine WP.ret ⟨?_, s⟩
      show (((newM 1 2 2 64).refN 1 : Int) != 1) = false
      rw [hN]
      rfl
    rintro _ w ⟨rfl, s⟩
    obtain ⟨hl, hc⟩ := s.rd_cap (i := 2) rfl
    refine WP.ite (fun h => by cases h) (fun _ => WP.ite (fun h => ?_) (fun h => ?_))
    · refine WP.cutpre (by omega) (by omega) ?_
      exact win_K7 s 0 rfl rdS_rdb hms 1 rfl (rdS_rdb.take (k := 64) (by omega)) (fun x h => hx x (List.mem_of_mem_take h)) (by rw [List.length_take]; omega) _
    · exact win_K7 s 0 rfl rdS_rdb hms 1 rfl rdS_rdb hx (by omega) _
  obtain ⟨r, W', h1, rfl, h2⟩ := main
  exact ⟨W', h1, h2⟩
end Go.Proofs.Ytoddkagehbcfjaa.Lx
