/- A side: a port, what the document says of it, the windows that it answered: every step keeps them together. -/
import Derived.Test.YtoddkagehbcfjaaRingRef4
set_option linter.unusedVariables false
set_option linter.unusedSimpArgs false
namespace Go.Proofs.Ytoddkagehbcfjaa.Lx
open Go Go.Proofs Go.RowKit

theorem wrap_u8 {n : Int} (h : 0 ≤ n) (h' : n ≤ 255) : IntKind.wrap .u8 n = n := by
  unfold IntKind.wrap
  simp only [IntKind.bits, IntKind.signed]
  have : n % (256 : Int) = n := Int.emod_eq_of_lt h (by omega)
  simp [this]
/-- a store through a window, of a byte -/
theorem WP.stwin {β : Type} {W w : World} {R : List HP} {p : Option Addr} {ad : List (Option Addr)} {m : RM} {i n : Nat} {a : Addr} {d : List Int} {k v : Int} {f : Unit → M β} {Q : β → World → Prop} (s : Ss W (Port p m ad :: R) w) (ha : ad[i]? = some (some a)) (hd : m.dat[i]? = some d) (k0 : 0 ≤ k) (k1 : k < n) (hn : n ≤ d.length) (hv : 0 ≤ v ∧ v ≤ 255)
    (g : ∀ w', Ss W (Port p (m.setd i (d.set k.toNat v)) ad :: R) w' → WP (f ()) w' Q) : WP (Lx.idx (some a) n k 1 >>= fun p => Lx.st (cI .u8) p v >>= f) w Q := by
  obtain ⟨pa, P, rfl, po, ok, s⟩ := s.openR
  have hdd := ok.d _ (List.mem_of_getElem? hd)
  have s1 := buf_out s ha hd
  refine WP.idx k0 k1 ?_
  refine WP.st s1 0 rfl rfl (upd_r (c := cI .u8) v (by omega)) (fun w s => g w ?_)
  have s := buf_back (d' := d.set k.toNat v) ha hd s
  refine Ss.closeR s rfl ⟨po.size, po.rx, po.tx, by rw [setd_n]; exact po.ad⟩ (ok.setd ⟨by rw [List.length_set]; exact hdd.1, fun x hx => ?_⟩)
  rcases List.mem_or_eq_of_mem_set hx with hx | rfl
  · exact hdd.2 x hx
  · exact hv
abbrev cWin := c_weirlaw3_Win
/-- a window: of a buffer, from its first byte on -/
def WinOk (m : RM) (ad : List (Option Addr)) (x : weirlaw3_Win) : Prop := ∃ (i : Nat) (a : Addr) (k : Nat), x = ⟨⟨some a, k, k⟩, (i : Int)⟩ ∧ ad[i]? = some (some a) ∧ k ≤ m.size ∧ i < m.n
theorem WinOk.more {m m' : RM} {ad ad' : List (Option Addr)} {x : weirlaw3_Win} (h : WinOk m ad x) (hs : Same m m') (he : Ext ad ad') : WinOk m' ad' x := by
  obtain ⟨i, a, k, h1, h2, h3, h4⟩ := h
  exact ⟨i, a, k, h1, he i a h2, by rw [hs.1]; exact h3, by rw [hs.2.2.2]; exact h4⟩
def Sd (s : weirlaw3_Side) (m : RM) (c T : Nat) : HP := fun h => ∃ ad wins sp, (∀ x ∈ wins, WinOk m ad x) ∧ wins.length = c ∧ seps [Port s.P m ad, RefP s.R m T, vec cWin s.W wins sp] h
/-- the same, but for bytes -/
def Akin (m m' : RM) : Prop := ∃ D, D.length = m.dat.length ∧ m' = { m with dat := D }
theorem Akin.refl (m : RM) : Akin m m := ⟨m.dat, rfl, rfl⟩
theorem Akin.trans {a b c : RM} (h : Akin a b) (k : Akin b c) : Akin a c := by
  obtain ⟨D, h1, rfl⟩ := h
  obtain ⟨E, h2, rfl⟩ := k
  exact ⟨E, by rw [h2]; exact h1, rfl⟩
theorem Akin.same {a b : RM} (h : Akin a b) : Same a b := by
  obtain ⟨D, h1, rfl⟩ := h
  exact ⟨rfl, rfl, rfl, h1⟩
theorem Akin.setd (m : RM) (i : Nat) (d : List Int) : Akin m (m.setd i d) := ⟨m.dat.set i d, by simp, rfl⟩
/-- the port behind a step, and how many windows come -/
def RM.next (m : RM) (kd I N : Int) (xs : List Int) : RM × Nat :=
  if kd = 1 then (m.refs (m.refN N), 0) else if kd = 2 then ((m.arrive xs).1, 0)
  else if kd = 3 then (match m.L 3 with | [] => (m, 0) | i :: _ => ((m.out 3).mv i 4, 1))
  else if kd = 4 then (match m.L 1 with | [] => (m, 0) | i :: _ => (((m.out 1).mv i 4).setd i (List.replicate m.size 0), 1))
  else if kd = 5 then (m, if m.heldE I = 0 then 1 else 0)
  else if kd = 6 then ((m.release I).1, 0) else if kd = 7 then ((m.send I N).1, 0)
  else if kd = 8 then (match m.L 5 with | [] => (m, 0) | i :: _ => ((m.out 5).mv i 1, 0)) else (m, 0)
section
variable {W w : World} {R : List HP} {p : Option Addr} {m : RM} {ad : List (Option Addr)} {r : weirref3_Port} {T c : Nat} {sd : weirlaw3_Side}
theorem Ss.openS (s : Ss W (Sd sd m c T :: R) w) : ∃ ad wins sp, (∀ x ∈ wins, WinOk m ad x) ∧ wins.length = c ∧ Ss W (Port sd.P m ad :: RefP sd.R m T :: vec cWin sd.W wins sp :: R) w := by
  obtain ⟨hb, k, ⟨h1, h2, e, l1, l2, ⟨ad, wins, sp, a1, a2, a3⟩, b⟩, hw⟩ := s
  exact ⟨ad, wins, sp, a1, a2, Ss.split ⟨hb, k, ⟨h1, h2, e, l1, l2, a3, b⟩, hw⟩⟩
theorem Ss.closeS {wins sp : List weirlaw3_Win} {V : Sl} (s : Ss W (Port p m ad :: RefP r m T :: vec cWin V wins sp :: R) w) (h1 : ∀ x ∈ wins, WinOk m ad x) (h2 : wins.length = c) : Ss W (Sd ⟨p, r, V⟩ m c T :: R) w := (Ss.group (l := [_, _, _]) s).first (fun h hh => ⟨ad, wins, sp, h1, h2, hh⟩)
theorem Ss.moreS (s : Ss W (Sd sd m c T :: R) w) {T' : Nat} (h : T ≤ T') : Ss W (Sd sd m c T' :: R) w := by
  obtain ⟨ad, wins, sp, h1, h2, s⟩ := s.openS
  have s := ((s.use [1] rfl).moreF h).use [1] rfl
  obtain ⟨P, R, V⟩ := sd
  exact s.closeS h1 h2
/-- a window of so many bytes, with what the buffer holds; an append to it writes into none -/
theorem right_wp {V : Sl} {i k : Nat} {a : Addr} (s : Ss W (Port p m ad :: RefP r m T :: R) w) (ha : ad[i]? = some (some a)) (hk : k ≤ m.size) (hi : i < m.n) : WP (weirlaw3_right ⟨p, r, V⟩ ⟨some a, k, k⟩ (i : Int) (k : Int)) w (fun x w' => x = true ∧ Ss W (Port p m ad :: RefP r m T :: R) w') := by
  unfold weirlaw3_right
  have ok := s.okR
  have hs1 := ok.s1
  obtain ⟨d, hd⟩ : ∃ d, m.dat[i]? = some d := ⟨_, List.getElem?_eq_getElem hi⟩
  have hdd := ok.d _ (List.mem_of_getElem? hd)
  have rw1 : Rdb (Port p m ad) (cI .u8) ⟨some a, k, k⟩ (d.take k) := Port.rdb ha hd (by omega)
  have hl : (d.take k).length = k := by rw [List.length_take]; omega
  refine WP.slot' s (fun _ w s => WP.slot' s (fun _ w s => ?_))
  refine WP.applR s 0 rfl rw1 (by rw [hl]; simp) (by rw [hl]; simp only [List.length_cons, List.length_nil]; omega) (by decide) (by decide) (fun g w spg s => ?_)
  have hg := (s.vec_len (i := 0) rfl).1
  rw [List.length_append, hl] at hg
  have s := s.drop
  refine WP.step (R := fun y w' => y = true ∧ w = w') (WP.ite (fun _ => WP.ret ⟨?_, rfl⟩) (fun h => absurd rfl h)) ?_
  · rw [hg, wrap_i64 (by omega) (by omega)]
    simp
  rintro _ _ ⟨rfl, rfl⟩
  refine WP.step (R := fun y w' => y = true ∧ Ss W (Port p m ad :: RefP r m T :: R) w') (WP.ite (fun _ => ?_) (fun h => absurd rfl h)) (fun y w h => WP.ret h)
  have s := s.use [1] rfl
  refine WP.step (R_Bytes s ok hi hk) ?_
  rintro x w ⟨sp, s⟩
  have e : m.dat.getD i [] = d := by rw [List.getD, hd]; rfl
  rw [e] at s
  have hby : Bytes (d.take k) := fun x hx => hdd.2 x (List.mem_of_mem_take hx)
  refine WP.step (alike_wp s 2 rfl rw1 1 rfl vec_rdb hby hby) ?_
  rintro _ w ⟨rfl, s⟩
  have s := (s.use [1] rfl).drop
  exact WP.ret ⟨by simp, s.use [1] rfl⟩
theorem kept_wp {Hs : List HP} {A : HP} {v b : Sl} {xs sp : List Int} (s : Ss W Hs w) (i : Nat) (e : nth Hs i = some (vec (cI .u8) v (xs ++ [91, 92, 93]) sp)) (j : Nat) (e2 : nth Hs j = some A) (rb : Rdb A (cI .u8) b xs) (hx : Bytes xs) (hl : xs.length ≤ 140737488355000) : WP (weirlaw3_kept v b) w (fun y w' => y = true ∧ Ss W Hs w') := by
  unfold weirlaw3_kept
  have hb := (s.rd_len e2 rb).1
  have hv := s.vec_len e
  simp only [List.length_append, List.length_cons, List.length_nil] at hv
  refine WP.step (R := fun y w' => y = true ∧ Ss W Hs w') (WP.ite (fun _ => ?_) (fun h => absurd ?_ h)) ?_
  · refine WP.cutpre (by omega) (by omega) ?_
    refine WP.step (alike_wp s i e (vec_front (by omega)) j e2 rb hx hx) ?_
    rintro _ w ⟨rfl, s⟩
    exact WP.ret ⟨by simp, s⟩
  · rw [hv.1, hb, wrap_i64 (by omega) (by omega)]
    omega
  rintro _ w ⟨rfl, s⟩
  have at_ : ∀ (q : Nat) (x : Int), [91, 92, 93][q]? = some x → (xs ++ [91, 92, 93])[xs.length + q]? = some x := by
    intro q x h
    rw [List.getElem?_append_right (by omega), show xs.length + q - xs.length = q by omega]
    exact h
  rw [hb, wrap_i64 (by omega) (by omega), wrap_i64 (by omega) (by omega)]
  refine WP.step (R := fun y w' => y = true ∧ w = w') (WP.ite (fun _ => WP.rdx s i e vec_rdb (by omega) (at_ 0 91 rfl) rfl (WP.ret ⟨rfl, rfl⟩)) (fun h => absurd rfl h)) ?_
  rintro _ _ ⟨rfl, rfl⟩
  refine WP.step (R := fun y w' => y = true ∧ w = w') (WP.ite (fun _ => WP.rdx s i e vec_rdb (by omega) (x := 92) (by rw [show ((xs.length : Int) + 1).toNat = xs.length + 1 by omega]; exact at_ 1 92 rfl) rfl (WP.ret ⟨rfl, rfl⟩)) (fun h => absurd rfl h)) ?_
  rintro _ _ ⟨rfl, rfl⟩
  refine WP.step (R := fun y w' => y = true ∧ w = w') (WP.ite (fun _ => WP.rdx s i e vec_rdb (by omega) (x := 93) (by rw [show ((xs.length : Int) + 2).toNat = xs.length + 2 by omega]; exact at_ 2 93 rfl) rfl (WP.ret ⟨rfl, rfl⟩)) (fun h => absurd rfl h)) ?_
  rintro _ _ ⟨rfl, rfl⟩
  exact WP.ret ⟨rfl, s⟩
theorem arrived_wp {A : HP} {b : Sl} {xs : List Int} (s : Ss W (Sd sd m c T :: R) w) (hT : T + 8192 ≤ big) (j : Nat) (e : nth R j = some A) (rb : Rdb A (cI .u8) b xs) (hx : Bytes xs) (hl : xs.length ≤ 140737488355000) : WP (weirlaw3_arrived sd b) w (fun x w' => x.2 = true ∧ Ss W (Sd x.1 (m.arrive xs).1 c (T + 8192) :: R) w') := by
  unfold weirlaw3_arrived
  have hb := (s.rd_len (i := j + 1) e rb).1
  refine WP.slot' s (fun _ w s => WP.slot' s (fun _ w s => WP.step (wide_wp s (j + 1) e rb hl) ?_))
  rintro v w ⟨sp, s⟩
  refine WP.draw' s (fun w s => ?_)
  have hv := s.vec_len (i := 0) rfl
  simp only [List.length_append, List.length_cons, List.length_nil] at hv
  refine WP.cutpre (by omega) (by omega) ?_
  obtain ⟨ad, wins, spw, hw1, hw2, s⟩ := (s.use [1] rfl).openS
  have ok := s.okR
  refine WP.step (Arrive_wp s 2 rfl (vec_front (by omega)) hx) ?_
  rintro _ w ⟨rfl, ad', hext, s⟩
  have s := s.use [1] rfl
  refine WP.step (R_Arrive s ok hx hT (j + 3) e rb) ?_
  rintro x w ⟨hx2, s⟩
  have s := s.use [1] rfl
  refine WP.slot' s (fun _ w s => WP.step (num_wp _) ?_)
  rintro _ _ ⟨rfl, rfl⟩
  rw [hx2]
  refine WP.step (R := fun y w' => y = true ∧ Ss W (Port sd.P (m.arrive xs).1 ad' :: RefP x.1 (m.arrive xs).1 (T + 8192) :: vec cWin sd.W wins spw :: vec (cI .u8) v (xs ++ [91, 92, 93]) sp :: R) w') (WP.ite (fun _ => WP.step (kept_wp s 3 rfl (j + 4) e rb hx hl) (fun y w h => WP.ret h)) (fun h => absurd rfl h)) ?_
  rintro _ w ⟨rfl, s⟩
  refine WP.loop (fun (k : Int) w' => 0 ≤ k ∧ k ≤ xs.length + 3 ∧ ∃ ys : List Int, ys.length = xs.length + 3 ∧ Ss W (Port sd.P (m.arrive xs).1 ad' :: RefP x.1 (m.arrive xs).1 (T + 8192) :: vec cWin sd.W wins spw :: vec (cI .u8) v ys sp :: R) w') (fun k _ => ((xs.length : Int) + 3 - k).toNat) ⟨by omega, by omega, _, by simp, s⟩ ?_
  clear s
  rintro k w ⟨k0, k1, ys, hy, s⟩
  unfold weirlaw3_arrived.L1
  refine WP.ite (fun hk => ?_) (fun hk => WP.done ⟨rfl, ?_⟩)
  · have hk' : k < xs.length + 3 := by omega
    refine WP.rdx s 3 rfl vec_rdb k0 (List.getElem?_eq_getElem (show k.toNat < ys.length by omega)) rfl ?_
    refine WP.stx s 3 rfl k0 (by omega) rfl (fun w s => WP.next ?_)
    rw [wrap_i64 (by omega) (by omega)]
    exact ⟨⟨by omega, by omega, _, by rw [List.length_set]; exact hy, s⟩, by omega⟩
  · have s := (s.use [3] rfl).drop
    exact s.closeS (fun x hx => (hw1 x hx).more (arrive_same m xs).1 hext) hw2
end
end Go.Proofs.Ytoddkagehbcfjaa.Lx
