/- A side's steps: windows that are answered, buffers that are moved, bytes written, looks. -/
import Derived.Test.YtoddkagehbcfjaaRingSide
set_option linter.unusedVariables false
set_option linter.unusedSimpArgs false
namespace Go.Proofs.Ytoddkagehbcfjaa.Lx
open Go Go.Proofs Go.RowKit

section
variable {W w : World} {R : List HP} {p : Option Addr} {m : RM} {ad : List (Option Addr)} {r : weirref3_Port} {T c : Nat} {sd : weirlaw3_Side}
theorem out_same (m : RM) (k i j : Nat) : Same m ((m.out k).mv i j) := ⟨rfl, rfl, rfl, rfl⟩
/-- a window more -/
theorem win_more {wins spw : List weirlaw3_Win} {V : Sl} {x : weirlaw3_Win} {β : Type} {f : Sl → M β} {Q : β → World → Prop} (s : Ss W (Port p m ad :: RefP r m T :: vec cWin V wins spw :: R) w) (hw1 : ∀ x ∈ wins, WinOk m ad x) (hw2 : wins.length = c) (hc : c ≤ 4000000000000) (hx : WinOk m ad x)
    (g : ∀ V' sp' w', Ss W (Port p m ad :: RefP r m T :: vec cWin V' (wins ++ [x]) sp' :: R) w' → (∀ y ∈ wins ++ [x], WinOk m ad y) → WP (f V') w' Q) : WP (Lx.appl cWin 116 32 z_weirlaw3_Win V [x] >>= f) w Q := by
  refine WP.appl s 2 rfl (by simp only [List.length_cons, List.length_nil]; omega) (by decide) (fun V' w sp' s => g V' sp' w s ?_)
  intro y hy
  rcases List.mem_append.1 hy with hy | hy
  · exact hw1 y hy
  · simp only [List.mem_singleton] at hy
    subst hy
    exact hx
theorem answered_wp (s : Ss W (Sd sd m c T :: R) w) (hT : T + 8192 ≤ big) (hc : c ≤ 4000000000000) (o : weirlaw3_Op) (xs : List Int) (hk : o.Kind = 3 ∨ o.Kind = 4 ∨ o.Kind = 5) : WP (weirlaw3_answered sd o) w (fun x w' => x.2 = true ∧ Ss W (Sd x.1 (m.next o.Kind o.I o.N xs).1 (c + (m.next o.Kind o.I o.N xs).2) (T + 8192) :: R) w') := by
  unfold weirlaw3_answered
  refine WP.slot' s (fun _ w s => WP.slot' s (fun _ w s => WP.slot' s (fun _ w s => ?_)))
  obtain ⟨ad, wins, spw, hw1, hw2, s⟩ := s.openS
  have ok := s.okR
  refine WP.ite (fun h3 => WP.step (Poll_wp s) ?_) (fun h3 => WP.ite (fun h4 => WP.step (Take_wp s) ?_) (fun h4 => WP.step (Buffer_wp s o.I) ?_))
  · intro x w h
    rw [h3]
    cases hL : m.L 3 with
    | nil =>
      have en : m.next 3 o.I o.N xs = (m, 0) := by unfold RM.next; simp [hL]
      rw [en]
      rw [hL] at h
      obtain ⟨rfl, s⟩ := h
      refine WP.step (R_Poll (s.use [1] rfl) ok hT) ?_
      rw [hL]
      rintro _ w ⟨rfl, s⟩
      refine WP.slot' s (fun _ w s => ?_)
      refine WP.step (R := fun y w' => y = true ∧ w = w') (WP.ite (fun _ => WP.ret ⟨rfl, rfl⟩) (fun h => absurd (by simp) h)) ?_
      rintro _ _ ⟨rfl, rfl⟩
      refine WP.ite (fun _ => ?_) (fun h => absurd rfl h)
      refine WP.step (R := fun y w' => y = true ∧ w = w') (WP.ite (fun _ => WP.ret ⟨rfl, rfl⟩) (fun h => absurd rfl h)) ?_
      rintro _ _ ⟨rfl, rfl⟩
      refine WP.step (R := fun y w' => y = true ∧ w = w') (WP.ite (fun _ => WP.ret ⟨rfl, rfl⟩) (fun h => absurd rfl h)) ?_
      rintro _ _ ⟨rfl, rfl⟩
      exact WP.ret ⟨rfl, ((s.use [1] rfl).closeS hw1 hw2).moreS (by omega)⟩
    | cons i t =>
      have en : m.next 3 o.I o.N xs = ((m.out 3).mv i 4, 1) := by unfold RM.next; simp [hL]
      rw [en]
      rw [hL] at h
      obtain ⟨a, ad', rfl, ha, hext, s⟩ := h
      have hi := ok.lt (k := 3) (.inr (.inr (.inl rfl))) (by rw [hL]; simp : i ∈ m.L 3)
      obtain ⟨q1, q2, q3, q4, q5⟩ := con_len ok hi
      refine WP.step (R_Poll (s.use [1] rfl) ok hT) ?_
      rw [hL]
      rintro ⟨r', k, n, is⟩ w ⟨hq, s⟩
      simp only [Prod.mk.injEq] at hq
      obtain ⟨rfl, rfl, rfl⟩ := hq
      have s := s.use [1] rfl
      refine WP.slot' s (fun _ w s => ?_)
      refine WP.step (R := fun y w' => y = false ∧ w = w') (WP.ite (fun h => absurd rfl h) (fun h => WP.ret ⟨rfl, rfl⟩)) ?_
      rintro _ _ ⟨rfl, rfl⟩
      refine WP.ite (fun h => by cases h) (fun _ => WP.ite (fun h => absurd rfl h) (fun _ => WP.slot' s (fun _ w s => ?_)))
      have hwin : WinOk ((m.out 3).mv i 4) ad' ⟨⟨some a, (m.len.getD i 0).toNat, (m.len.getD i 0).toNat⟩, (i : Int)⟩ := ⟨i, a, _, rfl, ha, q1, hi⟩
      refine win_more s (fun x hx => (hw1 x hx).more (out_same m 3 i 4) hext) hw2 hc hwin (fun V' sp' w s hw1 => WP.draw' s (fun w s => ?_))
      have e : m.len.getD i 0 = ((m.len.getD i 0).toNat : Int) := by omega
      refine WP.step (R := fun y w' => y = true ∧ Ss W (Port sd.P ((m.out 3).mv i 4) ad' :: RefP r' ((m.out 3).mv i 4) (T + 1) :: vec cWin V' _ sp' :: R) w') (by
        have h := right_wp (V := V') s ha (m := (m.out 3).mv i 4) (k := (m.len.getD i 0).toNat) q1 hi
        rw [← e] at h
        exact h) ?_
      rintro _ w ⟨rfl, s⟩
      exact WP.ret ⟨rfl, (s.closeS (c := c + 1) hw1 (by simp [hw2])).moreS (by omega)⟩
  · intro x w h
    rw [h4]
    cases hL : m.L 1 with
    | nil =>
      have en : m.next 4 o.I o.N xs = (m, 0) := by unfold RM.next; simp [hL]
      rw [en]
      rw [hL] at h
      obtain ⟨rfl, s⟩ := h
      refine WP.step (R_Take (s.use [1] rfl) ok hT) ?_
      rw [hL]
      rintro _ w ⟨rfl, s⟩
      refine WP.slot' s (fun _ w s => WP.step (num_wp _) ?_)
      rintro _ _ ⟨rfl, rfl⟩
      refine WP.step (R := fun y w' => y = true ∧ w = w') (WP.ite (fun _ => WP.ret ⟨rfl, rfl⟩) (fun h => absurd (by decide) h)) ?_
      rintro _ _ ⟨rfl, rfl⟩
      refine WP.ite (fun _ => WP.draw' s (fun w s => WP.step (num_wp _) ?_)) (fun h => absurd rfl h)
      rintro _ _ ⟨rfl, rfl⟩
      refine WP.step (R := fun y w' => y = true ∧ w = w') (WP.ite (fun _ => WP.ret ⟨rfl, rfl⟩) (fun h => absurd rfl h)) ?_
      rintro _ _ ⟨rfl, rfl⟩
      refine WP.step (R := fun y w' => y = true ∧ w = w') (WP.ite (fun _ => WP.ret ⟨rfl, rfl⟩) (fun h => absurd rfl h)) ?_
      rintro _ _ ⟨rfl, rfl⟩
      exact WP.ret ⟨rfl, ((s.use [1] rfl).closeS hw1 hw2).moreS (by omega)⟩
    | cons i t =>
      have en : m.next 4 o.I o.N xs = (((m.out 1).mv i 4).setd i (List.replicate m.size 0), 1) := by unfold RM.next; simp [hL]
      rw [en]
      rw [hL] at h
      obtain ⟨a, ad', rfl, ha, hext, s⟩ := h
      have hi := ok.lt (k := 1) (.inl rfl) (by rw [hL]; simp : i ∈ m.L 1)
      have hsame : Same m (((m.out 1).mv i 4).setd i (List.replicate m.size 0)) := ⟨rfl, rfl, rfl, setd_n _ _ _⟩
      refine WP.step (R_Take (s.use [1] rfl) ok hT) ?_
      rw [hL]
      rintro ⟨r', k, n⟩ w ⟨hq, s⟩
      simp only [Prod.mk.injEq] at hq
      obtain ⟨rfl, rfl⟩ := hq
      have s := s.use [1] rfl
      refine WP.slot' s (fun _ w s => WP.step (num_wp _) ?_)
      rintro _ _ ⟨rfl, rfl⟩
      refine WP.step (R := fun y w' => y = false ∧ w = w') (WP.ite (fun h => absurd rfl h) (fun h => WP.ret ⟨rfl, rfl⟩)) ?_
      rintro _ _ ⟨rfl, rfl⟩
      refine WP.ite (fun h => by cases h) (fun _ => WP.ite (fun h => absurd rfl h) (fun _ => WP.slot' s (fun _ w s => ?_)))
      have hwin : WinOk (((m.out 1).mv i 4).setd i (List.replicate m.size 0)) ad' ⟨⟨some a, m.size, m.size⟩, (i : Int)⟩ := ⟨i, a, _, rfl, ha, Nat.le_refl _, by rw [hsame.2.2.2]; exact hi⟩
      refine win_more s (fun x hx => (hw1 x hx).more hsame hext) hw2 hc hwin (fun V' sp' w s hw1 => WP.draw' s (fun w s => ?_))
      have hsz : r'.Size = (m.size : Int) := by
        obtain ⟨bufs, ds, ro, _⟩ := (s.use [1] rfl).openF
        exact ro.sz
      rw [hsz]
      refine WP.step (right_wp (V := V') s ha (Nat.le_refl _) (by rw [hsame.2.2.2]; exact hi)) ?_
      rintro _ w ⟨rfl, s⟩
      exact WP.ret ⟨rfl, (s.closeS (c := c + 1) hw1 (by simp [hw2])).moreS (by omega)⟩
  · have h5 : o.Kind = 5 := by omega
    rw [h5]
    have en : m.next 5 o.I o.N xs = (m, if m.heldE o.I = 0 then 1 else 0) := by unfold RM.next; simp
    rw [en]
    rintro ⟨v, e⟩ w ⟨he, h0, h1⟩
    simp only at he h0 h1
    subst he
    by_cases hh : m.heldE o.I = 0
    · rw [if_pos hh, hh]
      obtain ⟨a, ad', rfl, ha, hext, s⟩ := h1 hh
      have hs0 := s
      refine WP.step (R_Buffer (s.use [1] rfl) ok o.I) ?_
      rintro _ w ⟨rfl, s⟩
      rw [hh]
      have s := s.use [1] rfl
      rcases heldE_cases m o.I with e | e | ⟨e, e1, e2, e3⟩
      · rw [hh] at e; cases e
      · rw [hh] at e; cases e
      obtain ⟨i, hi⟩ : ∃ n : Nat, o.I = n := ⟨o.I.toNat, by omega⟩
      rw [hi] at ha e2 ⊢
      rw [Int.toNat_natCast] at ha
      have hi : i < m.n := by omega
      refine WP.step (num_wp _) ?_
      rintro _ _ ⟨rfl, rfl⟩
      refine WP.step (R := fun y w' => y = false ∧ w = w') (WP.ite (fun h => absurd rfl h) (fun h => WP.ret ⟨rfl, rfl⟩)) ?_
      rintro _ _ ⟨rfl, rfl⟩
      refine WP.ite (fun h => by cases h) (fun _ => WP.slot' s (fun _ w s => ?_))
      have hwin : WinOk m ad' ⟨⟨some a, m.size, m.size⟩, (i : Int)⟩ := ⟨i, a, _, rfl, ha, Nat.le_refl _, hi⟩
      refine win_more s (fun x hx => (hw1 x hx).more (Same.refl m) hext) hw2 hc hwin (fun V' sp' w s hw1 => WP.draw' s (fun w s => ?_))
      have hsz : sd.R.Size = (m.size : Int) := by
        obtain ⟨bufs, ds, ro, _⟩ := (s.use [1] rfl).openF
        exact ro.sz
      rw [hsz]
      refine WP.step (right_wp (V := V') s ha (Nat.le_refl _) hi) ?_
      rintro _ w ⟨rfl, s⟩
      exact WP.ret ⟨rfl, (s.closeS (c := c + 1) hw1 (by simp [hw2])).moreS (by omega)⟩
    · rw [if_neg hh]
      obtain ⟨rfl, s⟩ := h0 hh
      refine WP.step (R_Buffer (s.use [1] rfl) ok o.I) ?_
      rintro _ w ⟨rfl, s⟩
      have s := s.use [1] rfl
      refine WP.step (num_wp _) ?_
      rintro _ _ ⟨rfl, rfl⟩
      refine WP.step (R := fun y w' => y = true ∧ w = w') (WP.ite (fun h => absurd rfl h) (fun _ => WP.ret ⟨by simpa using hh, rfl⟩)) ?_
      rintro _ _ ⟨rfl, rfl⟩
      refine WP.ite (fun _ => WP.draw' s (fun w s => WP.step (num_wp _) ?_)) (fun h => absurd rfl h)
      rintro _ _ ⟨rfl, rfl⟩
      refine WP.step (R := fun y w' => y = true ∧ w = w') (WP.ite (fun _ => WP.ret ⟨rfl, rfl⟩) (fun h => absurd rfl h)) ?_
      rintro _ _ ⟨rfl, rfl⟩
      refine WP.ret ⟨rfl, ?_⟩
      obtain ⟨P, R', V⟩ := sd
      exact (s.closeS hw1 hw2).moreS (by omega)
theorem smoved_wp (s : Ss W (Sd sd m c T :: R) w) (hT : T + 8192 ≤ big) (o : weirlaw3_Op) (xs : List Int) (hk : o.Kind = 1 ∨ o.Kind = 6 ∨ o.Kind = 7 ∨ o.Kind = 8) : WP (weirlaw3_moved sd o) w (fun x w' => x.2 = true ∧ Ss W (Sd x.1 (m.next o.Kind o.I o.N xs).1 (c + (m.next o.Kind o.I o.N xs).2) (T + 8192) :: R) w') := by
  unfold weirlaw3_moved
  refine WP.slot' s (fun _ w s => WP.slot' s (fun _ w s => WP.slot' s (fun _ w s => ?_)))
  obtain ⟨ad, wins, spw, hw1, hw2, s⟩ := s.openS
  have ok := s.okR
  refine WP.ite (fun h1 => WP.step (Refill_wp s o.N) ?_) (fun h1 => WP.ite (fun h6 => WP.step (Release_wp s o.I) ?_) (fun h6 => WP.ite (fun h7 => WP.step (Send_wp s o.I o.N) ?_) (fun h7 => WP.step (Drain_wp s) ?_)))
  · rintro _ w ⟨rfl, s⟩
    have en : m.next o.Kind o.I o.N xs = (m.refs (m.refN o.N), 0) := by unfold RM.next; rw [if_pos h1]
    rw [en]
    refine WP.step (R_Refill (s.use [1] rfl) ok hT o.N) ?_
    rintro x w ⟨hx, s⟩
    refine WP.slot' s (fun _ w s => WP.ret ⟨by rw [hx]; simp, ?_⟩)
    exact (s.use [1] rfl).closeS (fun x hx => (hw1 x hx).more (refs_same m _ (by unfold RM.refN; omega)) (Ext.refl _)) hw2
  · rintro _ w ⟨rfl, s⟩
    have en : m.next o.Kind o.I o.N xs = ((m.release o.I).1, 0) := by unfold RM.next; rw [h6]; simp
    rw [en]
    refine WP.step (R_Release (s.use [1] rfl) ok hT o.I) ?_
    rintro x w ⟨hx, s⟩
    refine WP.slot' s (fun _ w s => WP.draw' s (fun w s => WP.step (num_wp _) ?_))
    rintro _ _ ⟨rfl, rfl⟩
    refine WP.ret ⟨by rw [hx]; simp, ?_⟩
    exact (s.use [1] rfl).closeS (fun x hx => (hw1 x hx).more (release_same m _).1 (Ext.refl _)) hw2
  · rintro _ w ⟨rfl, s⟩
    have en : m.next o.Kind o.I o.N xs = ((m.send o.I o.N).1, 0) := by unfold RM.next; rw [h7]; simp
    rw [en]
    refine WP.step (R_Send (s.use [1] rfl) ok hT o.I o.N) ?_
    rintro x w ⟨hx, s⟩
    refine WP.slot' s (fun _ w s => WP.draw' s (fun w s => WP.step (num_wp _) ?_))
    rintro _ _ ⟨rfl, rfl⟩
    refine WP.ret ⟨by rw [hx]; simp, ?_⟩
    exact (s.use [1] rfl).closeS (fun x hx => (hw1 x hx).more (send_same m _ _).1 (Ext.refl _)) hw2
  · have h8 : o.Kind = 8 := by omega
    have fin : ∀ (x : Sl × Bool) (x2 : weirref3_Port × Sl × Bool) (m' : RM) (ad' : List (Option Addr)) (ys sp : List Int) (R2 : List HP) (w : World), Same m m' → Ext ad ad' → Ss W (Port sd.P m' ad' :: RefP x2.1 m' (T + 8192) :: vec cWin sd.W wins spw :: vec (cI .u8) x.1 ys sp :: R) w → ys.length ≤ 65535 →
        WP (loopM (fun s_ : Int => weirlaw3_moved.L1 sd x x2 true s_) 0) w (fun x w' => x.2 = true ∧ Ss W (Sd x.1 m' c (T + 8192) :: R) w') := by
      intro x x2 m' ad' ys sp R2 w hs he s hy
      have hxl := (s.vec_len (i := 3) rfl).1
      refine WP.loop (fun (k : Int) w' => 0 ≤ k ∧ k ≤ ys.length ∧ ∃ zs : List Int, zs.length = ys.length ∧ Ss W (Port sd.P m' ad' :: RefP x2.1 m' (T + 8192) :: vec cWin sd.W wins spw :: vec (cI .u8) x.1 zs sp :: R) w') (fun k _ => ((ys.length : Int) - k).toNat) ⟨by omega, by omega, ys, rfl, s⟩ ?_
      clear s
      rintro k w ⟨k0, k1, zs, hz, s⟩
      unfold weirlaw3_moved.L1
      refine WP.ite (fun hk => ?_) (fun hk => WP.done ⟨rfl, ?_⟩)
      · rw [hxl] at hk
        refine WP.rdx s 3 rfl vec_rdb k0 (List.getElem?_eq_getElem (show k.toNat < zs.length by omega)) rfl ?_
        refine WP.stx s 3 rfl k0 (by omega) rfl (fun w s => WP.next ?_)
        rw [wrap_i64 (by omega) (by omega)]
        exact ⟨⟨by omega, by omega, _, by rw [List.length_set]; exact hz, s⟩, by omega⟩
      · have s := (s.use [3] rfl).drop
        exact s.closeS (fun x hx => (hw1 x hx).more hs he) hw2
    intro x w h
    cases hL : m.L 5 with
    | nil =>
      have en : m.next o.Kind o.I o.N xs = (m, 0) := by unfold RM.next; rw [h8]; simp [hL]
      rw [en]
      rw [hL] at h
      obtain ⟨rfl, s⟩ := h
      refine WP.step (R_Drain (s.use [1] rfl) ok hT) ?_
      rw [hL]
      rintro _ w ⟨rfl, s⟩
      refine WP.slot' s (fun _ w s => ?_)
      have s := ((s.mk0 (A := vec (cI .u8) Sl.nil [] []) vec_nil).use [1, 1, 1, 0] rfl)
      have s : Ss W (Port sd.P m ad :: RefP sd.R m (T + 8192) :: vec cWin sd.W wins spw :: vec (cI .u8) Sl.nil [] [] :: R) w := (Ss.moreF s (by omega)).use [1] rfl
      refine WP.step (R := fun y w' => y = true ∧ Ss W (Port sd.P m ad :: RefP sd.R m (T + 8192) :: vec cWin sd.W wins spw :: vec (cI .u8) Sl.nil [] [] :: R) w') (WP.ite (fun _ => WP.step (alike_wp (xs := []) (ys := []) s 3 rfl vec_rdb 3 rfl vec_rdb (by intro x h; cases h) (by intro x h; cases h)) ?_) (fun h => absurd rfl h)) ?_
      · rintro _ w ⟨rfl, s⟩
        exact WP.ret ⟨rfl, s⟩
      rintro _ w ⟨rfl, s⟩
      exact fin (Sl.nil, false) (sd.R, Sl.nil, false) m ad [] [] [] _ (Same.refl m) (Ext.refl _) s (by simp)
    | cons i t =>
      have en : m.next o.Kind o.I o.N xs = ((m.out 5).mv i 1, 0) := by unfold RM.next; rw [h8]; simp [hL]
      rw [en]
      rw [hL] at h
      obtain ⟨ad', hx2, hext, s⟩ := h
      have hi := ok.lt (k := 5) (.inr (.inr (.inr rfl))) (by rw [hL]; simp : i ∈ m.L 5)
      obtain ⟨q1, q2, q3, q4, q5⟩ := con_len ok hi
      have hcb := con_bytes ok hi
      have hs1 := ok.s1
      obtain ⟨x, is⟩ := x
      simp only at hx2 s
      subst hx2
      refine WP.step (R_Drain (s.use [2] rfl) ok hT) ?_
      rw [hL]
      rintro ⟨r', y, is2⟩ w ⟨sp, hy2, s⟩
      simp only at hy2 s
      subst hy2
      refine WP.slot' s (fun _ w s => ?_)
      have s : Ss W (Port sd.P ((m.out 5).mv i 1) ad' :: RefP r' ((m.out 5).mv i 1) (T + 8192) :: vec cWin sd.W wins spw :: vec (cI .u8) x (con m i) [] :: vec (cI .u8) y (con m i) sp :: R) w := (s.moreF (T' := T + 8192) (by omega)).use [3, 0, 2, 1, 0] rfl
      refine WP.step (R := fun z w' => z = true ∧ Ss W (Port sd.P ((m.out 5).mv i 1) ad' :: RefP r' ((m.out 5).mv i 1) (T + 8192) :: vec cWin sd.W wins spw :: vec (cI .u8) x (con m i) [] :: vec (cI .u8) y (con m i) sp :: R) w') (WP.ite (fun _ => WP.step (alike_wp s 3 rfl vec_rdb 4 rfl vec_rdb hcb hcb) ?_) (fun h => absurd rfl h)) ?_
      · rintro _ w ⟨rfl, s⟩
        exact WP.ret ⟨by simp, s⟩
      rintro _ w ⟨rfl, s⟩
      have s := (s.use [4] rfl).drop
      exact fin (x, true) (r', y, true) _ ad' _ [] [] _ (out_same m 5 i 1) hext s (by unfold con; rw [List.length_take]; omega)
end
end Go.Proofs.Ytoddkagehbcfjaa.Lx
