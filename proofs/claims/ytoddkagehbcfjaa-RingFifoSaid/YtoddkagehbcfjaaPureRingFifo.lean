/- The law RingFifo, of its program in the M-world: what arrived and is sent on is drained byte by byte, in order, none twice and none left out: it answers true, and nothing that was there is turned. -/
import Derived.Test.YtoddkagehbcfjaaRingRows
import Derived.Test.YtoddkagehbcfjaaLxQ
set_option linter.unusedVariables false
set_option linter.unusedSimpArgs false
namespace Go.Proofs.Ytoddkagehbcfjaa.Lx
open Go Go.Proofs Go.RowKit

theorem held0 {m : RM} {i : Nat} (ok : m.Ok) (h : m.place[i]? = some 4) : m.heldE i = 0 := by
  have := (List.getElem?_eq_some_iff.1 h).1
  rw [ok.pl] at this
  unfold RM.heldE
  rw [if_neg (by omega), Int.toNat_natCast, List.getD, h]
  rfl
theorem took {m : RM} {i : Nat} (k : Nat) (hi : i < m.place.length) : ((m.out k).mv i 4).place[i]? = some 4 := by
  show (m.place.set i ((4 : Nat) : Int))[i]? = _
  rw [List.getElem?_set_self hi]
  rfl
abbrev FHs (pa : Addr) (m : RM) (ad : List (Option Addr)) (s10 : Sl) (l1 p1 : List Sl) (cs : List (List Int)) (s11 : Sl) (l2 p2 : List Sl) (os : List (List Int)) (R : List HP) : List HP := Port (some pa) m ad :: vec cL s10 l1 p1 :: seps (zipH rdB l1 cs) :: vec cL s11 l2 p2 :: seps (zipH rdB l2 os) :: R
section
variable {W w : World} {R : List HP} {pa : Addr} {m : RM} {ad : List (Option Addr)} {s10 s11 : Sl} {l1 p1 l2 p2 : List Sl} {cs os : List (List Int)}
theorem fifo_end (s : Ss W (FHs pa m ad s10 l1 p1 cs s11 l2 p2 os R) w) (F : FF m cs os) (h2 : l2.length = os.length) (hb : os.length ≤ 100000000000000) (a b c d : Int) : WP (weirlaw3_RingFifo.K1 (some pa, a, b, c, d) s11) w (fun r w' => r = true ∧ Below W.heap.size W w') := by
  unfold weirlaw3_RingFifo.K1
  have hl := (s.vec_len (i := 3) rfl).1
  refine WP.loop (fun (k : Int) w' => 0 ≤ k ∧ k ≤ os.length ∧ ∃ m ad, (m.L 5).map (con m) = os.drop k.toNat ∧ Ss W (FHs pa m ad s10 l1 p1 cs s11 l2 p2 os R) w') (fun k _ => ((os.length : Int) - k).toNat) ⟨by omega, by omega, m, ad, by rw [← F.o]; simp, s⟩ ?_
  clear s F
  rintro k w ⟨k0, k1, m, ad, hm, s⟩
  unfold weirlaw3_RingFifo.L1
  refine WP.ite (fun hk => WP.step (Drain_wp s) ?_) (fun hk => WP.done ⟨rfl, s.below⟩)
  rw [hl, h2] at hk
  have ok := s.okR
  have hkl : k.toNat < os.length := by omega
  have hx := List.getElem?_eq_getElem hkl
  have hd : os.drop k.toNat = os[k.toNat] :: os.drop (k.toNat + 1) := List.drop_eq_getElem_cons hkl
  generalize os[k.toNat] = y at hx hd
  intro r w h
  cases hL : m.L 5 with
  | nil => rw [hL, hd] at hm; cases hm
  | cons i t =>
    rw [hL] at h hm
    obtain ⟨ad', hr2, hext, s⟩ := h
    rw [hd, List.map_cons, List.cons.injEq] at hm
    have hi := ok.lt (k := 5) (.inr (.inr (.inr rfl))) (by rw [hL]; simp : i ∈ m.L 5)
    have hcb := con_bytes ok hi
    obtain ⟨sl, hsl⟩ := get_of h2 hx
    refine WP.step (R := fun y w' => y = false ∧ ∃ ad, Ss W (FHs pa ((m.out 5).mv i 1) ad s10 l1 p1 cs s11 l2 p2 os R) w') (WP.ite (fun h => absurd hr2 h) (fun _ => ?_)) ?_
    · refine WP.rdx s 4 rfl vec_rdb k0 hsl rfl ?_
      refine WP.step (alike_wp s 0 rfl vec_rdb 5 rfl (row_rdb hsl hx) hcb (by rw [← hm.1]; exact hcb)) ?_
      rintro _ w ⟨rfl, s⟩
      exact WP.ret ⟨by simp; exact hm.1, ad', s.drop⟩
    rintro _ w ⟨rfl, ad2, s⟩
    refine WP.ite (fun h => by cases h) (fun _ => WP.next ?_)
    rw [wrap_i64 (by omega) (by omega)]
    refine ⟨⟨by omega, by omega, (m.out 5).mv i 1, ad2, ?_, s⟩, by omega⟩
    rw [show (k + 1).toNat = k.toNat + 1 by omega, ← hm.2]
    have : ((m.out 5).mv i 1).L 5 = t := by simp [RM.mv, RM.out, hL]
    rw [this]
    rfl
/-- one frame more in a row -/
theorem row_snoc {b : Sl} {xs : List Int} (s : Ss W (rdB b xs :: FHs pa m ad s10 l1 p1 cs s11 l2 p2 os R) w) (h1 : l1.length = cs.length) : Ss W (Port (some pa) m ad :: vec cL s10 l1 p1 :: seps (zipH rdB (l1 ++ [b]) (cs ++ [xs])) :: vec cL s11 l2 p2 :: seps (zipH rdB l2 os) :: R) w := by
  refine s.into 2 rfl ?_
  rw [zipH_snoc h1]
  exact (List.perm_append_singleton _ _).symm
end
theorem RingFifo_true : ∀ (W : World) (u0 : Int) (u1 : Int) (u2 : Int) (u3 : Int) (u4 : Sl), ((Lit.int .i64 u0).wf = true) → ((Lit.int .i64 u1).wf = true) → ((Lit.int .i64 u2).wf = true) → ((Lit.int .i64 u3).wf = true) → (GSl c_weirlaw3_Op (Try.prog.bytesOf 45) (fun W u => G45 W u) W u4) → ∃ W', weirlaw3_RingFifo u0 u1 u2 u3 u4 W = some (true, W') ∧ Below W.heap.size W W' := by
  intro W u0 u1 u2 u3 u4 _ _ _ _ g4
  have b45 : Try.prog.bytesOf 45 = 56 := by kernel_rfl
  have hr : reachBytes = 140737488351232 := rfl
  obtain ⟨ops, ho, hb, s⟩ := (Ss.start W).args g4 (by decide)
  rw [b45, hr] at hb
  have main : WP (weirlaw3_RingFifo u0 u1 u2 u3 u4) W (fun r W' => r = true ∧ Below W.heap.size W W') := by
    unfold weirlaw3_RingFifo
    refine WP.step (port_wp s u0 u1 u2 u3) ?_
    rintro _ w ⟨pa, rx, tx, pool, size, rfl, hE, _, s⟩
    have ok0 := newM_ok hE
    have hp : 1 ≤ pool := by have := ok0.n0; unfold newM RM.n at this; simpa using this
    have hrx : 1 ≤ rx := ok0.r0
    have hsz : 64 ≤ size := ok0.s0
    -- one buffer is posted, and two bytes arrive
    have hN := refN_one hE
    have hrange : List.range pool = 0 :: (List.range pool).drop 1 := by
      have := List.drop_eq_getElem_cons (l := List.range pool) (i := 0) (by simp; omega)
      simpa using this
    have hL1 : (newM rx tx pool size).L 1 = 0 :: (List.range pool).drop 1 := hrange
    have hm1 : (newM rx tx pool size).refs 1 = ((newM rx tx pool size).out 1).mv 0 2 := RM.refs_step (k := 0) hL1
    refine WP.step (R := fun y w' => y = false ∧ Ss W [Port (some pa) ((newM rx tx pool size).refs 1) (List.replicate pool none), rdS c_weirlaw3_Op false u4 ops] w') (WP.ite (fun h => by cases h) (fun _ => WP.step (Refill_wp s 1) ?_)) ?_
    · rintro _ w ⟨rfl, s⟩
      rw [hN] at s ⊢
      exact WP.ret ⟨rfl, s⟩
    rintro _ w ⟨rfl, s⟩
    have ok1 := s.okR
    generalize hM : (newM rx tx pool size).refs 1 = m at s ok1
    have hL2 : m.L 2 = [0] := by rw [← hM, hm1]; simp [RM.mv, RM.out, newM]
    have hL3 : m.L 3 = [] := by rw [← hM, hm1]; simp [RM.mv, RM.out, newM]
    have hL5 : m.L 5 = [] := by rw [← hM, hm1]; simp [RM.mv, RM.out, newM]
    have hms : m.size = size := by rw [← hM, hm1]; rfl
    have harr : (m.arrive [5, 6]).2 = 0 := by
      unfold RM.arrive
      rw [if_neg (by decide), if_neg (by simp; omega), hL2]
    refine WP.step (R := fun y w' => y = false ∧ ∃ ad', Ss W [Port (some pa) (m.arrive [5, 6]).1 ad', rdS c_weirlaw3_Op false u4 ops] w') (WP.ite (fun h => by cases h) (fun _ => WP.newv s (fun b4 w s => ?_))) ?_
    · have s1 := s.first (B := vec (cI .u8) ⟨some (pt b4 0), 2, 2⟩ [5, 6] []) (fun h hp => by
        rw [Cod.arr_enc] at hp
        exact ⟨rfl, rfl, hp⟩)
      refine WP.step (Arrive_wp (s1.use [1] rfl) 0 rfl vec_rdb (by intro x hx; simp at hx; omega)) ?_
      rintro _ w ⟨rfl, ad', _, s⟩
      unfold weirlaw3_num
      refine WP.step (R := fun y w' => y = (0 : Int) ∧ w = w') (WP.ret ⟨harr, rfl⟩) ?_
      rintro _ _ ⟨rfl, rfl⟩
      exact WP.ret ⟨rfl, ad', (s.use [1] rfl).drop⟩
    rintro _ w ⟨rfl, ad, s⟩
    have ok2 := s.okR
    have F0 : FF (m.arrive [5, 6]).1 [[5, 6]] [] := by
      rcases arrive_cases ok1 [5, 6] with ⟨h, _⟩ | ⟨_, i, t, hL, e, hlen⟩
      · exact absurd harr h
      · rw [e]
        have := FF.arrive (m := m) (cs := []) (os := []) ⟨by rw [hL3]; rfl, by rw [hL5]; rfl⟩ ok1 hL hlen
        exact this
    refine WP.ite (fun h => by cases h) (fun _ => ?_)
    refine WP.newv s (fun b8 w s => WP.newv s (fun b9 w s => ?_))
    have s1 := (s.use [1] rfl).first (B := vec (cI .u8) ⟨some (pt b8 0), 2, 2⟩ [5, 6] []) (fun h hp => by
      rw [Cod.arr_enc] at hp
      exact ⟨rfl, rfl, hp⟩)
    have s2 := Ss.vec_freeze s1
    have s3 := (s2.use [1] rfl).first (B := vec cL ⟨some (pt b9 0), 1, 1⟩ [⟨some (pt b8 0), 2, 2⟩] []) (fun h hp => by
      rw [Cod.arr_enc] at hp
      exact ⟨rfl, rfl, hp⟩)
    have s4 := (((s3.mk0 (A := seps (zipH rdB [] [])) trivial).use [2] rfl).into 0 rfl (M := zipH rdB [⟨some (pt b8 0), 2, 2⟩] [[5, 6]]) (List.Perm.refl _)).mk0 (A := seps (zipH rdB [] [])) trivial |>.mk0 (A := vec cL Sl.nil [] []) vec_nil
    have s5 : Ss W (FHs pa (m.arrive [5, 6]).1 ad ⟨some (pt b9 0), 1, 1⟩ [⟨some (pt b8 0), 2, 2⟩] [] [[5, 6]] Sl.nil [] [] [] [rdS c_weirlaw3_Op false u4 ops]) w := s4.use [4, 3, 2, 0, 0] rfl
    generalize (m.arrive [5, 6]).1 = m0 at s5 F0 ok2
    clear s s1 s2 s3 s4 hM hL2 hL3 hL5 hms harr ok1
    have hlo := (s5.rd_len (i := 5) rfl rdS_rdb).1
    refine WP.loop (fun (x : Sl × Sl × Int) w' => 0 ≤ x.2.2 ∧ x.2.2 ≤ ops.length ∧ ∃ m ad l1 p1 cs l2 p2 os, FF m cs os ∧ l1.length = cs.length ∧ l2.length = os.length ∧ (cs.length : Int) ≤ x.2.2 + 1 ∧ (os.length : Int) ≤ x.2.2 + 1 ∧ Ss W (FHs pa m ad x.1 l1 p1 cs x.2.1 l2 p2 os [rdS c_weirlaw3_Op false u4 ops]) w') (fun x _ => ((ops.length : Int) - x.2.2).toNat) ⟨by simp, by simp, m0, ad, _, _, _, _, _, _, F0, rfl, rfl, by simp, by simp, s5⟩ ?_
    clear s5 F0 ok2
    rintro ⟨s10, s11, k⟩ w ⟨k0, k1, m, ad, l1, p1, cs, l2, p2, os, F, h1, h2, hc, hos, s⟩
    simp only at k0 k1 hc hos s
    show WP (weirlaw3_RingFifo.L2 u4 (some pa, (rx : Int), (tx : Int), (pool : Int), (size : Int)) s10 s11 k) w _
    unfold weirlaw3_RingFifo.L2
    refine WP.ite (fun hk => ?_) (fun hk => WP.step (fifo_end s F h2 (by omega) _ _ _ _) (fun r w h => WP.done h))
    rw [hlo] at hk
    have hkl : k.toNat < ops.length := by omega
    have hx := List.getElem?_eq_getElem hkl
    generalize ops[k.toNat] = o at hx
    have ho' := ho o (List.mem_of_getElem? hx)
    have ok := s.okR
    have hl10 := (s.vec_len (i := 1) rfl).1
    have hl11 := (s.vec_len (i := 3) rfl).1
    have nx : ∀ {w : World} (s10' s11' : Sl) (m' : RM) (ad' : List (Option Addr)) (l1' p1' : List Sl) (cs' : List (List Int)) (l2' p2' : List Sl) (os' : List (List Int)), FF m' cs' os' → l1'.length = cs'.length → l2'.length = os'.length → cs'.length ≤ cs.length + 1 → os'.length ≤ os.length + 1 → Ss W (FHs pa m' ad' s10' l1' p1' cs' s11' l2' p2' os' [rdS c_weirlaw3_Op false u4 ops]) w → WP (pure (LS.next (s10', s11', IntKind.wrap .i64 (k + 1))) : M (LS (Sl × Sl × Int) Bool)) w (WP.Rd (fun x w' => (0 ≤ x.2.2 ∧ x.2.2 ≤ ops.length ∧ ∃ m ad l1 p1 cs l2 p2 os, FF m cs os ∧ l1.length = cs.length ∧ l2.length = os.length ∧ (cs.length : Int) ≤ x.2.2 + 1 ∧ (os.length : Int) ≤ x.2.2 + 1 ∧ Ss W (FHs pa m ad x.1 l1 p1 cs x.2.1 l2 p2 os [rdS c_weirlaw3_Op false u4 ops]) w') ∧ ((ops.length : Int) - x.2.2).toNat < ((ops.length : Int) - k).toNat) (fun r w' => r = true ∧ Below W.heap.size W w')) := by
      intro w s10' s11' m' ad' l1' p1' cs' l2' p2' os' F' q1 q2 q3 q4 s
      refine WP.next ?_
      rw [wrap_i64 (by omega) (by omega)]
      exact ⟨⟨by simp only; omega, by simp only; omega, m', ad', l1', p1', cs', l2', p2', os', F', q1, q2, by simp only; omega, by simp only; omega, s⟩, by simp only; omega⟩
    refine WP.rdx s 5 rfl rdS_rdb k0 hx rfl (WP.slot' s (fun _ w s => ?_))
    refine WP.ite (fun _ => ?_) (fun _ => WP.ite (fun _ => WP.step (Poll_wp s) ?_) (fun _ => WP.ite (fun _ => WP.step (Drain_wp s) ?_) (fun _ => WP.ite (fun _ => WP.step (Refill_wp s o.N) ?_) (fun _ => nx s10 s11 m ad l1 p1 cs l2 p2 os F h1 h2 (by omega) (by omega) s))))
    · -- a frame arrives
      obtain ⟨xs, hxs, _, s1⟩ := s.args ho'.2.2.2.2 (by decide)
      have hby : Bytes xs := fun x h => byte_wf (hxs x h)
      refine WP.step (Arrive_wp (s1.use [1] rfl) 0 rfl rdS_rdb hby) ?_
      rintro _ w ⟨rfl, ad', hext, s⟩
      unfold weirlaw3_num
      refine WP.step (R := fun y w' => y = (m.arrive xs).2 ∧ w = w') (WP.ret ⟨rfl, rfl⟩) ?_
      rintro _ _ ⟨rfl, rfl⟩
      rcases arrive_cases ok xs with ⟨he, e⟩ | ⟨he, i, t, hL, e, hlen⟩
      · rw [e] at s
        exact WP.ite (fun h => absurd h he) (fun _ => nx s10 s11 m ad' l1 p1 cs l2 p2 os F h1 h2 (by omega) (by omega) ((s.use [1] rfl).drop))
      · have F' := F.arrive ok hL hlen
        rw [← e] at F'
        refine WP.ite (fun _ => WP.slot' s (fun _ w s => ?_)) (fun h => absurd he h)
        have s2 : Ss W (rdB o.B xs :: FHs pa (m.arrive xs).1 ad' s10 l1 p1 cs s11 l2 p2 os [rdS c_weirlaw3_Op false u4 ops]) w := s.use [1] rfl
        have s3 := row_snoc s2 h1
        refine WP.appl s3 1 rfl (by simp only [List.length_cons, List.length_nil]; omega) (by decide) (fun r w sp' s => ?_)
        exact nx r s11 _ ad' _ _ _ l2 p2 os F' (by simp [h1]) h2 (by simp) (by omega) s
    · -- a frame is taken
      intro r w h
      cases hL : m.L 3 with
      | nil =>
        rw [hL] at h
        obtain ⟨rfl, s⟩ := h
        have hcs : cs = [] := by rw [F.c, hL]; rfl
        have hz : decide ((s10.len : Int) > 0) = false := by rw [hl10, h1, hcs]; rfl
        refine WP.ite (fun h => absurd (by rw [hz]) h) (fun _ => WP.ite (fun _ => nx s10 s11 m ad l1 p1 cs l2 p2 os F h1 h2 (by omega) (by omega) s) (fun h => absurd (by simp) h))
      | cons i t =>
        rw [hL] at h
        obtain ⟨a, ad', rfl, ha, hext, s⟩ := h
        have hcs : cs = con m i :: t.map (con m) := by rw [F.c, hL]; rfl
        have hi := ok.lt (k := 3) (.inr (.inr (.inl rfl))) (by rw [hL]; simp : i ∈ m.L 3)
        obtain ⟨q1, q2, q3, q4, q5⟩ := con_len ok hi
        have hcb := con_bytes ok hi
        obtain ⟨sl, l1', hl1⟩ : ∃ sl l1', l1 = sl :: l1' := by
          cases l1 with
          | nil => rw [hcs] at h1; simp at h1
          | cons sl l1' => exact ⟨sl, l1', rfl⟩
        subst hl1
        rw [hcs] at h1
        simp only [List.length_cons, Nat.add_right_cancel_iff] at h1
        have hz : decide ((s10.len : Int) > 0) = true := by rw [hl10, decide_eq_true_iff, List.length_cons]; omega
        refine WP.ite (fun h => absurd (by rw [hz]) h) (fun _ => WP.ite (fun h => absurd rfl h) (fun _ => ?_))
        refine WP.rdx s 1 rfl vec_rdb (by omega) (x := sl) rfl rfl ?_
        have ok4 := s.okR
        have hrd : Rdb (Port (some pa) ((m.out 3).mv i 4) ad') (cI .u8) ⟨some a, (m.len.getD i 0).toNat, (m.len.getD i 0).toNat⟩ (con m i) := Port.rdb (m := (m.out 3).mv i 4) ha q5 (by omega)
        rw [hcs] at s
        refine WP.step (alike_wp s 0 rfl hrd 2 rfl (row_rdb (i := 0) rfl rfl) hcb hcb) ?_
        rintro _ w ⟨rfl, s⟩
        refine WP.ite (fun h => absurd (by simp) h) (fun _ => WP.step (Send_wp s _ _) ?_)
        rintro _ w ⟨rfl, s⟩
        have hh := held0 ok4 (took 3 (by rw [ok.pl]; exact hi))
        have hnn : ((m.out 3).mv i 4).n = m.n := rfl
        have hs4 : ((m.out 3).mv i 4).size = m.size := rfl
        have eL5 : ((m.out 3).mv i 4).L 5 = m.L 5 := by simp [RM.mv, RM.out]
        have eL3 : ((m.out 3).mv i 4).L 3 = t := by simp [RM.mv, RM.out, hL]
        have esend : ((m.out 3).mv i 4).send i ((m.len.getD i 0).toNat : Int) = if (m.L 5).length = m.tx then ((m.out 3).mv i 4, 32) else ((((m.out 3).mv i 4).setl i ((m.len.getD i 0).toNat : Int)).mv i 5, 0) := by
          unfold RM.send
          rw [if_neg (by rw [hnn, hs4]; omega), if_neg (by rw [hh]; decide), eL5, Int.toNat_natCast]
          rfl
        have econ : ∀ j, con ((((m.out 3).mv i 4).setl i ((m.len.getD i 0).toNat : Int)).mv i 5) j = con m j := by
          intro j
          show (m.dat.getD j []).take ((m.len.set i ((m.len.getD i 0).toNat : Int)).getD j 0).toNat = _
          unfold con
          by_cases e : j = i
          · subst e
            rw [getD_set_self (by rw [ok.ll]; exact hi), Int.toNat_natCast]
          · rw [getD_set_ne' e]
        simp only at s ⊢
        rw [esend] at s ⊢
        unfold weirlaw3_num
        by_cases htx : (m.L 5).length = m.tx
        · rw [if_pos htx] at s ⊢
          refine WP.step (R := fun y w' => y = (32 : Int) ∧ w = w') (WP.ret ⟨rfl, rfl⟩) ?_
          rintro _ _ ⟨rfl, rfl⟩
          refine WP.ite (fun h => absurd h (by decide)) (fun _ => WP.step (Release_wp s _) ?_)
          rintro _ w ⟨rfl, s⟩
          have erel : ((m.out 3).mv i 4).release i = (((m.out 3).mv i 4).mv i 1, 0) := by
            unfold RM.release
            rw [if_neg (by rw [hh]; decide), Int.toNat_natCast]
          rw [erel] at s ⊢
          refine WP.step (R := fun y w' => y = (0 : Int) ∧ w = w') (WP.ret ⟨rfl, rfl⟩) ?_
          rintro _ _ ⟨rfl, rfl⟩
          refine WP.ite (fun h => absurd rfl h) (fun _ => ?_)
          refine WP.cuttail s 1 rfl rfl (fun r s => ?_)
          unfold weirlaw3_RingFifo.K2
          have s2 := (s.out 2 rfl (j := 0) rfl).drop
          refine nx r s11 _ ad' l1' p1 (t.map (con m)) l2 p2 os ⟨?_, ?_⟩ h1 h2 (by rw [hcs, List.length_cons]; omega) (by omega) s2
          · have : (((m.out 3).mv i 4).mv i 1).L 3 = t := by simp [RM.mv, RM.out, hL]
            rw [this]
            rfl
          · have : (((m.out 3).mv i 4).mv i 1).L 5 = m.L 5 := by simp [RM.mv, RM.out]
            rw [this]
            exact F.o
        · rw [if_neg htx] at s ⊢
          refine WP.step (R := fun y w' => y = (0 : Int) ∧ w = w') (WP.ret ⟨rfl, rfl⟩) ?_
          rintro _ _ ⟨rfl, rfl⟩
          refine WP.ite (fun _ => ?_) (fun h => absurd rfl h)
          refine WP.rdx s 1 rfl vec_rdb (by omega) (x := sl) rfl rfl (WP.slot' s (fun _ w s => ?_))
          have s2 := (s.out 2 rfl (j := 0) rfl).into 4 rfl (M := zipH rdB (l2 ++ [sl]) (os ++ [con m i])) (by
            rw [zipH_snoc h2]
            exact (List.perm_append_singleton _ _).symm)
          refine WP.appl s2 3 rfl (by simp only [List.length_cons, List.length_nil]; omega) (by decide) (fun r w sp' s => ?_)
          refine WP.cuttail s 1 rfl rfl (fun r2 s => ?_)
          unfold weirlaw3_RingFifo.K2
          refine nx r2 r _ ad' l1' p1 (t.map (con m)) _ sp' _ ⟨?_, ?_⟩ h1 (by simp [h2]) (by rw [hcs, List.length_cons]; omega) (by simp) s
          · have : ((((m.out 3).mv i 4).setl i ((m.len.getD i 0).toNat : Int)).mv i 5).L 3 = t := by simp [RM.mv, RM.out, RM.setl, hL]
            rw [this]
            exact map_ext (fun j _ => (econ j).symm)
          · have : ((((m.out 3).mv i 4).setl i ((m.len.getD i 0).toNat : Int)).mv i 5).L 5 = m.L 5 ++ [i] := by simp [RM.mv, RM.out, RM.setl]
            rw [this, List.map_append, F.o, List.map_cons, List.map_nil, econ]
            exact congrArg (· ++ [con m i]) (map_ext (fun j _ => (econ j).symm))
    · -- a frame goes out
      intro r w h
      cases hL : m.L 5 with
      | nil =>
        rw [hL] at h
        obtain ⟨rfl, s⟩ := h
        have hos0 : os = [] := by rw [F.o, hL]; rfl
        have hz : decide ((s11.len : Int) > 0) = false := by rw [hl11, h2, hos0]; rfl
        refine WP.step (R := fun y w' => y = false ∧ w = w') (WP.ite (fun h => absurd (by rw [hz]) h) (fun _ => WP.step (R := fun y w' => y = false ∧ w = w') (WP.ite (fun h => by cases h) (fun _ => WP.ret ⟨rfl, rfl⟩)) (fun y w h => WP.ret h))) ?_
        rintro _ _ ⟨rfl, rfl⟩
        refine WP.ite (fun h => by cases h) (fun _ => WP.ite (fun h => by cases h) (fun _ => ?_))
        unfold weirlaw3_RingFifo.K2
        exact nx s10 s11 m ad l1 p1 cs l2 p2 os F h1 h2 (by omega) (by omega) s
      | cons i t =>
        rw [hL] at h
        obtain ⟨ad', hr2, hext, s⟩ := h
        have hos0 : os = con m i :: t.map (con m) := by rw [F.o, hL]; rfl
        have hi := ok.lt (k := 5) (.inr (.inr (.inr rfl))) (by rw [hL]; simp : i ∈ m.L 5)
        have hcb := con_bytes ok hi
        obtain ⟨sl, l2', hl2⟩ : ∃ sl l2', l2 = sl :: l2' := by
          cases l2 with
          | nil => rw [hos0] at h2; simp at h2
          | cons sl l2' => exact ⟨sl, l2', rfl⟩
        subst hl2
        rw [hos0] at h2 s
        simp only [List.length_cons, Nat.add_right_cancel_iff] at h2
        have hz : decide ((s11.len : Int) > 0) = true := by rw [hl11, decide_eq_true_iff, List.length_cons]; omega
        refine WP.step (R := fun y w' => y = false ∧ Ss W (FHs pa ((m.out 5).mv i 1) ad' s10 l1 p1 cs s11 (sl :: l2') p2 (con m i :: t.map (con m)) [rdS c_weirlaw3_Op false u4 ops]) w') (WP.ite (fun h => absurd (by rw [hz]; exact hr2) h) (fun _ => WP.step (R := fun y w' => y = false ∧ Ss W (FHs pa ((m.out 5).mv i 1) ad' s10 l1 p1 cs s11 (sl :: l2') p2 (con m i :: t.map (con m)) [rdS c_weirlaw3_Op false u4 ops]) w') (WP.ite (fun _ => ?_) (fun h => absurd hr2 h)) (fun y w h => WP.ret h))) ?_
        · refine WP.rdx s 4 rfl vec_rdb (by omega) (x := sl) rfl rfl ?_
          refine WP.step (alike_wp s 0 rfl vec_rdb 5 rfl (row_rdb (i := 0) rfl rfl) hcb hcb) ?_
          rintro _ w ⟨rfl, s⟩
          exact WP.ret ⟨by simp [con], s.drop⟩
        rintro _ w ⟨rfl, s⟩
        refine WP.ite (fun h => by cases h) (fun _ => WP.ite (fun _ => ?_) (fun h => absurd hr2 h))
        refine WP.cuttail s 3 rfl rfl (fun r3 s => ?_)
        unfold weirlaw3_RingFifo.K2
        have s2 := (s.out 4 rfl (j := 0) rfl).drop
        refine nx s10 r3 _ ad' l1 p1 cs l2' p2 (t.map (con m)) ⟨?_, ?_⟩ h1 h2 (by omega) (by rw [hos0, List.length_cons]; omega) s2
        · have : ((m.out 5).mv i 1).L 3 = m.L 3 := by simp [RM.mv, RM.out]
          rw [this]
          exact F.c
        · have : ((m.out 5).mv i 1).L 5 = t := by simp [RM.mv, RM.out, hL]
          rw [this]
          rfl
    · rintro _ w ⟨rfl, s⟩
      unfold weirlaw3_RingFifo.K2
      obtain ⟨e1, e2, e3, e4, e5, e6, e7, e8, e9⟩ := RM.refs_spec (m := m) (m.refN o.N) (by unfold RM.refN; omega)
      have econ : ∀ j, con (m.refs (m.refN o.N)) j = con m j := fun j => by unfold con; rw [e8, e9]
      refine nx s10 s11 _ ad l1 p1 cs l2 p2 os ⟨?_, ?_⟩ h1 h2 (by omega) (by omega) s
      · rw [e3, F.c]
        exact map_ext (fun j _ => (econ j).symm)
      · rw [e4, F.o]
        exact map_ext (fun j _ => (econ j).symm)
  obtain ⟨r, W', h1, rfl, h2⟩ := main
  exact ⟨W', h1, h2⟩
end Go.Proofs.Ytoddkagehbcfjaa.Lx
