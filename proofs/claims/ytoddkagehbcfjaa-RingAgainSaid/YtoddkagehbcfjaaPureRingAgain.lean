/- The law RingAgain, of its program in the M-world: frames out of one place in memory: each is what it was when it arrived: it answers true, and nothing that was there is turned. -/
import Derived.Test.YtoddkagehbcfjaaRingPlay
import Derived.Test.YtoddkagehbcfjaaRingDesk
import Derived.Test.YtoddkagehbcfjaaLxQ
set_option linter.unusedVariables false
set_option linter.unusedSimpArgs false
namespace Go.Proofs.Ytoddkagehbcfjaa.Lx
open Go Go.Proofs Go.RowKit

/-- three buffers, all free or posted -/
structure RA (m : RM) : Prop where
  sz : m.size = 2048
  rx : m.rx = 2
  tx : m.tx = 2
  l3 : m.L 3 = []
  l5 : m.L 5 = []
  all : (m.L 1).length + (m.L 2).length = 3
  p2 : (m.L 2).length ≤ 2
theorem RA.refill {m : RM} (h : RA m) : m.refN 1 ≤ 1 ∧ RA (m.refs (m.refN 1)) ∧ ∃ i t, (m.refs (m.refN 1)).L 2 = i :: t := by
  have hN : m.refN 1 ≤ 1 ∧ m.refN 1 ≤ (m.L 1).length ∧ m.refN 1 ≤ m.rx - ((m.L 2).length + (m.L 3).length) := by unfold RM.refN; omega
  have hN2 : m.refN 1 = 1 ∨ m.refN 1 = (m.L 1).length ∨ m.refN 1 = m.rx - ((m.L 2).length + (m.L 3).length) := by unfold RM.refN; omega
  have h1 := h.all
  have h2 := h.p2
  have h3 := h.rx
  have hl3 : (m.L 3).length = 0 := by rw [h.l3]; rfl
  obtain ⟨e1, e2, e3, e4, e5, e6, e7, e8, e9⟩ := RM.refs_spec (m := m) (m.refN 1) hN.2.1
  have hlen : ((m.refs (m.refN 1)).L 2).length = (m.L 2).length + m.refN 1 := by rw [e2, List.length_append, List.length_take]; omega
  refine ⟨hN.1, ⟨by rw [e7]; exact h.sz, by rw [e5]; exact h.rx, by rw [e6]; exact h.tx, by rw [e3]; exact h.l3, by rw [e4]; exact h.l5, by rw [hlen, e1, List.length_drop]; omega, by rw [hlen]; omega⟩, ?_⟩
  cases hL : (m.refs (m.refN 1)).L 2 with
  | nil => rw [hL] at hlen; simp at hlen; omega
  | cons i t => exact ⟨i, t, rfl⟩
theorem RingAgain_true : ∀ (W : World) (u0 : Sl), (GSl cL (Try.prog.bytesOf 22) (fun W u => GSl (cI .u8) (Try.prog.bytesOf 5) (fun W u => (Lit.int .u8 u).wf = true) W u) W u0) → ∃ W', weirlaw3_RingAgain u0 W = some (true, W') ∧ Below W.heap.size W W' := by
  intro W u0 g0
  have b22 : Try.prog.bytesOf 22 = 24 := by kernel_rfl
  have b5 : Try.prog.bytesOf 5 = 1 := by kernel_rfl
  have hr : reachBytes = 140737488351232 := rfl
  obtain ⟨fs, ho, hb, s⟩ := (Ss.start W).args g0 (by decide)
  rw [b22, hr] at hb
  have main : WP (weirlaw3_RingAgain u0) W (fun r W' => r = true ∧ Below W.heap.size W W') := by
    unfold weirlaw3_RingAgain
    refine WP.step (New_wp s) ?_
    rintro r w ⟨_, h⟩
    obtain ⟨pa, rfl, s⟩ := h (by decide)
    refine WP.step (R := fun y w' => y = false ∧ w = w') (WP.ite (fun h => by cases h) (fun _ => WP.step (num_wp _) ?_)) ?_
    · rintro _ _ ⟨rfl, rfl⟩
      exact WP.ret ⟨rfl, rfl⟩
    rintro _ _ ⟨rfl, rfl⟩
    refine WP.step (R := fun y w' => y = false ∧ Ss W (Port (some pa) (newM 2 2 3 2048) (List.replicate 3 none) :: [rdS cL false u0 fs]) w') (WP.ite (fun h => by cases h) (fun _ => WP.step (started_wp s) ?_)) ?_
    · rintro _ w ⟨rfl, s⟩
      exact WP.ret ⟨rfl, s⟩
    rintro _ w ⟨rfl, s⟩
    refine WP.ite (fun h => by cases h) (fun _ => WP.newv s (fun b6 w s => WP.newv (desk_new s) (fun b7 w s => ?_)))
    have s := (bk_new s).use [2, 1] rfl
    have hlo := (s.rd_len (i := 3) rfl rdS_rdb).1
    have h0 : RA (newM 2 2 3 2048) := ⟨rfl, rfl, rfl, rfl, rfl, rfl, by decide⟩
    refine WP.loop (fun (k : Int) w' => 0 ≤ k ∧ k ≤ fs.length ∧ k ≤ 40 ∧ ∃ m ad room n xss, RA m ∧ room.length ≤ 281474976710656 ∧ xss.length ≤ k.toNat ∧ Ss W [Port (some pa) m ad, DeskP (some (pt b6 0)) room n, BookP (some (pt b7 0)) xss, rdS cL false u0 fs] w') (fun k _ => ((fs.length : Int) - k).toNat) ⟨by omega, by omega, by omega, _, _, [], 0, [], h0, by simp, by simp, s⟩ ?_
    clear s
    rintro k w ⟨k0, k1, k2, m, ad, room, n, xss, hm, hrl, hx, s⟩
    unfold weirlaw3_RingAgain.L1
    refine WP.step (R := fun y w' => y = decide (k < fs.length ∧ k < 40) ∧ w = w') (WP.ite (fun h => WP.ret ⟨by rw [hlo] at h; simp [h], rfl⟩) (fun h => WP.ret ⟨by rw [hlo] at h; simp [h], rfl⟩)) ?_
    rintro _ _ ⟨rfl, rfl⟩
    refine WP.ite (fun h => ?_) (fun h => ?_)
    · obtain ⟨h1, h2⟩ := of_decide_eq_true h
      have hf := List.getElem?_eq_getElem (show k.toNat < fs.length by omega)
      generalize fs[k.toNat] = b at hf
      have nx : ∀ {w : World} {m : RM} {ad : List (Option Addr)} {room : List Int} {n : Int} {xss : List (List Int)}, RA m → room.length ≤ 281474976710656 → xss.length ≤ k.toNat + 1 → Ss W [Port (some pa) m ad, DeskP (some (pt b6 0)) room n, BookP (some (pt b7 0)) xss, rdS cL false u0 fs] w → WP (pure (LS.next (IntKind.wrap .i64 (k + 1))) : M (LS Int Bool)) w (WP.Rd (fun k' w' => (0 ≤ k' ∧ k' ≤ fs.length ∧ k' ≤ 40 ∧ ∃ m ad room n xss, RA m ∧ room.length ≤ 281474976710656 ∧ xss.length ≤ k'.toNat ∧ Ss W [Port (some pa) m ad, DeskP (some (pt b6 0)) room n, BookP (some (pt b7 0)) xss, rdS cL false u0 fs] w') ∧ ((fs.length : Int) - k').toNat < ((fs.length : Int) - k).toNat) (fun r w' => r = true ∧ Below W.heap.size W w')) := by
        intro w m ad room n xss hm hr hx s
        refine WP.next ?_
        rw [wrap_i64 (by omega) (by omega)]
        exact ⟨⟨by omega, by omega, by omega, m, ad, room, n, xss, hm, hr, by omega, s⟩, by omega⟩
      refine WP.rdx s 3 rfl rdS_rdb k0 hf rfl ?_
      obtain ⟨xs, hxs, hxl, s⟩ := s.args (ho b (List.mem_of_getElem? hf)) (by decide)
      rw [b5, hr] at hxl
      have hby : Bytes xs := fun x h => byte_wf (hxs x h)
      have hbl := (s.rd_len (i := 0) rfl rdS_rdb).1
      refine WP.step (Refill_wp (s.use [1] rfl) 1) ?_
      rintro _ w ⟨rfl, s⟩
      obtain ⟨r1, hm, i, t, hL⟩ := hm.refill
      generalize m.refs (m.refN 1) = m at hm hL s
      refine WP.ite (fun h => by omega) (fun _ => ?_)
      have s : Ss W (DeskP (some (pt b6 0)) room n :: rdS (cI .u8) false b xs :: Port (some pa) m ad :: [BookP (some (pt b7 0)) xss, rdS cL false u0 fs]) w := s.use [2, 1] rfl
      refine WP.step (lend_wp s 0 rfl rdS_rdb (by omega) hrl) ?_
      rintro _ w ⟨da, V, sp, L, hL1, hL2, hda, rfl, s⟩
      have s : Ss W (Port (some pa) m ad :: pts true da (c_weirlaw3_Desk.enc ⟨V, (xs.length : Int)⟩) :: vec (cI .u8) V (xs ++ (marks L).drop xs.length) sp :: rdS (cI .u8) false b xs :: [BookP (some (pt b7 0)) xss, rdS cL false u0 fs]) w := s.use [3] rfl
      have ok := s.okR
      have hs1 := ok.s1
      refine WP.step (Arrive_wp s 1 rfl desk_rdb hby) ?_
      rintro _ w ⟨rfl, ad', hext, s⟩
      refine WP.step (num_wp _) ?_
      rintro _ _ ⟨rfl, rfl⟩
      have s0 : Ss W (pts true da (c_weirlaw3_Desk.enc ⟨V, (xs.length : Int)⟩) :: vec (cI .u8) V (xs ++ (marks L).drop xs.length) sp :: rdS (cI .u8) false b xs :: Port (some pa) (m.arrive xs).1 ad' :: [BookP (some (pt b7 0)) xss, rdS cL false u0 fs]) w := s.use [1, 1, 1] rfl
      have s : Ss W (DeskHs da V (xs ++ (marks L).drop xs.length) sp xs.length ++ (rdS (cI .u8) false b xs :: Port (some pa) (m.arrive xs).1 ad' :: [BookP (some (pt b7 0)) xss, rdS cL false u0 fs])) w := s0
      have hbk := back_wp s 0 rfl rdS_rdb hby hL2 hL1
      rw [← hda] at hbk
      refine WP.step hbk ?_
      rintro _ w ⟨rfl, s⟩
      have hlen : (xs ++ (marks L).drop xs.length).length = L := by rw [List.length_append, List.length_drop, marks_len]; omega
      have hwp := wipe_wp s (q := xs.length) (by omega) (by omega)
      rw [← hda] at hwp
      refine WP.ite (fun h => absurd rfl h) (fun _ => WP.step hwp ?_)
      rintro _ w ⟨room', hrl', s⟩
      rw [hbl]
      have s : Ss W (Port (some pa) (m.arrive xs).1 ad' :: DeskP (some (pt b6 0)) room' (xs.length : Int) :: rdS (cI .u8) false b xs :: [BookP (some (pt b7 0)) xss, rdS cL false u0 fs]) w := s.use [2] rfl
      refine WP.ite (fun hbig => ?_) (fun hbig => WP.step (Poll_wp s) ?_)
      · have ea : (m.arrive xs).1 = m ∧ ((m.arrive xs).2 = 30 ∨ (m.arrive xs).2 = 2) := by
          unfold RM.arrive
          split
          · exact ⟨rfl, .inr rfl⟩
          · rw [if_pos (by rw [hm.sz]; omega)]
            exact ⟨rfl, .inl rfl⟩
        rw [ea.1] at s
        refine WP.step (R := fun y w' => y = false ∧ w = w') (WP.ite (fun h => WP.ret ⟨?_, rfl⟩) (fun h => WP.ret ⟨rfl, rfl⟩)) ?_
        · rcases ea.2 with e | e
          · exact absurd e h
          · rw [e]
            rfl
        rintro _ _ ⟨rfl, rfl⟩
        exact WP.ite (fun h => by cases h) (fun _ => nx hm (by omega) (by omega) ((s.use [2] rfl).drop))
      · -- it arrives, is taken, sent, drained
        have ea : m.arrive xs = ((((m.out 2).setd i (xs ++ (m.dat.getD i []).drop xs.length)).setl i xs.length).mv i 3, 0) := by
          unfold RM.arrive
          rw [if_neg (by omega), if_neg (by rw [hm.sz]; omega), hL]
        have hi := ok.lt (k := 2) (.inr (.inl rfl)) (by rw [hL]; simp : i ∈ m.L 2)
        intro r w h
        generalize hm1 : (m.arrive xs).1 = m1 at h s
        have q3 : m1.L 3 = [i] := by rw [← hm1, ea]; simp [RM.mv, RM.setl, RM.setd, RM.out, hm.l3]
        have q5 : m1.L 5 = [] := by rw [← hm1, ea]; simp [RM.mv, RM.setl, RM.setd, RM.out, hm.l5]
        have q1 : m1.L 1 = m.L 1 := by rw [← hm1, ea]; simp [RM.mv, RM.setl, RM.setd, RM.out]
        have q2 : m1.L 2 = t := by rw [← hm1, ea]; simp [RM.mv, RM.setl, RM.setd, RM.out, hL]
        have qs : m1.size = 2048 ∧ m1.rx = 2 ∧ m1.tx = 2 ∧ m1.n = m.n := by rw [← hm1, ea]; exact ⟨hm.sz, hm.rx, hm.tx, setd_n _ _ _⟩
        have ql : m1.len.getD i 0 = (xs.length : Int) := by
          rw [← hm1, ea]
          show (m.len.set i (xs.length : Int)).getD i 0 = _
          exact getD_set_self (by rw [ok.ll]; exact hi)
        have qd : con m1 i = xs := by
          rw [← hm1, ea]
          have := con_own (m := m.out 2) (xs ++ (m.dat.getD i []).drop xs.length) (xs.length : Int) hi ok.ll
          rw [Int.toNat_natCast, List.take_left] at this
          exact this
        have qe : (m.arrive xs).2 = 0 := by rw [ea]
        rw [q3] at h
        obtain ⟨a, ad2, hrr, ha, hext2, s⟩ := h
        rw [ql, Int.toNat_natCast] at hrr
        subst hrr
        have ok1 : m1.Ok := by rw [← hm1]; exact ok.arrive hby
        rw [qe]
        have q5' := con_len ok1 (i := i) (by rw [qs.2.2.2]; exact hi)
        have ok2 := s.okR
        refine WP.step (R := fun y w' => y = false ∧ w = w') (WP.ite (fun h => absurd rfl h) (fun _ => WP.ret ⟨rfl, rfl⟩)) ?_
        rintro _ _ ⟨rfl, rfl⟩
        refine WP.step (R := fun y w' => y = false ∧ Ss W (Port (some pa) ((m1.out 3).mv i 4) ad2 :: DeskP (some (pt b6 0)) room' (xs.length : Int) :: rdS (cI .u8) false b xs :: [BookP (some (pt b7 0)) xss, rdS cL false u0 fs]) w') (WP.ite (fun h => by cases h) (fun _ => ?_)) ?_
        · have rw1 : Rdb (Port (some pa) ((m1.out 3).mv i 4) ad2) (cI .u8) ⟨some a, xs.length, xs.length⟩ xs := by
            have := Port.rdb (p := some pa) (m := (m1.out 3).mv i 4) (k := xs.length) (c := xs.length) ha q5'.2.2.2.2 (by rw [q5'.2.1, qs.1]; omega)
            have e : (m1.dat.getD i []).take xs.length = xs := by
              have := qd
              unfold con at this
              rwa [ql, Int.toNat_natCast] at this
            rwa [e] at this
          refine WP.step (alike_wp s 0 rfl rw1 2 rfl rdS_rdb hby hby) ?_
          rintro _ w ⟨rfl, s⟩
          exact WP.ret ⟨by simp, s⟩
        rintro _ w ⟨rfl, s⟩
        have es : ((m1.out 3).mv i 4).send i (xs.length : Int) = ((((m1.out 3).mv i 4).setl i xs.length).mv i 5, 0) := by
          have hh := held0 (m := (m1.out 3).mv i 4) ok2 (by
            show (m1.place.set i ((4 : Nat) : Int))[i]? = _
            rw [List.getElem?_set_self (by rw [ok1.pl, qs.2.2.2]; exact hi)]
            rfl)
          have eL : ((m1.out 3).mv i 4).L 5 = [] := by simp [RM.mv, RM.out, q5]
          unfold RM.send
          rw [if_neg (by
            show ¬ ((i : Int) < 0 ∨ (i : Int) ≥ (m1.n : Nat) ∨ (xs.length : Int) < 0 ∨ (xs.length : Int) > (m1.size : Nat))
            rw [qs.1, qs.2.2.2]
            omega), if_neg (by rw [hh]; decide), eL, if_neg (by show ¬ (0 = m1.tx); rw [qs.2.2.1]; decide)]
          rfl
        refine WP.step (R := fun y w' => y = false ∧ Ss W (Port (some pa) ((((m1.out 3).mv i 4).setl i xs.length).mv i 5) ad2 :: DeskP (some (pt b6 0)) room' (xs.length : Int) :: rdS (cI .u8) false b xs :: [BookP (some (pt b7 0)) xss, rdS cL false u0 fs]) w') (WP.ite (fun h => by cases h) (fun _ => WP.step (Send_wp s _ _) ?_)) ?_
        · rw [es]
          rintro _ w ⟨rfl, s⟩
          refine WP.step (num_wp _) ?_
          rintro _ _ ⟨rfl, rfl⟩
          exact WP.ret ⟨rfl, s⟩
        rintro _ w ⟨rfl, s⟩
        refine WP.ite (fun h => by cases h) (fun _ => WP.step (Drain_wp s) ?_)
        intro r w h
        have e5 : ((((m1.out 3).mv i 4).setl i xs.length).mv i 5).L 5 = [i] := by simp [RM.mv, RM.out, RM.setl, q5]
        rw [e5] at h
        obtain ⟨ad3, hr2, hext3, s⟩ := h
        have ec : con ((((m1.out 3).mv i 4).setl i xs.length).mv i 5) i = xs := by
          have hd : ((((m1.out 3).mv i 4).setl i (xs.length : Int)).mv i 5).dat = m1.dat := rfl
          have hlen2 : ((((m1.out 3).mv i 4).setl i (xs.length : Int)).mv i 5).len.getD i 0 = (xs.length : Int) := by
            show (m1.len.set i (xs.length : Int)).getD i 0 = _
            exact getD_set_self (by rw [ok1.ll, qs.2.2.2]; exact hi)
          have := qd
          unfold con at this ⊢
          rw [hlen2, hd]
          rwa [ql] at this
        have s : Ss W (fullB r.1 xs :: Port (some pa) ((((((m1.out 3).mv i 4).setl i xs.length).mv i 5).out 5).mv i 1) ad3 :: DeskP (some (pt b6 0)) room' (xs.length : Int) :: rdS (cI .u8) false b xs :: [BookP (some (pt b7 0)) xss, rdS cL false u0 fs]) w := by
          unfold con at ec
          rw [ec] at s
          exact s
        refine WP.step (R := fun y w' => y = false ∧ Ss W (fullB r.1 xs :: Port (some pa) ((((((m1.out 3).mv i 4).setl i xs.length).mv i 5).out 5).mv i 1) ad3 :: DeskP (some (pt b6 0)) room' (xs.length : Int) :: rdS (cI .u8) false b xs :: [BookP (some (pt b7 0)) xss, rdS cL false u0 fs]) w') (WP.ite (fun h => absurd hr2 h) (fun _ => WP.step (alike_wp s 0 rfl vec_rdb 3 rfl rdS_rdb hby hby) ?_)) ?_
        · rintro _ w ⟨rfl, s⟩
          exact WP.ret ⟨by simp, s⟩
        rintro _ w ⟨rfl, s⟩
        refine WP.ite (fun h => by cases h) (fun _ => ?_)
        have s : Ss W (fullB r.1 xs :: BookP (some (pt b7 0)) xss :: Port (some pa) ((((((m1.out 3).mv i 4).setl i xs.length).mv i 5).out 5).mv i 1) ad3 :: DeskP (some (pt b6 0)) room' (xs.length : Int) :: rdS (cI .u8) false b xs :: [rdS cL false u0 fs]) w := s.use [0, 3] rfl
        refine WP.step (bk_keep s ⟨hby, by omega⟩ (by omega)) ?_
        intro _ w s
        refine WP.step (bk_untouched s (by simp; omega)) ?_
        rintro _ w ⟨rfl, s⟩
        have hm2 : RA ((((((m1.out 3).mv i 4).setl i xs.length).mv i 5).out 5).mv i 1) := by
          have h1 := hm.all
          have h2 := hm.p2
          rw [hL] at h1 h2
          simp only [List.length_cons] at h1 h2
          refine ⟨qs.1, qs.2.1, qs.2.2.1, ?_, ?_, ?_, ?_⟩
          · simp [RM.mv, RM.out, RM.setl, q3]
          · simp [RM.mv, RM.out, RM.setl, q5]
          · simp [RM.mv, RM.out, RM.setl, q1, q2]
            omega
          · simp [RM.mv, RM.out, RM.setl, q2]
            omega
        exact WP.ite (fun h => absurd rfl h) (fun _ => nx hm2 (by omega) (by simp; omega) (((s.use [3] rfl).drop).use [1, 1] rfl))
    · refine WP.step (bk_settle (s.use [2] rfl) (by omega)) ?_
      rintro _ w ⟨rfl, s⟩
      exact WP.done ⟨rfl, s.below⟩
  obtain ⟨r, W', h1, rfl, h2⟩ := main
  exact ⟨W', h1, h2⟩
end Go.Proofs.Ytoddkagehbcfjaa.Lx
