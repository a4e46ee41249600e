/- The law RingClean, of its program in the M-world: a window that Take answers holds zeros alone, as long as the buffer: it answers true, and nothing that was there is turned. -/
import Derived.Test.YtoddkagehbcfjaaRingSaid
import Derived.Test.YtoddkagehbcfjaaLxQ
set_option linter.unusedVariables false
set_option linter.unusedSimpArgs false
namespace Go.Proofs.Ytoddkagehbcfjaa.Lx
open Go Go.Proofs Go.RowKit

theorem held0 {m : RM} {i : Nat} (ok : m.Ok) (h : m.place[i]? = some 4) : m.heldE i = 0 := by
  have := (List.getElem?_eq_some_iff.1 h).1
  rw [ok.pl] at this
  unfold RM.heldE
  rw [if_neg (by omega), Int.toNat_natCast, List.getD, h]
  rfl
theorem took {m : RM} {i : Nat} (k : Nat) (hi : i < m.place.length) : ((m.out k).mv i 4).place[i]? = some 4 := by
  show (m.place.set i ((4 : Nat) : Int))[i]? = _
  rw [List.getElem?_set_self hi]
  rfl
theorem WP.stwin {β : Type} {W w : World} {R : List HP} {p : Option Addr} {ad : List (Option Addr)} {m : RM} {i n : Nat} {a : Addr} {d : List Int} {k v : Int} {f : Unit → M β} {Q : β → World → Prop} (s : Ss W (Port p m ad :: R) w) (ha : ad[i]? = some (some a)) (hd : m.dat[i]? = some d) (k0 : 0 ≤ k) (k1 : k < n) (hn : n ≤ d.length) (hv : 0 ≤ v ∧ v ≤ 255)
    (g : ∀ w', Ss W (Port p (m.setd i (d.set k.toNat v)) ad :: R) w' → WP (f ()) w' Q) : WP (Lx.idx (some a) n k 1 >>= fun p => Lx.st (cI .u8) p v >>= f) w Q := by
  obtain ⟨pa, P, rfl, po, ok, s⟩ := s.openR
  have hdd := ok.d _ (List.mem_of_getElem? hd)
  have s1 := buf_out s ha hd
  refine WP.idx k0 k1 ?_
  refine WP.st s1 0 rfl rfl (upd_r (c := cI .u8) v (by omega)) (fun w s => g w ?_)
  have s := buf_back (d' := d.set k.toNat v) ha hd s
  refine Ss.closeR s rfl ⟨po.size, po.rx, po.tx, by rw [setd_n]; exact po.ad⟩ (ok.setd ⟨by rw [List.length_set]; exact hdd.1, fun x hx => ?_⟩)
  rcases List.mem_or_eq_of_mem_set hx with hx | rfl
  · exact hdd.2 x hx
  · exact hv
theorem RingClean_true : ∀ (W : World) (u0 : Int) (u1 : Int) (u2 : Int) (u3 : Int) (u4 : Sl) (u5 : Int), ((Lit.int .i64 u0).wf = true) → ((Lit.int .i64 u1).wf = true) → ((Lit.int .i64 u2).wf = true) → ((Lit.int .i64 u3).wf = true) → (GSl c_weirlaw3_Op (Try.prog.bytesOf 45) (fun W u => G45 W u) W u4) → ((Lit.int .u8 u5).wf = true) → ∃ W', weirlaw3_RingClean u0 u1 u2 u3 u4 u5 W = some (true, W') ∧ Below W.heap.size W W' := by
  intro W u0 u1 u2 u3 u4 u5 _ _ _ _ g4 g5
  have b45 : Try.prog.bytesOf 45 = 56 := by kernel_rfl
  have hr : reachBytes = 140737488351232 := rfl
  have hc := byte_wf g5
  obtain ⟨os, ho, hb, s⟩ := (Ss.start W).args g4 (by decide)
  rw [b45, hr] at hb
  have main : WP (weirlaw3_RingClean u0 u1 u2 u3 u4 u5) W (fun r W' => r = true ∧ Below W.heap.size W W') := by
    unfold weirlaw3_RingClean weirlaw3_num
    refine WP.step (port_wp s u0 u1 u2 u3) ?_
    rintro _ w ⟨pa, rx, tx, pool, size, rfl, hE, _, s⟩
    have ok0 := newM_ok hE
    refine WP.ite (fun h => by cases h) (fun _ => WP.step (Take_wp s) ?_)
    have hL0 : (newM rx tx pool size).L 1 = List.range pool := rfl
    have hpool : 1 ≤ pool := by have := ok0.n0; unfold newM RM.n at this; simpa using this
    intro r w h
    cases hL : (newM rx tx pool size).L 1 with
    | nil => rw [hL0] at hL; have := congrArg List.length hL; simp at this; omega
    | cons i t =>
      rw [hL] at h
      obtain ⟨a, ad', rfl, ha, hext, s⟩ := h
      have hi := ok0.lt (k := 1) (.inl rfl) (by rw [hL]; simp : i ∈ (newM rx tx pool size).L 1)
      have ok1 := s.okR
      have hh := held0 (m := ((((newM rx tx pool size).out 1).mv i 4).setd i (List.replicate (newM rx tx pool size).size 0))) ok1 (took 1 (by rw [ok0.pl]; exact hi))
      refine WP.step (R := fun y w' => y = (0 : Int) ∧ w = w') (WP.ret ⟨rfl, rfl⟩) ?_
      rintro _ _ ⟨rfl, rfl⟩
      refine WP.step (R := fun y w' => y = false ∧ w = w') (WP.ite (fun h => absurd rfl h) (fun _ => WP.ret ⟨by simp [newM], rfl⟩)) ?_
      rintro _ _ ⟨rfl, rfl⟩
      refine WP.step (R := fun y w' => y = false ∧ ∃ m, Same (newM rx tx pool size) m ∧ Ss W [Port (some pa) m ad', rdS c_weirlaw3_Op false u4 os] w') (WP.ite (fun h => by cases h) (fun _ => WP.step (Release_wp s _) ?_)) ?_
      · rintro _ w ⟨rfl, s⟩
        have e : (((((newM rx tx pool size).out 1).mv i 4).setd i (List.replicate (newM rx tx pool size).size 0)).release i).2 = 0 := by unfold RM.release; rw [if_neg (by rw [hh]; decide)]
        refine WP.step (R := fun y w' => y = (0 : Int) ∧ w = w') (WP.ret ⟨e, rfl⟩) ?_
        rintro _ _ ⟨rfl, rfl⟩
        refine WP.ret ⟨rfl, _, ?_, s⟩
        exact Same.trans (b := ((((newM rx tx pool size).out 1).mv i 4).setd i (List.replicate (newM rx tx pool size).size 0))) ⟨rfl, rfl, rfl, setd_n _ _ _⟩ (release_same _ _).1
      rintro _ w ⟨rfl, m, hm, s⟩
      refine WP.ite (fun h => by cases h) (fun _ => ?_)
      have hlo := (s.rd_len (i := 1) rfl rdS_rdb).1
      refine WP.loop (fun (k : Int) w' => 0 ≤ k ∧ k ≤ os.length ∧ ∃ m ad, Same (newM rx tx pool size) m ∧ Ss W [Port (some pa) m ad, rdS c_weirlaw3_Op false u4 os] w') (fun k _ => ((os.length : Int) - k).toNat) ⟨by omega, by omega, m, _, hm, s⟩ ?_
      clear s hm m hh ok1 hi hext ha hL
      rintro k w ⟨k0, k1, m, ad, hm, s⟩
      unfold weirlaw3_RingClean.L1
      refine WP.ite (fun hk => ?_) (fun hk => WP.done ⟨rfl, s.below⟩)
      rw [hlo] at hk
      have hkl : k.toNat < os.length := by omega
      have hx := List.getElem?_eq_getElem hkl
      generalize os[k.toNat] = o at hx
      have ho' := ho o (List.mem_of_getElem? hx)
      have ok := s.okR
      have hsz : m.size = size := hm.1
      have nx : ∀ {w : World} (m' : RM) (ad' : List (Option Addr)), Same (newM rx tx pool size) m' → Ss W [Port (some pa) m' ad', rdS c_weirlaw3_Op false u4 os] w → WP (pure (LS.next (IntKind.wrap .i64 (k + 1))) : M (LS Int Bool)) w (WP.Rd (fun (k' : Int) w' => (0 ≤ k' ∧ k' ≤ os.length ∧ ∃ m ad, Same (newM rx tx pool size) m ∧ Ss W [Port (some pa) m ad, rdS c_weirlaw3_Op false u4 os] w') ∧ ((os.length : Int) - k').toNat < ((os.length : Int) - k).toNat) (fun r w' => r = true ∧ Below W.heap.size W w')) := by
        intro w m' ad' hm' s
        refine WP.next ?_
        rw [wrap_i64 (by omega) (by omega)]
        exact ⟨⟨by omega, by omega, m', ad', hm', s⟩, by omega⟩
      refine WP.rdx s 1 rfl rdS_rdb k0 hx rfl (WP.slot' s (fun _ w s => ?_))
      refine WP.ite (fun _ => WP.step (do_wp s o ho'.2.2.2.2) ?_) (fun _ => WP.step (Take_wp s) ?_)
      · rintro er w ⟨m', ad', hs', _, _, _, s⟩
        exact nx m' ad' (hm.trans hs') s
      intro r w h
      cases hL : m.L 1 with
      | nil =>
        rw [hL] at h
        obtain ⟨rfl, s⟩ := h
        unfold weirlaw3_num
        refine WP.step (R := fun y w' => y = (33 : Int) ∧ w = w') (WP.ret ⟨rfl, rfl⟩) ?_
        rintro _ _ ⟨rfl, rfl⟩
        refine WP.ite (fun _ => WP.step (Stat_wp s) ?_) (fun h => absurd (by decide) h)
        rintro _ w ⟨rfl, s⟩
        have hc1 := ok.count (k := 1) (.inl rfl)
        rw [hL] at hc1
        refine WP.ite (fun h => absurd ?_ h) (fun _ => nx m ad hm s)
        show (((m.place.count ((1 : Nat) : Int) : Nat) : Int)) = 0
        rw [hc1]
        rfl
      | cons i t =>
        rw [hL] at h
        obtain ⟨a, ad', rfl, ha, hext, s⟩ := h
        have hi := ok.lt (k := 1) (.inl rfl) (by rw [hL]; simp : i ∈ m.L 1)
        unfold weirlaw3_num
        refine WP.step (R := fun y w' => y = (0 : Int) ∧ w = w') (WP.ret ⟨rfl, rfl⟩) ?_
        rintro _ _ ⟨rfl, rfl⟩
        refine WP.ite (fun h => absurd rfl h) (fun _ => WP.ite (fun h => absurd (by simp only [hsz]) h) (fun _ => ?_))
        let mm : List Int → RM := fun d => ((m.out 1).mv i 4).setd i d
        have hset : ∀ d, (mm d).dat[i]? = some d := fun d => by show (m.dat.set i d)[i]? = _; exact List.getElem?_set_self hi
        rw [hsz] at s ⊢
        refine WP.loop (fun (j : Int) w' => 0 ≤ j ∧ j ≤ size ∧ Ss W [Port (some pa) (mm (List.replicate j.toNat u5 ++ List.replicate (size - j.toNat) 0)) ad', rdS c_weirlaw3_Op false u4 os] w') (fun j _ => ((size : Int) - j).toNat) ⟨by omega, by omega, s⟩ ?_
        clear s
        rintro j w ⟨j0, j1, s⟩
        unfold weirlaw3_RingClean.L2
        refine WP.ite (fun hj => ?_) (fun hj => ?_)
        · obtain ⟨j, rfl⟩ : ∃ n : Nat, j = n := ⟨j.toNat, by omega⟩
          simp only [Int.toNat_natCast] at s hj ⊢
          have hdl : (List.replicate j u5 ++ List.replicate (size - j) (0 : Int)).length = size := by simp; omega
          have hjx : (List.replicate j u5 ++ List.replicate (size - j) (0 : Int))[j]? = some 0 := by
            rw [List.getElem?_append_right (by simp), List.length_replicate, Nat.sub_self, List.getElem?_replicate, if_pos (by omega)]
          have hrd : Rdb (Port (some pa) (mm (List.replicate j u5 ++ List.replicate (size - j) 0)) ad') (cI .u8) ⟨some a, size, size⟩ (List.replicate j u5 ++ List.replicate (size - j) 0) := by
            have := Port.rdb (p := some pa) (m := mm (List.replicate j u5 ++ List.replicate (size - j) 0)) (k := size) (c := size) ha (hset _) (by omega)
            rwa [List.take_of_length_le (by omega)] at this
          refine WP.rdx s 0 rfl hrd j0 (x := 0) (by rw [Int.toNat_natCast]; exact hjx) rfl ?_
          refine WP.ite (fun h => absurd rfl h) (fun _ => ?_)
          refine WP.stwin s ha (hset _) j0 hj (by omega) hc (fun w s => WP.next ?_)
          rw [wrap_i64 (by omega) (by have := ok.s1; omega)]
          refine ⟨⟨by omega, by omega, ?_⟩, by omega⟩
          have e : (mm (List.replicate j u5 ++ List.replicate (size - j) 0)).setd i ((List.replicate j u5 ++ List.replicate (size - j) (0 : Int)).set j u5) = mm (List.replicate (j + 1) u5 ++ List.replicate (size - (j + 1)) 0) := by
            rw [list_replicate_set (by omega)]
            show ({ mm _ with dat := (m.dat.set i _).set i _ } : RM) = _
            rw [List.set_set]
            rfl
          rw [Int.toNat_natCast] at s
          rw [e] at s
          rw [show ((j : Int) + 1).toNat = j + 1 by omega]
          exact s
        · have hj : ¬ (j < (size : Int)) := hj
          have hj' : j.toNat = size := by omega
          rw [hj', Nat.sub_self, List.replicate_zero, List.append_nil] at s
          have okm := s.okR
          have hm' : Same (newM rx tx pool size) (mm (List.replicate size u5)) := hm.trans ⟨rfl, rfl, rfl, setd_n _ _ _⟩
          refine WP.step (R := fun r w' => WP.Rd (fun (k' : Int) w' => (0 ≤ k' ∧ k' ≤ os.length ∧ ∃ m ad, Same (newM rx tx pool size) m ∧ Ss W [Port (some pa) m ad, rdS c_weirlaw3_Op false u4 os] w') ∧ ((os.length : Int) - k').toNat < ((os.length : Int) - k).toNat) (fun r w' => r = true ∧ Below W.heap.size W w') r w') ?_ (fun r w h => WP.done h)
          unfold weirlaw3_RingClean.K1 weirlaw3_num
          have hh := held0 (m := mm (List.replicate size u5)) okm (took 1 (by rw [ok.pl]; exact hi))
          refine WP.step (R := fun y w' => y = false ∧ ∃ m, Same (newM rx tx pool size) m ∧ Ss W [Port (some pa) m ad', rdS c_weirlaw3_Op false u4 os] w') (WP.ite (fun _ => WP.step (Release_wp s _) ?_) (fun _ => WP.ret ⟨rfl, _, hm', s⟩)) ?_
          · rintro _ w ⟨rfl, s⟩
            have e : ((mm (List.replicate size u5)).release i).2 = 0 := by unfold RM.release; rw [if_neg (by rw [hh]; decide)]
            refine WP.step (R := fun y w' => y = (0 : Int) ∧ w = w') (WP.ret ⟨e, rfl⟩) ?_
            rintro _ _ ⟨rfl, rfl⟩
            exact WP.ret ⟨rfl, _, hm'.trans (release_same _ _).1, s⟩
          rintro _ w ⟨rfl, m', hm'', s⟩
          exact WP.ite (fun h => by cases h) (fun _ => nx m' ad' hm'' s)
  obtain ⟨r, W', h1, rfl, h2⟩ := main
  exact ⟨W', h1, h2⟩
end Go.Proofs.Ytoddkagehbcfjaa.Lx
