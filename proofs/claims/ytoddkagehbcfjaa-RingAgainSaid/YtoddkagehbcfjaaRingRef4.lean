/- The document's new port, its counts, its bytes; a byte written. -/
import Derived.Test.YtoddkagehbcfjaaRingRef3
set_option linter.unusedVariables false
set_option linter.unusedSimpArgs false
namespace Go.Proofs.Ytoddkagehbcfjaa.Lx
open Go Go.Proofs Go.RowKit

section
variable {W w : World} {R : List HP} {r : weirref3_Port} {m : RM} {T : Nat} {bufs : List weirref3_Buf} {ds : List (List Int)}
theorem R_Bytes (s : Ss W (RefP r m T :: R) w) (ok : m.Ok) {i n : Nat} (hi : i < m.n) (hn : n ≤ m.size) : WP (weirref3_Bytes r (i : Int) (n : Int)) w (fun x w' => ∃ sp, Ss W (RefP r m T :: vec (cI .u8) x ((m.dat.getD i []).take n) sp :: R) w') := by
  obtain ⟨bufs, ds, ro, s⟩ := s.openF
  obtain ⟨b, d, hb, hd, hp, hl, hdat, hdl, _, _⟩ := ro.get hi
  have hs1 := ok.s1
  refine (Bytes_wp s 0 rfl hb 1 rfl (zip_rdb hb hd) (n := n) (by omega)).mono ?_
  rintro x w ⟨sp, s⟩
  refine ⟨sp, ?_⟩
  rw [List.getD, hdat]
  show Ss W (RefP r m T :: vec (cI .u8) x ((pad m.size d).take n) sp :: R) w
  rw [pad_take d hn]
  exact (s.use [1, 1] rfl).closeF ro
theorem R_Places (s : Ss W (RefP r m T :: R) w) (ok : m.Ok) : WP (weirref3_Places r) w (fun x w' => ∃ sp, Ss W (RefP r m T :: vec (cI .i64) x m.place sp :: R) w') := by
  obtain ⟨bufs, ds, ro, s⟩ := s.openF
  refine (Ref.Places_wp s 0 rfl (ro.nlt ok)).mono ?_
  rintro x w ⟨sp, s⟩
  rw [ro.place] at s
  exact ⟨sp, (s.use [1, 1] rfl).closeF ro⟩
theorem R_Stat (s : Ss W (RefP r m T :: R) w) (ok : m.Ok) : WP (weirref3_Stat r) w (fun x w' => x = statOf m.place ∧ Ss W (RefP r m T :: R) w') := by
  unfold weirref3_Stat
  refine WP.slot' s (fun _ w s => WP.slot' s (fun _ w s => WP.draw' s (fun w s => ?_)))
  obtain ⟨bufs, ds, ro, s⟩ := s.openF
  refine WP.step (count_wp s 0 rfl (ro.nlt ok) 1) ?_
  rintro _ w ⟨rfl, s⟩
  refine WP.step (count_wp s 0 rfl (ro.nlt ok) 2) ?_
  rintro _ w ⟨rfl, s⟩
  refine WP.step (count_wp s 0 rfl (ro.nlt ok) 3) ?_
  rintro _ w ⟨rfl, s⟩
  refine WP.step (count_wp s 0 rfl (ro.nlt ok) 4) ?_
  rintro _ w ⟨rfl, s⟩
  refine WP.step (count_wp s 0 rfl (ro.nlt ok) 5) ?_
  rintro _ w ⟨rfl, s⟩
  rw [ro.place]
  exact WP.ret ⟨rfl, s.closeF ro⟩
theorem R_Write (s : Ss W (RefP r m T :: R) w) (ok : m.Ok) {i k : Nat} (hi : i < m.n) (hk : k < m.size) (x : Int) : WP (weirref3_Write r (i : Int) (k : Int) x) w (fun r' w' => Ss W (RefP r' (m.setd i ((m.dat.getD i []).set k x)) T :: R) w') := by
  unfold weirref3_Write
  refine WP.slot' s (fun _ w s => WP.slot' s (fun _ w s => ?_))
  obtain ⟨bufs, ds, ro, s⟩ := s.openF
  obtain ⟨b, d, hb, hd, hp, hl, hdat, hdl, _, _⟩ := ro.get hi
  have hs1 := ok.s1
  have hbd := (s.rd_len (i := 1) rfl (zip_rdb hb hd)).1
  have key : ∀ (q : Nat) (w : World), d.length ≤ q → k < q → q ≤ m.size → Ss W (rdS cRB false r.L bufs :: seps (zipH bd bufs ds) :: R) w → WP (weirref3_Write.K1 r (i : Int) (k : Int) x b (q : Int)) w (fun r' w' => Ss W (RefP r' (m.setd i ((m.dat.getD i []).set k x)) T :: R) w') := by
    intro q w h1 h2 h3 s
    unfold weirref3_Write.K1
    refine WP.step (Bytes_wp s 0 rfl hb 1 rfl (zip_rdb hb hd) (n := q) (by omega)) ?_
    rintro D w ⟨sp, s⟩
    refine WP.stx s 0 rfl (by omega) (by rw [pad_len]; omega) rfl (fun w s => ?_)
    rw [Int.toNat_natCast] at s
    have s := (Ss.vec_freeze s).use [1, 1] rfl
    refine WP.step (R_putd s ro ok b.N hb hd 0 rfl (by rw [List.length_set, pad_len]; exact h3) (pad_set h1 h2 h3).symm) ?_
    rintro r2 w ⟨bufs2, ds2, ro2, s⟩
    have e : (m.setd i ((pad m.size d).set k x)).setl i b.N = m.setd i ((m.dat.getD i []).set k x) := by
      rw [List.getD, hdat]
      show ({ m.setd i ((pad m.size d).set k x) with len := m.len.set i b.N } : RM) = _
      rw [set_eq hl]
      rfl
    rw [e] at ro2
    exact WP.ret (((s.closeF ro2).use [1] rfl).drop)
  refine WP.rdx s 0 rfl rdS_rdb (by omega) (x := b) (by rw [Int.toNat_natCast]; exact hb) rfl (WP.slot' s (fun _ w s => ?_))
  rw [hbd, wrap_i64 (by omega) (by omega)]
  refine WP.ite (fun h => ?_) (fun h => ?_)
  · exact key (k + 1) w (by omega) (by omega) (by omega) s
  · exact key d.length w (Nat.le_refl _) (by omega) hdl s
def newB (k : Nat) : List weirref3_Buf := (List.range k).map (fun (i : Nat) => (⟨1, (i : Int), 0, Sl.nil⟩ : weirref3_Buf))
theorem newB_len (k : Nat) : (newB k).length = k := by unfold newB; simp
theorem newB_get {k i : Nat} (h : i < k) : (newB k)[i]? = some ⟨1, (i : Int), 0, Sl.nil⟩ := by
  unfold newB
  rw [List.getElem?_map, List.getElem?_range h]
  rfl
theorem newB_succ (k : Nat) : newB (k + 1) = newB k ++ [⟨1, (k : Int), 0, Sl.nil⟩] := by unfold newB; simp [List.range_succ]
theorem R_New (s : Ss W R w) (rx tx pool size : Int) : WP (weirref3_New rx tx pool size) w (fun x w' => (newE rx tx pool size = true → x = (z_weirref3_Port, 1) ∧ Ss W R w') ∧ (newE rx tx pool size = false → x.2 = 0 ∧ Ss W (RefP x.1 (newM rx.toNat tx.toNat pool.toNat size.toNat) 8192 :: R) w')) := by
  unfold weirref3_New
  refine WP.slot' s (fun _ w s => ?_)
  have st : ∀ {a : Prop} [Decidable a] {n lo hi : Int} {β : Type} {f : Bool → M β} {Q : β → World → Prop} {w : World} {y : Bool}, y = decide a → WP (f (decide (a ∨ (n < lo ∨ n > hi)))) w Q → WP ((if y = true then pure true else weirref3_out n lo hi >>= fun r => pure r : M Bool) >>= f) w Q := by
    intro a _ n lo hi β f Q w y hy h
    subst hy
    refine WP.step (R := fun z w' => z = decide (a ∨ (n < lo ∨ n > hi)) ∧ w = w') (WP.ite (fun h => WP.ret ⟨by have := of_decide_eq_true h; simp [this], rfl⟩) (fun h => WP.step (out_wp _ _ _) ?_)) ?_
    · rintro _ _ ⟨rfl, rfl⟩
      have h' : ¬ a := fun hx => h (decide_eq_true hx)
      exact WP.ret ⟨by simp [h'], rfl⟩
    rintro _ _ ⟨rfl, rfl⟩
    exact h
  refine WP.step (out_wp _ _ _) ?_
  rintro _ _ ⟨rfl, rfl⟩
  refine st rfl (st rfl (st rfl ?_))
  have hE : newE rx tx pool size = decide (((((rx < 1 ∨ rx > 4096) ∨ (tx < 1 ∨ tx > 4096)) ∨ (pool < 1 ∨ pool > 8192)) ∨ (size < 64 ∨ size > 65535))) := by
    unfold newE
    refine decide_eq_decide.2 ?_
    omega
  rw [← hE]
  refine WP.ite (fun h => WP.ret ⟨fun _ => ⟨rfl, s⟩, fun h' => by rw [h] at h'; cases h'⟩) (fun h => ?_)
  have hF : newE rx tx pool size = false := by simpa using h
  have hb : ¬ (rx < 1 ∨ rx > 4096 ∨ tx < 1 ∨ tx > 4096 ∨ pool < 1 ∨ pool > 8192 ∨ size < 64 ∨ size > 65535) := by
    unfold newE at hF
    rwa [decide_eq_false_iff_not] at hF
  rw [hF]
  obtain ⟨rx, rfl⟩ : ∃ n : Nat, rx = n := ⟨rx.toNat, by omega⟩
  obtain ⟨tx, rfl⟩ : ∃ n : Nat, tx = n := ⟨tx.toNat, by omega⟩
  obtain ⟨pool, rfl⟩ : ∃ n : Nat, pool = n := ⟨pool.toNat, by omega⟩
  obtain ⟨size, rfl⟩ : ∃ n : Nat, size = n := ⟨size.toNat, by omega⟩
  simp only [Int.toNat_natCast]
  refine WP.slot' s (fun _ w s => ?_)
  refine WP.loop (fun (x : Int × weirref3_Port) w' => 0 ≤ x.1 ∧ x.1 ≤ pool ∧ ∃ sl sp, x.2 = ⟨rx, tx, size, sl, 0⟩ ∧ Ss W (vec cRB sl (newB x.1.toNat) sp :: R) w') (fun x _ => ((pool : Int) - x.1).toNat) ⟨by simp, by simp, Sl.nil, [], rfl, s.mk0 vec_nil⟩ ?_
  clear s
  rintro ⟨k, q⟩ w ⟨k0, k1, sl, sp, hq, s⟩
  simp only at k0 k1 hq s
  subst hq
  show WP (weirref3_New.L1 (pool : Int) k _) w _
  unfold weirref3_New.L1
  refine WP.ite (fun hk => WP.slot' s (fun _ w s => ?_)) (fun hk => WP.done ⟨(fun h => by cases h), fun _ => ⟨rfl, ?_⟩⟩)
  · obtain ⟨k, rfl⟩ : ∃ n : Nat, k = n := ⟨k.toNat, by omega⟩
    rw [Int.toNat_natCast] at s
    refine WP.appl s 0 rfl (by rw [newB_len]; simp only [List.length_cons, List.length_nil]; omega) (by decide) (fun r w sp' s => WP.next ?_)
    rw [wrap_i64 (by omega) (by omega)]
    refine ⟨⟨by simp only; omega, by simp only; omega, r, sp', rfl, ?_⟩, by simp only; omega⟩
    show Ss W (vec cRB r (newB ((k : Int) + 1).toNat) sp' :: R) w
    rw [show ((k : Int) + 1).toNat = k + 1 by omega, newB_succ]
    exact s
  · have : k.toNat = pool := by omega
    rw [this] at s
    have s := Ss.vec_freeze s
    have hz : ∀ bs : List weirref3_Buf, (∀ b ∈ bs, b.Data = Sl.nil) → seps (zipH bd bs (List.replicate bs.length [])) PH.nil := by
      intro bs
      induction bs with
      | nil => intro _; trivial
      | cons b bs ih =>
        intro h
        refine ⟨PH.nil, PH.nil, fun _ _ _ _ h => (by cases h), fun _ _ _ h => h, fun _ _ _ h => h, ?_, ih (fun x hx => h x (List.mem_cons_of_mem _ hx))⟩
        show rdB b.Data [] PH.nil
        rw [h b (by simp)]
        exact rd0
    have s := (s.mk0 (hz (newB pool) (fun b hb => by unfold newB at hb; simp at hb; obtain ⟨_, _, rfl⟩ := hb; rfl))).use [1] rfl
    rw [newB_len] at s
    refine Ss.closeF (r := ⟨rx, tx, size, sl, pool⟩) s ⟨rfl, rfl, rfl, ?_, ?_, ?_, ?_, ?_, ?_, ?_, ?_, ?_, ?_⟩
    · rw [newB_len]
      show pool = (List.replicate pool _).length
      simp
    · show (List.replicate pool _).length = (List.replicate pool _).length
      simp
    · show (newB pool).map _ = List.replicate pool 1
      refine List.eq_replicate_iff.2 ⟨by rw [List.length_map, newB_len], fun x hx => ?_⟩
      unfold newB at hx
      simp at hx
      exact hx.2.symm
    · show (newB pool).map _ = List.replicate pool 0
      refine List.eq_replicate_iff.2 ⟨by rw [List.length_map, newB_len], fun x hx => ?_⟩
      unfold newB at hx
      simp at hx
      exact hx.2.symm
    · intro d hd
      rw [List.eq_of_mem_replicate hd]
      simp
    · intro i d hd
      have hi := (List.getElem?_eq_some_iff.1 hd).1
      rw [List.length_replicate] at hi
      rw [List.eq_of_mem_replicate (List.mem_of_getElem? hd)]
      show (List.replicate pool (List.replicate size (0 : Int)))[i]? = some (pad size [])
      rw [List.getElem?_replicate, if_pos hi, pad_nil]
    · intro j hj
      show (if j = 1 then List.range pool else []).Pairwise _
      split
      · refine List.pairwise_lt_range.imp_of_mem (fun {x y} hx hy hxy => ?_)
        rw [List.mem_range] at hx hy
        have e : ∀ z, z < pool → sinceOf (newB pool) z = z := fun z hz => by
          unfold sinceOf
          rw [List.getD, List.getElem?_map, newB_get hz]
          rfl
        rw [e x hx, e y hy]
        omega
      · exact List.Pairwise.nil
    · intro b hb
      unfold newB at hb
      simp at hb
      obtain ⟨i, hi, rfl⟩ := hb
      show (i : Int) < pool
      omega
    · show (0 : Int) ≤ pool
      omega
    · show (pool : Int) ≤ 8192
      omega
end
end Go.Proofs.Ytoddkagehbcfjaa.Lx
