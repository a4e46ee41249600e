/- The outright ring laws' helpers, of their programs in the M-world: a port of those numbers or a small one; a step on it; bytes alike. -/
import Derived.Test.YtoddkagehbcfjaaRingOps2
set_option linter.unusedVariables false
set_option linter.unusedSimpArgs false
namespace Go.Proofs.Ytoddkagehbcfjaa.Lx
open Go Go.Proofs Go.RowKit

theorem byte_wf {u : Int} (h : (Lit.int .u8 u).wf = true) : 0 ≤ u ∧ u ≤ 255 := by
  simpa [Lit.wf, IntKind.min, IntKind.max, IntKind.bits, IntKind.signed] using h
theorem i64_wf {u : Int} (h : (Lit.int .i64 u).wf = true) : -9223372036854775808 ≤ u ∧ u ≤ 9223372036854775807 := by
  simpa [Lit.wf, IntKind.min, IntKind.max, IntKind.bits, IntKind.signed] using h
def Bytes (xs : List Int) : Prop := ∀ x ∈ xs, 0 ≤ x ∧ x ≤ 255
/-- the same sizes -/
def Same (m m' : RM) : Prop := m'.size = m.size ∧ m'.rx = m.rx ∧ m'.tx = m.tx ∧ m'.n = m.n
theorem Same.refl (m : RM) : Same m m := ⟨rfl, rfl, rfl, rfl⟩
theorem Same.trans {a b c : RM} (h : Same a b) (k : Same b c) : Same a c := ⟨k.1.trans h.1, k.2.1.trans h.2.1, k.2.2.1.trans h.2.2.1, k.2.2.2.trans h.2.2.2⟩
section
variable {W w : World} {R Hs : List HP} {p : Option Addr} {ad : List (Option Addr)} {m : RM}
theorem refs_same (m : RM) : ∀ k, k ≤ (m.L 1).length → Same m (m.refs k) := fun k h => by
  obtain ⟨h1, h2, h3, h4, h5, h6, h7, h8, h9⟩ := RM.refs_spec (m := m) k h
  exact ⟨h7, h5, h6, by unfold RM.n; rw [h8]⟩
theorem setd_n (m : RM) (i : Nat) (d : List Int) : (m.setd i d).n = m.n := by unfold RM.setd RM.n; simp
theorem arrive_same (m : RM) (xs : List Int) : Same m (m.arrive xs).1 ∧ ((m.arrive xs).2 ≠ 0 → (m.arrive xs).1 = m) ∧ ∃ i x, (m.arrive xs).1.place = m.place.set i x := by
  have tr : ∃ i x, m.place = m.place.set i x := ⟨m.place.length, 0, by rw [List.set_eq_of_length_le (Nat.le_refl _)]⟩
  unfold RM.arrive
  split
  · exact ⟨Same.refl m, fun _ => rfl, tr⟩
  · split
    · exact ⟨Same.refl m, fun _ => rfl, tr⟩
    · split
      · exact ⟨Same.refl m, fun _ => rfl, tr⟩
      · rename_i i t hL
        exact ⟨⟨rfl, rfl, rfl, setd_n _ _ _⟩, fun h => absurd rfl h, i, _, rfl⟩
theorem release_same (m : RM) (i : Int) : Same m (m.release i).1 ∧ ((m.release i).2 ≠ 0 → (m.release i).1 = m) ∧ ∃ j x, (m.release i).1.place = m.place.set j x := by
  have tr : ∃ i x, m.place = m.place.set i x := ⟨m.place.length, 0, by rw [List.set_eq_of_length_le (Nat.le_refl _)]⟩
  unfold RM.release
  split
  · exact ⟨Same.refl m, fun _ => rfl, tr⟩
  · exact ⟨⟨rfl, rfl, rfl, rfl⟩, fun h => absurd rfl h, _, _, rfl⟩
theorem send_same (m : RM) (i n : Int) : Same m (m.send i n).1 ∧ ((m.send i n).2 ≠ 0 → (m.send i n).1 = m) ∧ ∃ j x, (m.send i n).1.place = m.place.set j x := by
  have tr : ∃ i x, m.place = m.place.set i x := ⟨m.place.length, 0, by rw [List.set_eq_of_length_le (Nat.le_refl _)]⟩
  unfold RM.send
  split
  · exact ⟨Same.refl m, fun _ => rfl, tr⟩
  · split
    · exact ⟨Same.refl m, fun _ => rfl, tr⟩
    · split
      · exact ⟨Same.refl m, fun _ => rfl, tr⟩
      · exact ⟨⟨rfl, rfl, rfl, rfl⟩, fun h => absurd rfl h, _, _, rfl⟩
/-- a step: sizes stay; a refused one moves nothing; none but Refill moves more than one -/
theorem do_wp {k : Nat} (s : Ss W (Port p m ad :: R) w) (o : weirlaw3_Op) (g : GSl (cI .u8) k (fun _ u => (Lit.int .u8 u).wf = true) W o.B) : WP (weirlaw3_do p o) w (fun r w' => ∃ m' ad', Same m m' ∧ (r ≠ 0 → m'.place = m.place) ∧ (o.Kind ≠ 1 → ∃ i x, m'.place = m.place.set i x) ∧ Ext ad ad' ∧ Ss W (Port p m' ad' :: R) w') := by
  have tr : ∃ i x, m.place = m.place.set i x := ⟨m.place.length, 0, by rw [List.set_eq_of_length_le (Nat.le_refl _)]⟩
  unfold weirlaw3_do weirlaw3_num
  refine WP.slot' s (fun _ w s => ?_)
  have nm : ∀ {w : World} (e : Int) {Q : Int → World → Prop}, Q e w → WP ((pure e : M Int) >>= fun r => pure r) w Q := fun e _ h => WP.step (R := fun y w' => y = e ∧ w' = _) (WP.ret ⟨rfl, rfl⟩) (fun _ _ h' => by obtain ⟨rfl, rfl⟩ := h'; exact WP.ret h)
  refine WP.ite (fun hk => WP.step (Refill_wp s o.N) ?_) (fun h1 => ?_)
  · rintro _ w ⟨rfl, s⟩
    exact WP.ret ⟨_, ad, refs_same m _ (by unfold RM.refN; omega), fun h => absurd rfl h, fun h => absurd hk h, Ext.refl ad, s⟩
  refine WP.ite (fun hk => ?_) (fun h2 => ?_)
  · obtain ⟨xs, hx, _, s2⟩ := s.args g (by decide)
    have hb : ∀ x ∈ xs, 0 ≤ x ∧ x ≤ 255 := fun x h => byte_wf (hx x h)
    refine WP.step (Arrive_wp (s2.use [1] rfl) 0 rfl rdS_rdb hb) ?_
    rintro _ w ⟨rfl, ad', hext, s⟩
    obtain ⟨a1, a2, a3⟩ := arrive_same m xs
    exact nm _ ⟨_, ad', a1, fun h => by rw [a2 h], fun _ => a3, hext, (s.use [1] rfl).drop⟩
  refine WP.ite (fun hk => WP.step (Poll_wp s) ?_) (fun h3 => ?_)
  · intro r w h
    cases hL : m.L 3 with
    | nil =>
      rw [hL] at h
      exact WP.ret ⟨m, ad, Same.refl m, fun h => absurd rfl h, fun _ => tr, Ext.refl ad, h.2⟩
    | cons i t =>
      rw [hL] at h
      obtain ⟨a, ad', rfl, ha, hext, s⟩ := h
      exact WP.ret ⟨(m.out 3).mv i 4, ad', ⟨rfl, rfl, rfl, rfl⟩, fun h => absurd rfl h, fun _ => ⟨i, _, rfl⟩, hext, s⟩
  refine WP.ite (fun hk => WP.step (Take_wp s) ?_) (fun h4 => ?_)
  · intro r w h
    cases hL : m.L 1 with
    | nil =>
      rw [hL] at h
      obtain ⟨rfl, s⟩ := h
      exact nm _ ⟨m, ad, Same.refl m, fun _ => rfl, fun _ => tr, Ext.refl ad, s⟩
    | cons i t =>
      rw [hL] at h
      obtain ⟨a, ad', rfl, ha, hext, s⟩ := h
      exact nm _ ⟨((m.out 1).mv i 4).setd i (List.replicate m.size 0), ad', ⟨rfl, rfl, rfl, setd_n _ _ _⟩, fun h => absurd rfl h, fun _ => ⟨i, _, rfl⟩, hext, s⟩
  refine WP.ite (fun hk => WP.step (Buffer_wp s o.I) ?_) (fun h5 => ?_)
  · rintro r w ⟨hr, h0, h1⟩
    refine nm _ ?_
    by_cases he : m.heldE o.I = 0
    · obtain ⟨a, ad', _, _, hext, s⟩ := h1 he
      exact ⟨m, ad', Same.refl m, fun _ => rfl, fun _ => tr, hext, s⟩
    · exact ⟨m, ad, Same.refl m, fun _ => rfl, fun _ => tr, Ext.refl ad, (h0 he).2⟩
  refine WP.ite (fun hk => WP.step (Release_wp s o.I) ?_) (fun h6 => ?_)
  · rintro _ w ⟨rfl, s⟩
    obtain ⟨a1, a2, a3⟩ := release_same m o.I
    exact nm _ ⟨_, ad, a1, fun h => by rw [a2 h], fun _ => a3, Ext.refl ad, s⟩
  refine WP.ite (fun hk => WP.step (Send_wp s o.I o.N) ?_) (fun h7 => ?_)
  · rintro _ w ⟨rfl, s⟩
    obtain ⟨a1, a2, a3⟩ := send_same m o.I o.N
    exact nm _ ⟨_, ad, a1, fun h => by rw [a2 h], fun _ => a3, Ext.refl ad, s⟩
  refine WP.ite (fun hk => WP.step (Drain_wp s) ?_) (fun h8 => WP.ret ⟨m, ad, Same.refl m, fun _ => rfl, fun _ => tr, Ext.refl ad, s⟩)
  intro r w h
  cases hL : m.L 5 with
  | nil =>
    rw [hL] at h
    exact WP.ret ⟨m, ad, Same.refl m, fun h => absurd rfl h, fun _ => tr, Ext.refl ad, h.2⟩
  | cons i t =>
    rw [hL] at h
    obtain ⟨ad', _, hext, s⟩ := h
    exact WP.ret ⟨(m.out 5).mv i 1, ad', ⟨rfl, rfl, rfl, rfl⟩, fun h => absurd rfl h, fun _ => ⟨i, _, rfl⟩, hext, s.drop⟩
theorem port_wp (s : Ss W Hs w) (a0 a1 a2 a3 : Int) : WP (weirlaw3_port a0 a1 a2 a3) w (fun r w' => ∃ (pa : Addr) (rx tx pool size : Nat), r = (some pa, (rx : Int), (tx : Int), (pool : Int), (size : Int)) ∧ newE rx tx pool size = false ∧ pool * size ≤ 4000000 ∧ Ss W (Port (some pa) (newM rx tx pool size) (List.replicate pool none) :: Hs) w') := by
  unfold weirlaw3_port weirlaw3_num
  have st : ∀ {a b : Prop} [Decidable a] [Decidable b] {β : Type} {f : Bool → M β} {Q : β → World → Prop} {w : World} {y : Bool}, y = decide a → WP (f (decide (a ∧ b))) w Q → WP ((if y = true then pure (decide b) else pure false : M Bool) >>= f) w Q := by
    intro a b _ _ β f Q w y hy h
    subst hy
    refine WP.step (R := fun z w' => z = decide (a ∧ b) ∧ w = w') (WP.ite (fun h => WP.ret ⟨by have := of_decide_eq_true h; simp [this], rfl⟩) (fun h => WP.ret ⟨by
      have h' : ¬ a := fun hx => h (decide_eq_true hx)
      simp [h'], rfl⟩)) ?_
    rintro _ _ ⟨rfl, rfl⟩
    exact h
  refine WP.step (R := fun z w' => z = decide (a0 ≥ 1 ∧ a0 ≤ 4096) ∧ w = w') (WP.ite (fun h => WP.ret ⟨by simp [h], rfl⟩) (fun h => WP.ret ⟨by simp [h], rfl⟩)) ?_
  rintro _ _ ⟨rfl, rfl⟩
  refine st rfl (st rfl (st rfl (st rfl (st rfl (st rfl (st rfl ?_))))))
  have small : newE 2 2 3 64 = false := by decide
  refine WP.ite (fun h => WP.step (New_wp s) ?_) (fun h => ?_)
  · rintro r w ⟨_, hf⟩
    obtain ⟨pa, rfl, s⟩ := hf small
    refine WP.step (R := fun y w' => y = (0 : Int) ∧ w = w') (WP.ret ⟨rfl, rfl⟩) ?_
    rintro _ _ ⟨rfl, rfl⟩
    exact WP.ite (fun h => absurd rfl h) (fun _ => WP.ret ⟨pa, 2, 2, 3, 64, rfl, small, by decide, s⟩)
  · have h' := of_decide_eq_true (Classical.not_not.1 h)
    obtain ⟨⟨⟨⟨⟨⟨⟨⟨q1, q2⟩, q3⟩, q4⟩, q5⟩, q6⟩, q7⟩, q8⟩, q9⟩ := h'
    have hE : newE a0 a1 a2 a3 = false := by
      unfold newE
      rw [decide_eq_false_iff_not]
      omega
    obtain ⟨a0, rfl⟩ : ∃ n : Nat, a0 = n := ⟨a0.toNat, by omega⟩
    obtain ⟨a1, rfl⟩ : ∃ n : Nat, a1 = n := ⟨a1.toNat, by omega⟩
    obtain ⟨a2, rfl⟩ : ∃ n : Nat, a2 = n := ⟨a2.toNat, by omega⟩
    obtain ⟨a3, rfl⟩ : ∃ n : Nat, a3 = n := ⟨a3.toNat, by omega⟩
    have mb := mul_bound (show (0 : Int) ≤ (a2 : Int) by omega) q6 (show (0 : Int) ≤ (a3 : Int) by omega) q8
    rw [wrap_i64 (by omega) (by omega)] at q9
    refine WP.step (New_wp s) ?_
    rintro r w ⟨_, hf⟩
    obtain ⟨pa, rfl, s⟩ := hf hE
    refine WP.step (R := fun y w' => y = (0 : Int) ∧ w = w') (WP.ret ⟨rfl, rfl⟩) ?_
    rintro _ _ ⟨rfl, rfl⟩
    refine WP.ite (fun h => absurd rfl h) (fun _ => WP.ret ⟨pa, a0, a1, a2, a3, rfl, hE, ?_, s⟩)
    have : ((a2 * a3 : Nat) : Int) ≤ 4000000 := by simpa using q9
    omega
theorem refN_one {rx tx pool size : Nat} (h : newE rx tx pool size = false) : (newM rx tx pool size).refN 1 = 1 := by
  unfold newE at h
  rw [decide_eq_false_iff_not] at h
  unfold RM.refN newM
  simp
  omega
end
/-! ### how many are where -/
theorem count_filter (l : List Int) (x : Int) : ∀ n, n ≤ l.length → (l.take n).count x = ((List.range n).filter (fun i => decide (l[i]? = some x))).length
  | 0, _ => by simp
  | n + 1, h => by
    rw [List.range_succ, List.filter_append, List.length_append, List.take_add_one, List.count_append, count_filter l x n (by omega), List.getElem?_eq_getElem (show n < l.length by omega)]
    congr 1
    by_cases e : l[n] = x
    · simp [e, List.getElem?_eq_getElem (show n < l.length by omega)]
    · simp [e, List.getElem?_eq_getElem (show n < l.length by omega)]
theorem RM.Ok.count {m : RM} (ok : m.Ok) {k : Nat} (hk : isL k) : m.place.count (k : Int) = (m.L k).length := by
  have h1 := count_filter m.place (k : Int) m.place.length (Nat.le_refl _)
  rw [List.take_length] at h1
  rw [h1]
  have hp : ((List.range m.place.length).filter (fun i => decide (m.place[i]? = some (k : Int)))).Perm (m.L k) := by
    refine (List.perm_ext_iff_of_nodup (List.nodup_range.filter _) (ok.nd k hk)).2 (fun i => ?_)
    rw [List.mem_filter, List.mem_range, decide_eq_true_iff]
    constructor
    · rintro ⟨_, h⟩
      obtain ⟨k2, e, _, _, h4⟩ := ok.p i _ h
      have : k2 = k := by omega
      subst this
      exact h4 (isL_ne4 hk)
    · intro h
      have := ok.f k i hk h
      exact ⟨(List.getElem?_eq_some_iff.1 this).1, this⟩
  exact hp.length_eq
end Go.Proofs.Ytoddkagehbcfjaa.Lx
