/- Ports that are made, a first play, all plays. -/
import Derived.Test.YtoddkagehbcfjaaRingSide3
set_option linter.unusedVariables false
set_option linter.unusedSimpArgs false
namespace Go.Proofs.Ytoddkagehbcfjaa.Lx
open Go Go.Proofs Go.RowKit

theorem next_le (m : RM) (kd I N : Int) (xs : List Int) : (m.next kd I N xs).2 ≤ 1 := by
  unfold RM.next
  repeat' split
  all_goals simp
  all_goals (split <;> simp)
section
variable {W w : World} {R : List HP}
theorem made_wp (s : Ss W R w) (a0 a1 a2 a3 : Int) : WP (weirlaw3_made a0 a1 a2 a3) w (fun x w' => x.2 = true ∧ ∃ (rx tx pool size : Nat), newE rx tx pool size = false ∧ (newE a0 a1 a2 a3 = false → rx = a0.toNat ∧ tx = a1.toNat ∧ pool = a2.toNat ∧ size = a3.toNat) ∧ Ss W (Sd x.1 (newM rx tx pool size) 0 8192 :: R) w') := by
  unfold weirlaw3_made
  have fin : ∀ {w : World} {pa : Addr} {r : weirref3_Port} {m : RM} {n : Nat}, Ss W (RefP r m 8192 :: Port (some pa) m (List.replicate n none) :: R) w → Ss W (Sd ⟨some pa, r, Sl.nil⟩ m 0 8192 :: R) w := by
    intro w pa r m n s
    have s := (s.mk0 (A := vec cWin Sl.nil [] []) vec_nil).use [2, 1, 0] rfl
    exact s.closeS (by intro x h; cases h) rfl
  refine WP.slot' s (fun _ w s => WP.step (New_wp s) ?_)
  rintro r w ⟨ht, hf⟩
  cases hE : newE a0 a1 a2 a3 with
  | true =>
    obtain ⟨rfl, s⟩ := ht hE
    refine WP.step (R_New s a0 a1 a2 a3) ?_
    rintro x w ⟨ht, _⟩
    obtain ⟨rfl, s⟩ := ht hE
    refine WP.slot' s (fun _ w s => WP.step (num_wp _) ?_)
    rintro _ _ ⟨rfl, rfl⟩
    refine WP.step (R := fun y w' => y = false ∧ w = w') (WP.ite (fun h => absurd rfl h) (fun _ => WP.ret ⟨rfl, rfl⟩)) ?_
    rintro _ _ ⟨rfl, rfl⟩
    refine WP.ite (fun h => by cases h) (fun _ => WP.ite (fun h => by cases h) (fun _ => WP.step (New_wp s) ?_))
    have small : newE 2 2 3 64 = false := by decide
    rintro r w ⟨_, hf⟩
    obtain ⟨pa, rfl, s⟩ := hf small
    refine WP.step (R_New s 2 2 3 64) ?_
    rintro ⟨r', e⟩ w ⟨_, hf⟩
    obtain ⟨h0, s⟩ := hf small
    refine WP.draw' s (fun w s => ?_)
    refine WP.step (R := fun y w' => y = true ∧ w = w') (WP.ite (fun _ => WP.step (num_wp _) ?_) (fun h => absurd (by simp) h)) ?_
    · rintro _ _ ⟨rfl, rfl⟩
      exact WP.ret ⟨rfl, rfl⟩
    rintro _ _ ⟨rfl, rfl⟩
    exact WP.ret ⟨rfl, 2, 2, 3, 64, small, (fun h => by cases h), fin s⟩
  | false =>
    obtain ⟨pa, rfl, s⟩ := hf hE
    refine WP.step (R_New s a0 a1 a2 a3) ?_
    rintro ⟨r', e⟩ w ⟨_, hf⟩
    obtain ⟨h0, s⟩ := hf hE
    simp only at h0 s
    subst h0
    refine WP.slot' s (fun _ w s => WP.step (num_wp _) ?_)
    rintro _ _ ⟨rfl, rfl⟩
    refine WP.step (R := fun y w' => y = false ∧ w = w') (WP.ite (fun h => absurd rfl h) (fun _ => WP.ret ⟨rfl, rfl⟩)) ?_
    rintro _ _ ⟨rfl, rfl⟩
    refine WP.ite (fun h => by cases h) (fun _ => WP.ite (fun _ => WP.ret ⟨rfl, _, _, _, _, ?_, fun _ => ⟨rfl, rfl, rfl, rfl⟩, fin s⟩) (fun h => absurd rfl h))
    unfold newE at hE ⊢
    rw [decide_eq_false_iff_not] at hE ⊢
    omega
/-- where the first play is -/
def At3 (k : Nat) (m : RM) (c : Nat) : Prop := (k = 0 → m = newM 1 1 2 64 ∧ c = 0) ∧ (k = 1 → m.L 2 = [0] ∧ m.L 3 = [] ∧ m.size = 64 ∧ c = 0) ∧ (k = 2 → m.L 3 = [0] ∧ c = 0) ∧ (3 ≤ k → c = 1)
theorem started_wp (s : Ss W R w) : WP weirlaw3_started w (fun x w' => x = true ∧ Ss W R w') := by
  unfold weirlaw3_started
  refine WP.step (made_wp s 1 1 2 64) ?_
  rintro ⟨sd, ok⟩ w ⟨h, rx, tx, pool, size, hE, he, s⟩
  simp only at h s
  subst h
  obtain ⟨h1, h2, h3, h4⟩ := he (by decide)
  have h1 : rx = 1 := h1
  have h2 : tx = 1 := h2
  have h3 : pool = 2 := h3
  have h4 : size = 64 := h4
  subst h1 h2 h3 h4
  refine WP.slot' s (fun _ w s => ?_)
  refine WP.newmark s (by decide) (by decide) (fun abc w s => WP.newmark s (by decide) (by decide) (fun z w s => WP.slot' s (fun _ w s => ?_)))
  have s : Ss W (Sd sd (newM 1 1 2 64) 0 8192 :: rdB Sl.nil [] :: rdB z [122] :: rdB abc [97, 98, 99] :: R) w := (s.mk0 (A := rdB Sl.nil []) rd0).use [3] rfl
  refine WP.loop (fun (x : Bool × Int × weirlaw3_Side) w' => 0 ≤ x.2.1 ∧ x.2.1 ≤ 8 ∧ x.1 = true ∧ ∃ m c, At3 x.2.1.toNat m c ∧ c ≤ 1 ∧ Ss W (Sd x.2.2 m c (8192 * (x.2.1.toNat + 1)) :: rdB Sl.nil [] :: rdB z [122] :: rdB abc [97, 98, 99] :: R) w') (fun x _ => ((8 : Int) - x.2.1).toNat) ⟨by simp, by simp, rfl, _, 0, ⟨fun _ => ⟨rfl, rfl⟩, (fun h => by cases h), (fun h => by cases h), (fun h => by simp at h)⟩, by omega, s⟩ ?_
  clear s
  rintro ⟨ok, k, sd⟩ w ⟨k0, k1, hok, m, c, hm, hc, s⟩
  simp only at k0 k1 hok hm s
  subst hok
  show WP (weirlaw3_started.L1 abc z true k sd) w _
  unfold weirlaw3_started.L1
  refine WP.step (R := fun y w' => y = decide (k < 8) ∧ w = w') (WP.ite (fun h => WP.ret ⟨by simp [h], rfl⟩) (fun h => WP.ret ⟨by simp [h], rfl⟩)) ?_
  rintro _ _ ⟨rfl, rfl⟩
  refine WP.ite (fun h => WP.draw' s (fun w s => WP.chk ⟨k0, of_decide_eq_true h⟩ ?_)) (fun h => ?_)
  · have h := of_decide_eq_true h
    obtain ⟨k, rfl⟩ : ∃ n : Nat, k = n := ⟨k.toNat, by omega⟩
    rw [Int.toNat_natCast] at hm s
    have hT : 8192 * (k + 1) + 8192 ≤ big := by unfold big; omega
    have go : ∀ (o : weirlaw3_Op) (xs : List Int) (A : HP) (j : Nat), nth (rdB Sl.nil [] :: rdB z [122] :: rdB abc [97, 98, 99] :: R) j = some A → Rdb A (cI .u8) o.B xs → Bytes xs → xs.length ≤ 3 → (∀ m', Akin (m.next o.Kind o.I o.N xs).1 m' → At3 (k + 1) m' (c + (m.next o.Kind o.I o.N xs).2) ∧ c + (m.next o.Kind o.I o.N xs).2 ≤ 1) →
        WP (weirlaw3_step sd o >>= fun r20 => pure (LS.next (r20.2, IntKind.wrap .i64 ((k : Int) + 1), r20.1))) w (WP.Rd (fun (x : Bool × Int × weirlaw3_Side) w' => (0 ≤ x.2.1 ∧ x.2.1 ≤ 8 ∧ x.1 = true ∧ ∃ m c, At3 x.2.1.toNat m c ∧ c ≤ 1 ∧ Ss W (Sd x.2.2 m c (8192 * (x.2.1.toNat + 1)) :: rdB Sl.nil [] :: rdB z [122] :: rdB abc [97, 98, 99] :: R) w') ∧ ((8 : Int) - x.2.1).toNat < ((8 : Int) - (k : Int)).toNat) (fun x w' => x = true ∧ Ss W R w')) := by
      intro o xs A j e rb hx hl hat
      refine WP.step (step_wp s hT (by omega) o j e rb hx (by omega)) ?_
      rintro ⟨sd', ok'⟩ w ⟨h1, m', ha, s⟩
      simp only at h1 s
      subst h1
      refine WP.next ?_
      rw [wrap_i64 (by omega) (by omega)]
      obtain ⟨q1, q2⟩ := hat m' ha
      refine ⟨⟨by simp only; omega, by simp only; omega, rfl, m', _, ?_, q2, ?_⟩, by simp only; omega⟩
      · show At3 ((k : Int) + 1).toNat _ _
        rw [show ((k : Int) + 1).toNat = k + 1 by omega]
        exact q1
      · show Ss W (Sd sd' m' _ (8192 * (((k : Int) + 1).toNat + 1)) :: _) w
        rw [show ((k : Int) + 1).toNat = k + 1 by omega, show 8192 * (k + 1 + 1) = 8192 * (k + 1) + 8192 by omega]
        exact s
    have hk : k = 0 ∨ k = 1 ∨ k = 2 ∨ k = 3 ∨ k = 4 ∨ k = 5 ∨ k = 6 ∨ k = 7 := by omega
    have late : 3 ≤ k → ∀ m', At3 (k + 1) m' (c + 0) ∧ c + 0 ≤ 1 := fun h3 m' => ⟨⟨(fun h => by omega), (fun h => by omega), (fun h => by omega), fun _ => hm.2.2.2 h3⟩, hc⟩
    have nil : Bytes [] := by intro x h; cases h
    rcases hk with rfl | rfl | rfl | rfl | rfl | rfl | rfl | rfl
    · refine go ⟨1, false, 0, 1, Sl.nil⟩ [] _ 0 rfl rdS_rdb nil (by simp) ?_
      obtain ⟨rfl, rfl⟩ := hm.1 rfl
      rintro m' ⟨D, _, rfl⟩
      exact ⟨⟨(fun h => by cases h), fun _ => ⟨rfl, rfl, rfl, rfl⟩, (fun h => by cases h), (fun h => by omega)⟩, Nat.zero_le _⟩
    · refine go ⟨2, false, 0, 0, abc⟩ [97, 98, 99] _ 2 rfl rdS_rdb (by intro x hx; simp at hx; omega) (by simp) ?_
      obtain ⟨q1, q2, q3, rfl⟩ := hm.2.1 rfl
      have e2 : (m.arrive [97, 98, 99]).1 = ((((m.out 2).setd 0 ([97, 98, 99] ++ (m.dat.getD 0 []).drop 3)).setl 0 3).mv 0 3) := by
        unfold RM.arrive
        rw [if_neg (by simp), if_neg (by simp; omega), q1]
        rfl
      show ∀ m', Akin (m.arrive [97, 98, 99]).1 m' → At3 2 m' 0 ∧ 0 ≤ 1
      rw [e2]
      rintro m' ⟨D, _, rfl⟩
      refine ⟨⟨(fun h => by cases h), (fun h => by cases h), fun _ => ⟨?_, rfl⟩, (fun h => by omega)⟩, by decide⟩
      simp [RM.mv, RM.setl, RM.setd, RM.out, q2]
    · refine go ⟨3, false, 0, 0, Sl.nil⟩ [] _ 0 rfl rdS_rdb nil (by simp) ?_
      obtain ⟨q1, rfl⟩ := hm.2.2.1 rfl
      have ea : (m.next 3 0 0 []).2 = 1 := by unfold RM.next; simp [q1]
      intro m' _
      show At3 3 m' (0 + (m.next 3 0 0 []).2) ∧ 0 + (m.next 3 0 0 []).2 ≤ 1
      rw [ea]
      exact ⟨⟨(fun h => by cases h), (fun h => by cases h), (fun h => by cases h), fun _ => rfl⟩, by decide⟩
    · exact go ⟨10, false, 0, 0, z⟩ [122] _ 1 rfl rdS_rdb (by intro x hx; simp at hx; omega) (by simp) (fun m' _ => late (by omega) m')
    · exact go ⟨7, false, 0, 3, Sl.nil⟩ [] _ 0 rfl rdS_rdb nil (by simp) (fun m' _ => late (by omega) m')
    · exact go ⟨11, false, 0, 0, Sl.nil⟩ [] _ 0 rfl rdS_rdb nil (by simp) (fun m' _ => late (by omega) m')
    · exact go ⟨9, false, 0, 0, Sl.nil⟩ [] _ 0 rfl rdS_rdb nil (by simp) (fun m' _ => late (by omega) m')
    · refine go ⟨8, false, 0, 0, Sl.nil⟩ [] _ 0 rfl rdS_rdb nil (by simp) (fun m' _ => ?_)
      have ea : (m.next 8 0 0 []).2 = 0 := by
        unfold RM.next
        cases h5 : m.L 5 with
        | nil => simp
        | cons i t => simp
      show At3 8 m' (c + (m.next 8 0 0 []).2) ∧ c + (m.next 8 0 0 []).2 ≤ 1
      rw [ea]
      exact late (by omega) m'
  · have h8 : ¬ k < 8 := fun hx => h (decide_eq_true hx)
    have hkk : k = 8 := by omega
    subst hkk
    have hc1 : c = 1 := hm.2.2.2 (by decide)
    have hwl : sd.W.len = c := by
      obtain ⟨ad, wins, spw, hw1, hw2, s⟩ := s.openS
      rw [(s.vec_len (i := 2) rfl).1, hw2]
    refine WP.step (R := fun x w' => x = true ∧ Ss W R w') ?_ (fun r w h => WP.done h)
    unfold weirlaw3_started.K1
    refine WP.step (R := fun y w' => y = true ∧ w = w') (WP.ite (fun _ => WP.ret ⟨by rw [hwl, hc1]; rfl, rfl⟩) (fun h => absurd rfl h)) ?_
    rintro _ _ ⟨rfl, rfl⟩
    exact WP.ret ⟨rfl, s.weak (l := [_, _, _, _])⟩
theorem plays_wp {W : World} {u4 : Sl} {ops : List weirlaw3_Op} (a0 a1 a2 a3 lo hi : Int) (s : Ss W [rdS c_weirlaw3_Op false u4 ops] w) (ho : ∀ o ∈ ops, GSl (cI .u8) (Try.prog.bytesOf 5) (fun W u => (Lit.int .u8 u).wf = true) W o.B) (hb : ops.length * 56 ≤ 140737488351232) : WP (weirlaw3_plays a0 a1 a2 a3 u4 lo hi) w (fun x w' => x = true ∧ Below W.heap.size W w') := by
  unfold weirlaw3_plays
  refine WP.step (started_wp s) ?_
  rintro _ w ⟨rfl, s⟩
  refine WP.ite (fun h => absurd rfl h) (fun _ => WP.step (made_wp s a0 a1 a2 a3) ?_)
  rintro ⟨p, ok⟩ w ⟨h, rx, tx, pool, size, _, _, s⟩
  simp only at h s
  subst h
  refine WP.slot' s (fun _ w s => WP.ite (fun h => absurd rfl h) (fun _ => WP.step (made_wp s 3 2 4 70) ?_))
  rintro ⟨q, ok⟩ w ⟨h, rx2, tx2, pool2, size2, _, _, s⟩
  simp only at h s
  subst h
  refine WP.slot' s (fun _ w s => ?_)
  have hlo := (s.rd_len (i := 2) rfl rdS_rdb).1
  refine WP.loop (fun (x : Bool × Int × weirlaw3_Side × weirlaw3_Side) w' => 0 ≤ x.2.1 ∧ x.2.1 ≤ ops.length ∧ x.1 = true ∧ ∃ m1 c1 m2 c2, c1 ≤ x.2.1.toNat ∧ c2 ≤ x.2.1.toNat ∧ Ss W [Sd x.2.2.1 m1 c1 (8192 * (x.2.1.toNat + 1)), Sd x.2.2.2 m2 c2 (8192 * (x.2.1.toNat + 1)), rdS c_weirlaw3_Op false u4 ops] w') (fun x _ => ((ops.length : Int) - x.2.1).toNat) ⟨by simp, by simp, rfl, _, 0, _, 0, by simp, by simp, s⟩ ?_
  clear s
  rintro ⟨ok, k, q, p⟩ w ⟨k0, k1, hok, m1, c1, m2, c2, hc1, hc2, s⟩
  simp only at k0 k1 hok hc1 hc2 s
  subst hok
  show WP (weirlaw3_plays.L1 u4 lo hi true k q p) w _
  unfold weirlaw3_plays.L1
  refine WP.step (R := fun y w' => y = decide (k < ops.length) ∧ w = w') (WP.ite (fun h => WP.ret ⟨by rw [hlo] at h; simp [h], rfl⟩) (fun h => WP.ret ⟨by rw [hlo] at h; simp [h], rfl⟩)) ?_
  rintro _ _ ⟨rfl, rfl⟩
  refine WP.ite (fun h => ?_) (fun h => WP.done ⟨rfl, s.below⟩)
  have h := of_decide_eq_true h
  obtain ⟨k, rfl⟩ : ∃ n : Nat, k = n := ⟨k.toNat, by omega⟩
  rw [Int.toNat_natCast] at hc1 hc2 s
  have hT : 8192 * (k + 1) + 8192 ≤ big := by unfold big; omega
  have hx := List.getElem?_eq_getElem (show k < ops.length by omega)
  generalize ops[k] = o at hx
  have nx : ∀ {w : World} {q p : weirlaw3_Side} {m1 m2 : RM} {c1 c2 : Nat}, c1 ≤ k + 1 → c2 ≤ k + 1 → Ss W [Sd q m1 c1 (8192 * (k + 1) + 8192), Sd p m2 c2 (8192 * (k + 1) + 8192), rdS c_weirlaw3_Op false u4 ops] w → WP (pure (LS.next (true, IntKind.wrap .i64 ((k : Int) + 1), q, p)) : M (LS (Bool × Int × weirlaw3_Side × weirlaw3_Side) Bool)) w (WP.Rd (fun x w' => (0 ≤ x.2.1 ∧ x.2.1 ≤ ops.length ∧ x.1 = true ∧ ∃ m1 c1 m2 c2, c1 ≤ x.2.1.toNat ∧ c2 ≤ x.2.1.toNat ∧ Ss W [Sd x.2.2.1 m1 c1 (8192 * (x.2.1.toNat + 1)), Sd x.2.2.2 m2 c2 (8192 * (x.2.1.toNat + 1)), rdS c_weirlaw3_Op false u4 ops] w') ∧ ((ops.length : Int) - x.2.1).toNat < ((ops.length : Int) - (k : Int)).toNat) (fun x w' => x = true ∧ Below W.heap.size W w')) := by
    intro w q p m1 m2 c1 c2 h1 h2 s
    refine WP.next ?_
    rw [wrap_i64 (by omega) (by omega)]
    refine ⟨⟨by simp only; omega, by simp only; omega, rfl, m1, c1, m2, c2, by simp only; omega, by simp only; omega, ?_⟩, by simp only; omega⟩
    show Ss W [Sd q m1 c1 (8192 * (((k : Int) + 1).toNat + 1)), Sd p m2 c2 (8192 * (((k : Int) + 1).toNat + 1)), _] w
    rw [show ((k : Int) + 1).toNat = k + 1 by omega, show 8192 * (k + 1 + 1) = 8192 * (k + 1) + 8192 by omega]
    exact s
  have more : ∀ {w : World} {q p : weirlaw3_Side}, Ss W [Sd q m1 c1 (8192 * (k + 1)), Sd p m2 c2 (8192 * (k + 1)), rdS c_weirlaw3_Op false u4 ops] w → Ss W [Sd q m1 c1 (8192 * (k + 1) + 8192), Sd p m2 c2 (8192 * (k + 1) + 8192), rdS c_weirlaw3_Op false u4 ops] w := fun s => ((((s.moreS (T' := 8192 * (k + 1) + 8192) (by omega)).use [1] rfl).moreS (T' := 8192 * (k + 1) + 8192) (by omega)).use [1] rfl)
  refine WP.rdx s 2 rfl rdS_rdb (by omega) (x := o) (by rw [Int.toNat_natCast]; exact hx) rfl (WP.slot' s (fun _ w s => ?_))
  refine WP.step (R := fun y w' => w = w') (WP.ite (fun _ => WP.ret rfl) (fun _ => WP.ret rfl)) ?_
  rintro y _ rfl
  refine WP.step (R := fun y w' => w = w') (WP.ite (fun _ => WP.step (R := fun y w' => w = w') (WP.ite (fun _ => WP.ret rfl) (fun _ => WP.ret rfl)) (fun y w h => WP.ret h)) (fun _ => WP.ret rfl)) ?_
  rintro y _ rfl
  refine WP.ite (fun _ => nx (by omega) (by omega) (more s)) (fun _ => ?_)
  obtain ⟨xs, hxs, hxl, s1⟩ := s.args (ho o (List.mem_of_getElem? hx)) (by decide)
  have hby : Bytes xs := fun x h => byte_wf (hxs x h)
  have b5 : Try.prog.bytesOf 5 = 1 := by kernel_rfl
  have hr : reachBytes = 140737488351232 := rfl
  rw [b5, hr] at hxl
  refine WP.ite (fun _ => WP.step (step_wp (s1.use [1] rfl) hT (by omega) o 0 rfl rdS_rdb hby (by omega)) ?_) (fun _ => WP.step (step_wp (s1.use [2] rfl) hT (by omega) o 0 rfl rdS_rdb hby (by omega)) ?_)
  · rintro ⟨sd', ok'⟩ w ⟨h1, m', _, s⟩
    simp only at h1 s
    subst h1
    have s := (s.use [1] rfl).drop
    refine nx (m1 := m') (m2 := m2) (c1 := c1 + (m1.next o.Kind o.I o.N xs).2) (c2 := c2) ?_ (by omega) (((s.use [1] rfl).moreS (T' := 8192 * (k + 1) + 8192) (by omega)).use [1] rfl)
    have : (m1.next o.Kind o.I o.N xs).2 ≤ 1 := next_le _ _ _ _ _
    omega
  · rintro ⟨sd', ok'⟩ w ⟨h1, m', _, s⟩
    simp only at h1 s
    subst h1
    have s := (s.use [1] rfl).drop
    refine nx (m1 := m1) (m2 := m') (c1 := c1) (c2 := c2 + (m2.next o.Kind o.I o.N xs).2) (by omega) ?_ (((s.use [1] rfl).moreS (T' := 8192 * (k + 1) + 8192) (by omega)))
    have : (m2.next o.Kind o.I o.N xs).2 ≤ 1 := next_le _ _ _ _ _
    omega
end
end Go.Proofs.Ytoddkagehbcfjaa.Lx
