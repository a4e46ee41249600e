/- The laws that hold a queue against the document's, of their programs in the M-world: every step answers alike. -/
import Derived.Test.YtgddbpmfendaeaaQueueRef2
set_option linter.unusedVariables false
set_option linter.unusedSimpArgs false
namespace Go.Proofs.Ytgddbpmfendaeaa.Lx
open Go Go.Proofs Go.RowKit

def newL (c : api_Class) : weirref18_Line := ⟨c, Sl.nil, 0, c.Burst⟩
section
variable {W w : World} {Hs : List HP}
theorem items_none {l : List HP} (xs : List api_Class) (s : Ss W l w) : Ss W (items (xs.map newL) (newQ xs).qs ++ l) w := by
  induction xs with
  | nil => exact s
  | cons c xs ih => exact ih.triv (fun h => ⟨rfl, Nat.le_refl _, fun h => absurd rfl h, fun _ _ h => absurd rfl h⟩)
theorem newOk_len {xs : List api_Class} (h : xs.length = 0 ∨ xs.length > 8) : newOk xs = false := by
  rw [Bool.eq_false_iff]
  intro hc
  unfold newOk at hc
  simp only [Bool.and_eq_true, decide_eq_true_eq] at hc
  have := List.length_pos_iff.2 hc.1.1
  omega
theorem newOk_bad {xs : List api_Class} {x : api_Class} (hx : x ∈ xs) (h : okClass x = false) : newOk xs = false := by
  rw [Bool.eq_false_iff]
  intro hc
  unfold newOk at hc
  simp only [Bool.and_eq_true, List.all_eq_true] at hc
  rw [hc.2 x hx] at h
  cases h
theorem rNew_wp {A : HP} {a0 : Sl} {xs : List api_Class} (s : Ss W Hs w) (i : Nat) (e : nth Hs i = some A) (r : Rdb A c_api_Class a0 xs) (hlen : xs.length ≤ 9223372036854775807) :
    WP (weirref18_New a0) w (fun r w' => (newOk xs = true → r.2 = 0 ∧ Ss W (RQ r.1 (newQ xs) :: Hs) w') ∧ (newOk xs = false → r.2 = 180 ∧ Ss W Hs w')) := by
  unfold weirref18_New
  obtain ⟨hl, _⟩ := s.rd_len e r
  refine WP.slot' s (fun b w s => WP.step (rout_wp s _ 1 8) ?_)
  rintro _ w ⟨rfl, s⟩
  refine WP.ite (fun h => ?_) (fun h => ?_)
  · have h := of_decide_eq_true h
    have hno := newOk_len (xs := xs) (by omega)
    exact WP.ret ⟨fun h => (by rw [hno] at h; cases h), fun _ => ⟨rfl, s⟩⟩
  · have h : ¬ ((a0.len : Int) < 1 ∨ (a0.len : Int) > 8) := fun hx => h (decide_eq_true hx)
    refine WP.slot' s (fun b w s => ?_)
    have e0 := s.triv (A := vec c_weirref18_Line Sl.nil [] []) (fun h => vec_nil)
    refine WP.loop (fun (x : Int × weirref18_Queue × weirref18_Queue) w' => 0 ≤ x.1 ∧ x.1 ≤ xs.length ∧ (∀ y ∈ xs.take x.1.toNat, okClass y = true) ∧ x.2.1.At = 0 ∧ x.2.1.Given = false ∧ ∃ sp, Ss W (vec c_weirref18_Line x.2.1.L ((xs.take x.1.toNat).map newL) sp :: Hs) w') (fun x _ => ((xs.length : Int) - x.1).toNat) ⟨by simp, by simp, by simp, rfl, rfl, [], e0⟩ ?_
    rintro ⟨k, q1, q2⟩ w ⟨k0, k1, hok, ha, hg, sp, s⟩
    simp only at k0 k1 hok ha hg s
    show WP (weirref18_New.L1 a0 k q1 q2) w _
    unfold weirref18_New.L1
    refine WP.ite (fun hk => ?_) (fun hk => ?_)
    · rw [hl] at hk
      have hkl : k.toNat < xs.length := by omega
      have hx := List.getElem?_eq_getElem hkl
      generalize xs[k.toNat] = x at hx
      refine WP.rdx s (i + 1) e r k0 hx rfl (WP.slot' s (fun b2 w s => WP.step (rout_wp s _ _ _) ?_))
      rintro _ w ⟨rfl, s⟩
      have or_ : ∀ {p q : Prop} [Decidable p] [Decidable q] (w : World) (y : M Bool) (Hs : List HP), Ss W Hs w → WP y w (fun r w' => r = decide q ∧ Ss W Hs w') → WP (if decide p = true then pure true else y >>= fun r => pure r) w (fun r w' => r = decide (p ∨ q) ∧ Ss W Hs w') := by
        intro p q _ _ w y Hs s h
        refine WP.ite (fun hp => WP.ret ⟨?_, s⟩) (fun hp => WP.step h ?_)
        · have := of_decide_eq_true hp
          simp [this]
        · rintro _ w ⟨rfl, s⟩
          refine WP.ret ⟨?_, s⟩
          have : ¬ p := fun h => hp (decide_eq_true h)
          simp [this]
      refine WP.step (or_ w _ _ s (rout_wp s x.Items 1 4096)) ?_
      rintro _ w ⟨rfl, s⟩
      refine WP.step (or_ w _ _ s (rout_wp s x.Bytes 1 67108864)) ?_
      rintro _ w ⟨rfl, s⟩
      refine WP.step (or_ w _ _ s (rout_wp s x.Rate 0 67108864)) ?_
      rintro _ w ⟨rfl, s⟩
      refine WP.step (or_ (q := x.Rate > 0 ∧ (x.Burst < 65535 ∨ x.Burst > 268435456)) w _ _ s (WP.ite (fun hr => ?_) (fun hr => WP.ret ⟨by simp [hr], s⟩))) ?_
      · refine WP.step (rout_wp s x.Burst 65535 268435456) ?_
        rintro _ w ⟨rfl, s⟩
        refine WP.ret ⟨?_, s⟩
        rw [decide_eq_decide]
        exact ⟨fun h => ⟨hr, h⟩, fun h => h.2⟩
      rintro _ w ⟨rfl, s⟩
      refine WP.ite (fun hb => WP.done ?_) (fun hb => ?_)
      · have hb := of_decide_eq_true hb
        have hno : newOk xs = false := newOk_bad (List.mem_of_getElem? hx) (by
          rw [Bool.eq_false_iff]
          intro hc
          have := okClass_iff.1 hc
          omega)
        exact ⟨fun h => (by rw [hno] at h; cases h), fun _ => ⟨rfl, s.drop⟩⟩
      · have hb' : ¬ _ := fun hx => hb (decide_eq_true hx)
        have hs : okClass x = true := by
          rw [okClass_iff]
          omega
        refine WP.slot' s (fun b3 w s => ?_)
        refine WP.appl s 0 rfl (by simp; omega) (by omega) (fun r' w sp' s => WP.next ?_)
        rw [wrap_i64 (by omega) (by omega)]
        have htk : xs.take (k + 1).toNat = xs.take k.toNat ++ [x] := by rw [show (k + 1).toNat = k.toNat + 1 by omega, List.take_add_one, hx]; rfl
        refine ⟨⟨by simp only; omega, by simp only; omega, ?_, ha, hg, sp', ?_⟩, by simp only; omega⟩
        · simp only
          rw [htk]
          intro y hy
          rcases List.mem_append.1 hy with hy | hy
          · exact hok y hy
          · simp only [List.mem_singleton] at hy
            subst hy
            exact hs
        · simp only
          rw [htk, List.map_append]
          exact s
    · rw [hl] at hk
      have hkn : k.toNat = xs.length := by omega
      rw [hkn, List.take_length] at s hok
      have hyes : newOk xs = true := by
        unfold newOk
        simp only [Bool.and_eq_true, decide_eq_true_eq, List.all_eq_true]
        exact ⟨⟨fun e => by rw [e] at hl; simp at hl; omega, by omega⟩, hok⟩
      refine WP.done ⟨fun _ => ⟨rfl, ?_⟩, fun h => by rw [hyes] at h; cases h⟩
      have s2 := items_none xs (Ss.vec_freeze s)
      have s3 : Ss W (rdS c_weirref18_Line false q1.L (xs.map newL) :: (items (xs.map newL) (newQ xs).qs ++ Hs)) w := s2.perm List.perm_middle
      refine s3.closeR ⟨by rw [ha]; rfl, hg, ?_⟩
      unfold LsOk newQ
      simp only [List.map_map]
      rfl
/-- a step on a queue and the document's: both answer alike -/
theorem step_wp {sd : weirlaw18_Side} {m : QM} (s : Ss W (Queue sd.Q m :: RQ sd.R m :: Hs) w) (o : weirlaw18_Op) : WP (weirlaw18_step sd o) w (fun r w' => r.2 = true ∧ ∃ m', Ss W (Queue r.1.Q m' :: RQ r.1.R m' :: Hs) w') := by
  unfold weirlaw18_step
  have ok := s.len_ge
  refine WP.slot' s (fun b w s => WP.slot' s (fun b w s => WP.slot' s (fun b w s => ?_)))
  refine WP.ite (fun _ => ?_) (fun _ => ?_)
  · refine WP.step (Push_wp s o.Class o.Size o.Item) ?_
    rintro _ w ⟨rfl, s⟩
    refine WP.step (rPush_wp s 1 rfl ok o.Class o.Size o.Item) ?_
    rintro r w ⟨hr, s⟩
    refine WP.slot' s (fun b w s => WP.draw' s (fun w s => ?_))
    unfold weirlaw18_num
    refine WP.ret ⟨?_, _, (s.use [1, 0] rfl).use [2] rfl |>.drop⟩
    simp [hr]
  refine WP.ite (fun _ => ?_) (fun _ => ?_)
  · obtain ⟨res, m2, hp⟩ := Pops.exist ok
    refine WP.step (Pop_wp s hp) ?_
    rintro _ w ⟨rfl, s⟩
    refine WP.step (rPop_wp s 1 rfl ok hp) ?_
    rintro r w ⟨hr, s⟩
    refine WP.slot' s (fun b w s => ?_)
    rw [hr, if_pos rfl]
    refine WP.step (R := fun y w' => y = true ∧ w = w') (WP.ret ⟨by simp, rfl⟩) ?_
    rintro _ _ ⟨rfl, rfl⟩
    rw [if_pos rfl]
    refine WP.step (R := fun y w' => y = true ∧ w = w') (WP.ret ⟨by simp, rfl⟩) ?_
    rintro _ _ ⟨rfl, rfl⟩
    exact WP.ret ⟨rfl, _, (s.use [1, 0] rfl).use [2] rfl |>.drop⟩
  refine WP.ite (fun _ => ?_) (fun _ => ?_)
  · obtain ⟨res, m2, hp⟩ := Pops.exist ok
    refine WP.step (Peek_wp s hp) ?_
    rintro _ w ⟨rfl, s⟩
    refine WP.step (rPeek_wp s 1 rfl ok hp) ?_
    rintro _ w ⟨rfl, s⟩
    rw [if_pos rfl]
    refine WP.step (R := fun y w' => y = true ∧ w = w') (WP.ret ⟨by simp, rfl⟩) ?_
    rintro _ _ ⟨rfl, rfl⟩
    rw [if_pos rfl]
    refine WP.step (R := fun y w' => y = true ∧ w = w') (WP.ret ⟨by simp, rfl⟩) ?_
    rintro _ _ ⟨rfl, rfl⟩
    exact WP.ret ⟨rfl, m, s⟩
  refine WP.ite (fun _ => ?_) (fun _ => ?_)
  · refine WP.step (Tick_wp s) ?_
    intro _ w s
    refine WP.step (rTick_wp s 1 rfl ok) ?_
    intro r w s
    exact WP.ret ⟨rfl, _, (s.use [1, 0] rfl).use [2] rfl |>.drop⟩
  refine WP.ite (fun _ => ?_) (fun _ => WP.ret ⟨rfl, m, s⟩)
  refine WP.draw' s (fun w s => WP.step (Len_wp s o.Class) ?_)
  rintro _ w ⟨rfl, s⟩
  refine WP.step (rLen_wp s 1 rfl ok o.Class) ?_
  rintro _ w ⟨rfl, s⟩
  rw [if_pos rfl]
  refine WP.step (R := fun y w' => y = true ∧ Ss W (Queue sd.Q m :: RQ sd.R m :: Hs) w') (WP.step (Bytes_wp s o.Class) ?_) ?_
  · rintro _ w ⟨rfl, s⟩
    refine WP.step (rBytes_wp s 1 rfl ok o.Class) ?_
    rintro _ w ⟨rfl, s⟩
    exact WP.ret ⟨by simp, s⟩
  rintro _ w ⟨rfl, s⟩
  exact WP.ret ⟨rfl, m, s⟩
end
end Go.Proofs.Ytgddbpmfendaeaa.Lx
