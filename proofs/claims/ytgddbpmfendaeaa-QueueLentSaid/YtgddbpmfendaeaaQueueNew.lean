/- Package queue's New, of its program in the M-world: which classes make a queue, and that it is the plain one. -/
import Derived.Test.YtgddbpmfendaeaaQueueOps2
import Derived.Test.YtgddbpmfendaeaaLxV
set_option linter.unusedVariables false
set_option linter.unusedSimpArgs false
namespace Go.Proofs.Ytgddbpmfendaeaa.Lx
open Go Go.Proofs Go.RowKit

def newOk (xs : List api_Class) : Bool := decide (xs ≠ [] ∧ xs.length ≤ 8) && xs.all okClass
def newCl (c : api_Class) : Cl := ⟨c, [], 0, c.Burst⟩
def newQ (xs : List api_Class) : QM := ⟨xs.map newCl, 0, false⟩
theorem newQ_ok {xs : List api_Class} (h : newOk xs = true) : (newQ xs).Ok := by
  unfold newOk at h
  simp only [Bool.and_eq_true, decide_eq_true_eq, List.all_eq_true] at h
  obtain ⟨⟨h1, h2⟩, h3⟩ := h
  have hl := List.length_pos_iff.2 h1
  refine ⟨by show 0 < (xs.map newCl).length; simpa using hl, by show (xs.map newCl).length ≤ 8; simpa using h2, fun k hk => ?_, fun i k hi _ => ?_⟩
  · obtain ⟨c, hc, rfl⟩ := List.mem_map.1 hk
    have := okClass_iff.1 (h3 c hc)
    refine ⟨h3 c hc, by simp [newCl]; omega, by simp [newCl, sizes]; omega, by simp [newCl], by simp [newCl], by simp [newCl], fun hR => ?_, fun _ => by simp [newCl]⟩
    simp only [newCl] at hR ⊢
    omega
  · have hi' : (xs.map newCl)[i]? = some k := hi
    rw [List.getElem?_map] at hi'
    obtain ⟨c, _, rfl⟩ := Option.map_eq_some_iff.1 hi'
    simp [newCl]
theorem Ss.triv {W w : World} {A : HP} {l : List HP} (s : Ss W l w) (h : ∀ h, A h) : Ss W (A :: l) w := by
  obtain ⟨hb, k, hs, hw⟩ := s
  exact ⟨hb, k, ⟨PH.nil, k, fun _ _ _ _ hx => (by cases hx), fun _ _ _ hx => (by cases hx), fun _ _ _ hx => hx, h _, hs⟩, hw⟩
theorem ring_none (h : PH) : Ring z_queue_line_queue_item [] h := ⟨[], ⟨by decide, rfl, by simp, fun h => absurd rfl h, by simp, fun j hj => by simp at hj⟩, vec_nil⟩
def newC (c : api_Class) : queue_class := ⟨c, z_queue_line_queue_item, 0, c.Burst⟩
theorem rings_none {W w : World} {l : List HP} (xs : List api_Class) (s : Ss W l w) : Ss W (rings (xs.map newC) (newQ xs).qs ++ l) w := by
  induction xs with
  | nil => exact s
  | cons c xs ih => exact ih.triv (fun h => ring_none h)
section
variable {W w : World}
theorem sound_wp {Hs : List HP} (s : Ss W Hs w) (c : api_Class) : WP (queue_sound c) w (fun r w' => r = okClass c ∧ Ss W Hs w') := by
  unfold queue_sound
  refine WP.slot' s (fun b w s => ?_)
  refine WP.step (outside_wp s c.Quantum 64 65535) ?_
  rintro _ w ⟨rfl, s⟩
  have or_ : ∀ {p q : Prop} [Decidable p] [Decidable q] (w : World) (y : M Bool), Ss W Hs w → WP y w (fun r w' => r = decide q ∧ Ss W Hs w') → WP (if decide p = true then pure true else y >>= fun r => pure r) w (fun r w' => r = decide (p ∨ q) ∧ Ss W Hs w') := by
    intro p q _ _ w y s h
    refine WP.ite (fun hp => WP.ret ⟨?_, s⟩) (fun hp => WP.step h ?_)
    · have := of_decide_eq_true hp
      simp [this]
    · rintro _ w ⟨rfl, s⟩
      refine WP.ret ⟨?_, s⟩
      have : ¬ p := fun h => hp (decide_eq_true h)
      simp [this]
  refine WP.step (or_ w _ s (outside_wp s c.Items 1 4096)) ?_
  rintro _ w ⟨rfl, s⟩
  refine WP.step (or_ w _ s (outside_wp s c.Bytes 1 67108864)) ?_
  rintro _ w ⟨rfl, s⟩
  refine WP.step (or_ w _ s (outside_wp s c.Rate 0 67108864)) ?_
  rintro _ w ⟨rfl, s⟩
  refine WP.ite (fun h => WP.ret ⟨?_, s⟩) (fun h => ?_)
  · have := of_decide_eq_true h
    symm
    rw [Bool.eq_false_iff]
    intro hc
    have := okClass_iff.1 hc
    omega
  · have h1 : ¬ _ := fun hx => h (decide_eq_true hx)
    refine WP.step (R := fun r w' => r = okClass c ∧ Ss W Hs w') (WP.ite (fun h => WP.ret ⟨?_, s⟩) (fun h => ?_)) (fun r w h => WP.ret h)
    · symm
      rw [okClass_iff]
      omega
    · refine WP.step (outside_wp s c.Burst 65535 268435456) ?_
      rintro _ w ⟨rfl, s⟩
      refine WP.ret ⟨?_, s⟩
      rw [Bool.eq_iff_iff, okClass_iff]
      simp only [Bool.not_eq_true', decide_eq_false_iff_not]
      omega
theorem New_wp {Hs : List HP} {A : HP} {a0 : Sl} {xs : List api_Class} (s : Ss W Hs w) (i : Nat) (e : nth Hs i = some A) (r : Rdb A c_api_Class a0 xs) :
    WP (queue_New a0) w (fun r w' => (newOk xs = true → ∃ q, r = (some q, 0) ∧ Ss W (Queue (some q) (newQ xs) :: Hs) w') ∧ (newOk xs = false → r = (none, 180) ∧ Ss W Hs w')) := by
  unfold queue_New
  obtain ⟨hl, _⟩ := s.rd_len e r
  rw [hl]
  refine WP.step (R := fun y w' => y = decide (xs.length = 0 ∨ xs.length > 8) ∧ Ss W Hs w') (WP.ite (fun h => WP.ret ⟨(decide_eq_true (.inl (by omega))).symm, s⟩) (fun h => WP.ret ⟨?_, s⟩)) ?_
  · have : ¬ xs.length = 0 := by omega
    rw [decide_eq_decide]
    constructor
    · intro h; exact .inr (by omega)
    · rintro (h | h)
      · exact absurd h this
      · omega
  rintro _ w ⟨rfl, s⟩
  refine WP.ite (fun h => ?_) (fun h => ?_)
  · have h := of_decide_eq_true h
    have hno : newOk xs = false := by
      rw [Bool.eq_false_iff]
      intro hc
      unfold newOk at hc
      simp only [Bool.and_eq_true, decide_eq_true_eq] at hc
      have := List.length_pos_iff.2 hc.1.1
      omega
    exact WP.ret ⟨fun h => (by rw [hno] at h; cases h), fun _ => ⟨rfl, s⟩⟩
  · have h : ¬ (xs.length = 0 ∨ xs.length > 8) := fun hx => h (decide_eq_true hx)
    refine WP.newv s (fun b w s => ?_)
    have e0 := s.triv (A := vec c_queue_class Sl.nil [] []) (fun h => vec_nil)
    refine WP.loop (fun (k : Int) w' => 0 ≤ k ∧ k ≤ xs.length ∧ (∀ x ∈ xs.take k.toNat, okClass x = true) ∧ ∃ sl sp, Ss W (vec c_queue_class sl ((xs.take k.toNat).map newC) sp :: pts true (pt b 0) (c_queue_Queue.enc ⟨sl, z_queue_turn⟩) :: Hs) w') (fun k _ => ((xs.length : Int) - k).toNat) ⟨by omega, by omega, by simp, Sl.nil, [], e0⟩ ?_
    rintro k w ⟨k0, k1, hok, sl, sp, s⟩
    unfold queue_New.L1
    refine WP.ite (fun hk => ?_) (fun hk => ?_)
    · rw [hl] at hk
      have hkl : k.toNat < xs.length := by omega
      have hx := List.getElem?_eq_getElem hkl
      generalize xs[k.toNat] = x at hx
      refine WP.rdx s (i + 2) e r k0 hx rfl ?_
      refine WP.slot' s (fun b2 w s => WP.step (sound_wp s x) ?_)
      rintro _ w ⟨rfl, s⟩
      refine WP.ite (fun hs => WP.done ?_) (fun hs => ?_)
      · have hno : newOk xs = false := by
          rw [Bool.eq_false_iff]
          intro hc
          unfold newOk at hc
          simp only [Bool.and_eq_true, List.all_eq_true] at hc
          exact hs (hc.2 x (List.mem_of_getElem? hx))
        exact ⟨fun h => (by rw [hno] at h; cases h), fun _ => ⟨rfl, s.drop.drop⟩⟩
      · have hs : okClass x = true := by simpa using hs
        refine WP.draw' s (fun w s => ?_)
        refine WP.ld s 1 rfl (o := 0) (by simp [Addr.add]) (At_queue_Queue_classes _) ?_
        refine WP.slot' s (fun b3 w s => ?_)
        refine WP.same s 1 rfl (o := 0) (by simp [Addr.add]) (At_queue_Queue_classes _) ?_
        refine WP.appl s 0 rfl (by simp; omega) (by omega) (fun r' w sp' s => ?_)
        refine WP.st s 1 rfl (o := 0) (by simp [Addr.add]) (Up_queue_Queue_classes _ _) (fun w s => WP.next ?_)
        rw [wrap_i64 (by omega) (by omega)]
        have htk : xs.take (k + 1).toNat = xs.take k.toNat ++ [x] := by rw [show (k + 1).toNat = k.toNat + 1 by omega, List.take_add_one, hx]; rfl
        refine ⟨⟨by omega, by omega, ?_, r', sp', ?_⟩, by omega⟩
        · rw [htk]
          intro y hy
          rcases List.mem_append.1 hy with hy | hy
          · exact hok y hy
          · simp only [List.mem_singleton] at hy
            subst hy
            exact hs
        · rw [htk, List.map_append]
          exact s
    · rw [hl] at hk
      have hkn : k.toNat = xs.length := by omega
      rw [hkn, List.take_length] at s hok
      have hne : xs ≠ [] := fun e => h (.inl (by rw [e]; rfl))
      have hyes : newOk xs = true := by
        unfold newOk
        simp only [Bool.and_eq_true, decide_eq_true_eq, List.all_eq_true]
        exact ⟨⟨hne, by omega⟩, hok⟩
      refine WP.done ⟨fun _ => ⟨pt b 0, rfl, ?_⟩, fun h => by rw [hyes] at h; cases h⟩
      obtain ⟨ca, esl, s⟩ := s.vec_open (i := 0) rfl (.inl (by simpa using hne))
      subst esl
      have s2 := rings_none xs s
      have s3 : Ss W (QHs (pt b 0) ca z_queue_turn (xs.map newC) sp (newQ xs) Hs) w := by
        unfold QHs
        refine s2.perm ?_
        exact List.perm_middle.trans (List.Perm.cons _ List.perm_middle)
      refine s3.closeQ rfl (newQ_ok hyes) ?_ ⟨rfl, rfl, fun j y hj => ?_⟩
      · unfold CsOk newQ
        simp only [List.map_map]
        rfl
      · have hj' : (xs.map newCl)[j]? = some y := hj
        rw [List.getElem?_map] at hj'
        obtain ⟨c, hc, rfl⟩ := Option.map_eq_some_iff.1 hj'
        have := (List.getElem?_eq_some_iff.1 hc).1
        show (List.replicate 8 (0 : Int))[j]? = some 0
        rw [List.getElem?_replicate, if_pos (by omega)]
end
end Go.Proofs.Ytgddbpmfendaeaa.Lx
