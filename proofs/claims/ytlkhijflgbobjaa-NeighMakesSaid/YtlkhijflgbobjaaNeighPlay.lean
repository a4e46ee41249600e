/- A first play, all plays. -/
import Derived.Test.YtlkhijflgbobjaaNeighSide
set_option linter.unusedVariables false
set_option linter.unusedSimpArgs false
namespace Go.Proofs.Ytlkhijflgbobjaa.Lx
open Go Go.Proofs Go.RowKit
abbrev ip4 (d : Int) : api_IP := ⟨4, ⟨[10, 0, 0, d, 0, 0, 0, 0, 0, 0, 0, 0, 0, 0, 0, 0], rfl⟩⟩
def ops7 : Vec weirlaw15_Op 7 := ⟨[(⟨1, z_weirlaw15_Op.Two, z_weirlaw15_Op.Port, ip4 1, z_weirlaw15_Op.Mac, 7⟩ : weirlaw15_Op), (⟨3, z_weirlaw15_Op.Two, z_weirlaw15_Op.Port, z_weirlaw15_Op.IP, z_weirlaw15_Op.Mac, z_weirlaw15_Op.N⟩ : weirlaw15_Op), (⟨3, z_weirlaw15_Op.Two, z_weirlaw15_Op.Port, z_weirlaw15_Op.IP, z_weirlaw15_Op.Mac, z_weirlaw15_Op.N⟩ : weirlaw15_Op), (⟨2, z_weirlaw15_Op.Two, z_weirlaw15_Op.Port, ip4 1, (⟨[2, 0, 0, 0, 0, 1], rfl⟩ : (Vec Int 6)), 1⟩ : weirlaw15_Op), (⟨1, z_weirlaw15_Op.Two, z_weirlaw15_Op.Port, ip4 1, z_weirlaw15_Op.Mac, 8⟩ : weirlaw15_Op), (⟨5, z_weirlaw15_Op.Two, z_weirlaw15_Op.Port, z_weirlaw15_Op.IP, z_weirlaw15_Op.Mac, z_weirlaw15_Op.N⟩ : weirlaw15_Op), (⟨6, z_weirlaw15_Op.Two, z_weirlaw15_Op.Port, z_weirlaw15_Op.IP, z_weirlaw15_Op.Mac, z_weirlaw15_Op.N⟩ : weirlaw15_Op)], rfl⟩
theorem ops7_bts : ∀ o ∈ ops7.l, Bts o.IP.A.l ∧ Bts o.Mac.l := by decide +kernel
theorem ops7_one : (ops7.l.foldl NM.next ⟨⟨2, 2, 2, 2, 3⟩, []⟩).l.length = 1 := by decide +kernel
section
variable {W w : World} {R Hs : List HP}
theorem K2_wp {sd : weirlaw15_Side} (s : Ss W (Sd sd ⟨⟨2, 2, 2, 2, 3⟩, []⟩ :: R) w) (b : Nat) : WP (weirlaw15_started.K2 (sd, true) b ops7) w (fun x w' => x = true ∧ Ss W R w') := by
  unfold weirlaw15_started.K2
  refine WP.loopG (γ := Nat) (fun k (x : Bool × Int × weirlaw15_Side) w => x.1 = true ∧ x.2.1 = (k : Int) ∧ k ≤ 7 ∧ Ss W (Sd x.2.2 ((ops7.l.take k).foldl NM.next ⟨⟨2, 2, 2, 2, 3⟩, []⟩) :: R) w) (fun k _ => 7 - k) 0 ⟨rfl, rfl, by omega, s⟩ ?_
  clear s
  rintro k ⟨_, _, sd⟩ w ⟨rfl, rfl, hk, s⟩
  simp only at s
  show WP (weirlaw15_started.L1 ops7 true (k : Int) sd) w _
  unfold weirlaw15_started.L1
  refine WP.step (R := fun y w' => y = decide (k < 7) ∧ w = w') (WP.ite (fun h => WP.ret ⟨(decide_eq_true (by omega)).symm, rfl⟩) (fun h => WP.ret ⟨(decide_eq_false (by omega)).symm, rfl⟩)) ?_
  rintro _ _ ⟨rfl, rfl⟩
  refine WP.ite (fun h => WP.draw' s (fun w s => WP.chk (by have := of_decide_eq_true h; omega) ?_)) (fun h => ?_)
  · have h := of_decide_eq_true h
    have ho := vec_g ops7 (i := k) z_weirlaw15_Op h
    generalize Vec.g ops7 (k : Int) z_weirlaw15_Op = o at ho
    obtain ⟨b1, b2⟩ := ops7_bts o (List.mem_of_getElem? ho)
    refine WP.step (step_wp s o b1 b2) ?_
    rintro ⟨sd', ok'⟩ w ⟨h1, s⟩
    simp only at h1 s
    subst h1
    refine WP.next ⟨k + 1, ⟨rfl, by simp only; rw [wrap_i64 (by omega) (by omega)]; simp, by omega, ?_⟩, by omega⟩
    rw [List.take_add_one, ho, List.foldl_append]
    exact s
  · have h : ¬ k < 7 := fun hh => h (decide_eq_true hh)
    obtain rfl : k = 7 := by omega
    have e7 : ops7.l.take 7 = ops7.l := by rw [List.take_of_length_le (by rw [ops7.h]; omega)]
    rw [e7] at s
    obtain ⟨ok, s⟩ := s.openS
    obtain ⟨pa, b', pl, hp, _⟩ := s.openC
    have hone := ops7_one
    generalize ops7.l.foldl NM.next ⟨⟨2, 2, 2, 2, 3⟩, []⟩ = m at s hone
    obtain ⟨z, hc, hz, s1⟩ := (s.perm (List.Perm.swap _ _ _)).openF
    have hl := (RefZ_len s1 (i := 0) rfl).1
    have hzl : z.length = 1 := by rw [← hone, ← hz, List.length_map]
    unfold weirlaw15_started.K1
    refine WP.step (R := fun x w' => x = true ∧ Ss W R w') ?_ (fun r w h => WP.done h)
    refine WP.step (R := fun y w' => y = true ∧ w = w') (WP.ite (fun _ => WP.ret ⟨by rw [hp]; rfl, rfl⟩) (fun h => absurd rfl h)) ?_
    rintro _ _ ⟨rfl, rfl⟩
    refine WP.step (R := fun y w' => y = true ∧ w = w') (WP.ite (fun _ => WP.ret ⟨by rw [hl, hzl]; rfl, rfl⟩) (fun h => absurd rfl h)) ?_
    rintro _ _ ⟨rfl, rfl⟩
    exact WP.ret ⟨rfl, s.drop.drop⟩
theorem started_wp (s : Ss W R w) : WP weirlaw15_started w (fun x w' => x = true ∧ Ss W R w') := by
  unfold weirlaw15_started
  refine WP.step (made_wp s _) ?_
  rintro ⟨sd, ok⟩ w ⟨h, c', hc, he, s⟩
  simp only at h s
  subst h
  have hcc : c' = ⟨2, 2, 2, 2, 3⟩ := he ((cfg_iff _).2 (by decide))
  subst hcc
  refine WP.slot' s (fun _ w s => WP.slot' s (fun _ w s => WP.draws s (fun σ w s => ?_)))
  refine WP.ite (fun _ => ?_) (fun _ => ?_)
  · refine WP.ite (fun _ => ?_) (fun _ => ?_)
    · refine WP.ite (fun _ => ?_) (fun _ => ?_)
      · refine WP.step (ip_wp s 1) ?_
        rintro _ w ⟨rfl, s⟩
        refine WP.step (ip_wp s 1) ?_
        rintro _ w ⟨rfl, s⟩
        refine WP.step (ip_wp s 1) ?_
        rintro _ w ⟨rfl, s⟩
        exact WP.slot' s (fun b w s => K2_wp s b)
      · refine WP.step (ip_wp s 1) ?_
        rintro _ w ⟨rfl, s⟩
        refine WP.step (ip_wp s 1) ?_
        rintro _ w ⟨rfl, s⟩
        refine WP.slot' s (fun b w s => WP.step (ip_wp s 1) ?_)
        rintro _ w ⟨rfl, s⟩
        exact K2_wp s b
    · refine WP.step (ip_wp s 1) ?_
      rintro _ w ⟨rfl, s⟩
      refine WP.slot' s (fun b w s => WP.step (ip_wp s 1) ?_)
      rintro _ w ⟨rfl, s⟩
      refine WP.step (ip_wp s 1) ?_
      rintro _ w ⟨rfl, s⟩
      exact K2_wp s b
  · refine WP.slot' s (fun b w s => WP.step (ip_wp s 1) ?_)
    rintro _ w ⟨rfl, s⟩
    refine WP.step (ip_wp s 1) ?_
    rintro _ w ⟨rfl, s⟩
    refine WP.step (ip_wp s 1) ?_
    rintro _ w ⟨rfl, s⟩
    exact K2_wp s b
end
end Go.Proofs.Ytlkhijflgbobjaa.Lx
