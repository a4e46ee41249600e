/- weirlaw4.known and plays' last part: what addresses and prefixes are, as the document says. -/
import Derived.Test.YtddmmgcfanpmmaaGreatDoorAddrScript
import Derived.Test.YtddmmgcfanpmmaaGreatDoorAddrRefG
import Derived.Test.YtddmmgcfanpmmaaGreatDoorAddrRefA3
import Derived.Test.YtddmmgcfanpmmaaGreatDoorAddrMaskC
set_option linter.unusedVariables false
set_option linter.unusedSimpArgs false
namespace Go.Proofs.YtddmmgcfanpmmaaGreatDoor.Lx
open Go Go.Proofs Go.RowKit
section
variable {W w : World} {Hs : List HP}
theorem known_wp (s : Ss W Hs w) (t' : Nat) (et' : nth Hs t' = some TabC) (o : weirlaw4_Op) (h : OpB o) : WP (weirlaw4_known o) w (fun r w' => r = true ∧ Ss W Hs w') := by
  unfold weirlaw4_known
  refine WP.slot' s (fun _ w s => WP.ite (fun _ => WP.step (Valid_wp s _) ?_) (fun _ => WP.ite (fun _ => WP.step (ValidPrefix_wp s _ h.p) ?_) (fun _ => WP.ite (fun _ => WP.step (Mask_wp s _ h.a _) ?_) (fun _ => WP.ite (fun _ => WP.step (Contains_wp s _ h.p _ h.a) ?_) (fun _ => WP.ite (fun _ => WP.step (Class_wp s t' et' _ h.a) ?_) (fun _ => WP.step (Less_wp s _ _) ?_))))))
  · rintro _ w ⟨rfl, s⟩
    refine WP.step (rValid_wp s _) ?_
    rintro _ w ⟨rfl, s⟩
    exact WP.ret ⟨beq_iff_eq.2 rfl, s⟩
  · rintro _ w ⟨rfl, s⟩
    refine WP.step (rValidPrefix_wp s _ h.p) ?_
    rintro _ w ⟨rfl, s⟩
    exact num_wp (WP.ret ⟨beq_iff_eq.2 rfl, s⟩)
  · rintro _ w ⟨rfl, s⟩
    refine WP.slot' s (fun _ w s => WP.step (rMask_wp s _ h.a _) ?_)
    rintro _ w ⟨rfl, s⟩
    exact WP.slot' s (fun _ w s => pair2_wp s _)
  · rintro _ w ⟨rfl, s⟩
    refine WP.step (rContains_wp s _ h.p _ h.a) ?_
    rintro _ w ⟨rfl, s⟩
    exact WP.ret ⟨beq_iff_eq.2 rfl, s⟩
  · rintro _ w ⟨rfl, s⟩
    refine WP.step (rClass_wp s _ h.a) ?_
    rintro _ w ⟨rfl, s⟩
    exact WP.ret ⟨beq_iff_eq.2 rfl, s⟩
  · rintro _ w ⟨rfl, s⟩
    refine WP.step (rLess_wp s _ _) ?_
    rintro _ w ⟨rfl, s⟩
    exact WP.ret ⟨beq_iff_eq.2 rfl, s⟩
theorem plays_K1 (s : Ss W Hs w) (t' : Nat) (et' : nth Hs t' = some TabC) (o : weirlaw4_Op) (h : OpB o) (j : Bool) : WP (weirlaw4_plays.K1 o j) w (fun r w' => r = true ∧ Ss W Hs w') := by
  unfold weirlaw4_plays.K1
  refine WP.ite (fun _ => WP.step (known_wp s t' et' o h) (fun r w h => WP.ret h)) (fun _ => WP.ite (fun _ => WP.step (GroupMac_wp s t' et' _ h.a) ?_) (fun _ => WP.ite (fun _ => WP.step (Solicited_wp s t' et' _ h.a) ?_) (fun _ => WP.ret ⟨rfl, s⟩)))
  · rintro _ w ⟨rfl, s⟩
    refine WP.slot' s (fun _ w s => WP.step (rGroupMac_wp s _ h.a) ?_)
    rintro _ w ⟨rfl, s⟩
    exact WP.slot' s (fun _ w s => pair2_wp s _)
  · rintro _ w ⟨rfl, s⟩
    refine WP.slot' s (fun _ w s => WP.step (rSolicited_wp s _ h.a) ?_)
    rintro _ w ⟨rfl, s⟩
    exact WP.slot' s (fun _ w s => pair2_wp s _)
end
end Go.Proofs.YtddmmgcfanpmmaaGreatDoor.Lx
