/- weirlaw4.printed: every value is printed as the document says. -/
import Derived.Test.YtddmmgcfanpmmaaGreatDoorAddrScript
import Derived.Test.YtddmmgcfanpmmaaGreatDoorAddrRefF
set_option linter.unusedVariables false
set_option linter.unusedSimpArgs false
namespace Go.Proofs.YtddmmgcfanpmmaaGreatDoor.Lx
open Go Go.Proofs Go.RowKit
section
variable {W w : World} {Hs : List HP}
theorem printed_wp (s : Ss W Hs w) (t : Nat) (et : nth Hs t = some TabN) (o : weirlaw4_Op) (h : OpB o) : WP (weirlaw4_printed o) w (fun r w' => r = true ∧ Ss W Hs w') := by
  unfold weirlaw4_printed
  refine WP.slot' s (fun _ w s => WP.ite (fun _ => WP.step (PrintIP_wp s t et _ h.a) ?_) (fun _ => WP.ite (fun _ => WP.step (PrintPrefix_wp s t et _ h.p) ?_) (fun _ => WP.step (PrintMac_wp s _ h.m) ?_)))
  · rintro _ w ⟨rfl, s⟩
    refine WP.step (rPrintIP_wp s _ h.a) ?_
    rintro _ w ⟨rfl, s⟩
    exact pairT_wp s _
  · rintro _ w ⟨rfl, s⟩
    refine WP.step (rPrintPrefix_wp s _ h.p) ?_
    rintro _ w ⟨rfl, s⟩
    exact pairT_wp s _
  · rintro _ w ⟨rfl, s⟩
    refine WP.step (rPrintMac_wp s _ h.m) ?_
    rintro _ w ⟨rfl, s⟩
    exact WP.ret ⟨beq_iff_eq.2 rfl, s⟩
end
end Go.Proofs.YtddmmgcfanpmmaaGreatDoor.Lx
