/- weirlaw4.parsed: every text is read as the document says. -/
import Derived.Test.YtddmmgcfanpmmaaGreatDoorAddrScript
import Derived.Test.YtddmmgcfanpmmaaGreatDoorAddrRefE
import Derived.Test.YtddmmgcfanpmmaaGreatDoorAddrRefE2
import Derived.Test.YtddmmgcfanpmmaaGreatDoorAddrParse3
set_option linter.unusedVariables false
set_option linter.unusedSimpArgs false
namespace Go.Proofs.YtddmmgcfanpmmaaGreatDoor.Lx
open Go Go.Proofs Go.RowKit
section
variable {W w : World} {Hs : List HP}
theorem parsed_wp (s : Ss W Hs w) (o : weirlaw4_Op) : WP (weirlaw4_parsed o) w (fun r w' => r = true ∧ Ss W Hs w') := by
  unfold weirlaw4_parsed
  refine WP.slot' s (fun _ w s => WP.ite (fun _ => WP.step (ParseIP_wp s _) ?_) (fun _ => WP.ite (fun _ => WP.step (ParsePrefix_wp s _) ?_) (fun _ => WP.step (ParseMac_wp s _) ?_)))
  · rintro _ w ⟨rfl, s⟩
    refine WP.slot' s (fun _ w s => WP.step (rParseIP_wp s _) ?_)
    rintro _ w ⟨rfl, s⟩
    exact WP.slot' s (fun _ w s => trip_wp s _)
  · rintro _ w ⟨rfl, s⟩
    refine WP.slot' s (fun _ w s => WP.step (rParsePrefix_wp s _) ?_)
    rintro _ w ⟨rfl, s⟩
    exact WP.slot' s (fun _ w s => trip_wp s _)
  · rintro _ w ⟨rfl, s⟩
    refine WP.slot' s (fun _ w s => WP.step (rParseMac_wp s _) ?_)
    rintro _ w ⟨rfl, s⟩
    exact WP.slot' s (fun _ w s => trip_wp s _)
end
end Go.Proofs.YtddmmgcfanpmmaaGreatDoor.Lx
