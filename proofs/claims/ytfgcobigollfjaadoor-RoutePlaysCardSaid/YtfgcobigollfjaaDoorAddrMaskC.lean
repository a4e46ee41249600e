
import Derived.Test.YtfgcobigollfjaaDoorAddrMask
set_option linter.unusedVariables false
set_option linter.unusedSimpArgs false
namespace Go.Proofs.YtfgcobigollfjaaDoor.Lx
open Go Go.Proofs Go.RowKit
section
variable {W w : World} {Hs : List HP}
theorem ZlH (s : Ss W Hs w) (ip : ZaH) (hb : Byt ip.A.l) (n : Int) : WP (ZdC ip n) w (fun r w' => r = mkM ip n ∧ Ss W Hs w') := by
 unfold ZdC
 have hz := Zd2 ip
 refine WP.slot' s (fun _ w s => WP.slot' s (fun _ w s => WP.step (ZkB s ip) ?_))
 rintro _ w ⟨rfl, s⟩
 refine WP.ite (fun h => WP.ret ⟨by unfold mkM; rw [if_pos h], s⟩) (fun h0 => ?_)
 refine WP.step (R := fun y w' => y = decide (n < 0 ∨ n > Zbo ip) ∧ Ss W Hs w') (WP.ite (fun h => WP.ret ⟨by simp [h], s⟩) (fun h => WP.ret ⟨by simp [h], s⟩)) ?_
 rintro _ w ⟨rfl, s⟩
 refine WP.ite (fun h => WP.ret ⟨by unfold mkM; rw [if_neg h0, if_pos (of_decide_eq_true h)], s⟩) (fun h => WP.draw' s (fun w s => ?_))
 have hn : ¬ (n < 0 ∨ n > Zbo ip) := fun h' => h (decide_eq_true h')
 refine WP.step (Zir s ip.A hb (by omega) (by omega)) ?_
 rintro _ w ⟨rfl, s⟩
 exact WP.ret ⟨by unfold mkM; rw [if_neg h0, if_neg hn], s⟩
end
end Go.Proofs.YtfgcobigollfjaaDoor.Lx
