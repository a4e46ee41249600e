/- The laws' common start (weirlaw4: num, loop, started). -/
import Derived.Test.YtddmmgcfanpmmaaGreatDoorAddrPrint2
import Derived.Test.YtddmmgcfanpmmaaGreatDoorAddrParse2
import Derived.Test.YtddmmgcfanpmmaaGreatDoorAddrClass
set_option linter.unusedVariables false
set_option linter.unusedSimpArgs false
namespace Go.Proofs.YtddmmgcfanpmmaaGreatDoor.Lx
open Go Go.Proofs Go.RowKit
def loopV : api_IP := ⟨4, (⟨[127, 0, 0, 1, 0, 0, 0, 0, 0, 0, 0, 0, 0, 0, 0, 0], rfl⟩ : (Vec Int 16))⟩
theorem loop_byt : Byt loopV.A.l := by
  intro x hx
  have : x = 127 ∨ x = 0 ∨ x = 1 := by
    simp only [loopV, List.mem_cons, List.not_mem_nil, or_false] at hx
    omega
  omega
theorem loop_txt : strI str10 = prIP loopV := by decide +kernel
theorem loop_size : sizeM loopV = 32 := by decide +kernel
theorem loop_class : classM loopV = 2 := by decide +kernel
theorem loop_ip : ipM (strI str10) = (loopV, 0, 0) := by decide +kernel
theorem loop_pi : piM loopV = (str10, 0) := by
  unfold piM
  rw [if_pos (by rw [loop_size]; decide), ← loop_txt, bstr_strI]
section
variable {W w : World} {Hs : List HP}
theorem loop_wp (s : Ss W Hs w) : WP weirlaw4_loop w (fun r w' => r = loopV ∧ Ss W Hs w') := by
  unfold weirlaw4_loop
  exact WP.slot' s (fun _ w s => WP.ret ⟨rfl, s⟩)
theorem num_wp {β : Type} {x : Int} {f : Int → M β} {Q : β → World → Prop} (h : WP (f x) w Q) : WP (weirlaw4_num x >>= f) w Q := WP.bind ⟨x, w, rfl, h⟩
theorem started_wp (s : Ss W Hs w) (t t' : Nat) (et : nth Hs t = some TabN) (et' : nth Hs t' = some TabC) : WP weirlaw4_started w (fun r w' => r = true ∧ Ss W Hs w') := by
  unfold weirlaw4_started
  refine WP.step (ParseIP_wp s _) ?_
  rintro _ w ⟨rfl, s⟩
  rw [loop_ip]
  refine WP.slot' s (fun _ w s => WP.step (loop_wp s) ?_)
  rintro _ w ⟨rfl, s⟩
  refine WP.step (PrintIP_wp s t et _ loop_byt) ?_
  rintro _ w ⟨rfl, s⟩
  rw [loop_pi]
  refine WP.step (loop_wp s) ?_
  rintro _ w ⟨rfl, s⟩
  refine WP.step (Class_wp s t' et' _ loop_byt) ?_
  rintro _ w ⟨rfl, s⟩
  rw [loop_class]
  refine WP.draw' s (fun w s => WP.step (loop_wp s) ?_)
  rintro _ w ⟨rfl, s⟩
  refine WP.step (R := fun y w' => y = true ∧ w = w') (WP.ite (fun _ => num_wp (WP.ret ⟨rfl, rfl⟩)) (fun h => absurd rfl h)) ?_
  rintro _ _ ⟨rfl, rfl⟩
  refine WP.step (R := fun y w' => y = true ∧ w = w') (WP.ite (fun _ => WP.ret ⟨rfl, rfl⟩) (fun h => absurd rfl h)) ?_
  rintro _ _ ⟨rfl, rfl⟩
  refine WP.step (R := fun y w' => y = true ∧ w = w') (WP.ite (fun _ => WP.ret ⟨beq_self_eq_true _, rfl⟩) (fun h => absurd rfl h)) ?_
  rintro _ _ ⟨rfl, rfl⟩
  refine WP.step (R := fun y w' => y = true ∧ w = w') (WP.ite (fun _ => num_wp (WP.ret ⟨rfl, rfl⟩)) (fun h => absurd rfl h)) ?_
  rintro _ _ ⟨rfl, rfl⟩
  refine WP.step (R := fun y w' => y = true ∧ w = w') (WP.ite (fun _ => WP.ret ⟨rfl, rfl⟩) (fun h => absurd rfl h)) ?_
  rintro _ _ ⟨rfl, rfl⟩
  exact WP.ret ⟨rfl, s⟩
end
end Go.Proofs.YtddmmgcfanpmmaaGreatDoor.Lx
