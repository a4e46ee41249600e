/- The law AddrForms, of its program in the M-world: an address of version 6 is read however it is written: it answers true, and nothing that was there is turned. -/
import Derived.Test.YtddmmgcfanpmmaaDoorAddrLawForms2
import Derived.Test.YtddmmgcfanpmmaaDoorAddrTabs
set_option linter.unusedVariables false
set_option linter.unusedSimpArgs false
namespace Go.Proofs.YtddmmgcfanpmmaaDoor.Lx
open Go Go.Proofs Go.RowKit

theorem AddrForms_true : ∀ (W : World) (u0 : (Vec Int 16)) (u1 : Sl) (u2 : Int) (u3 : Int) (u4 : Bool), Laid W → (∀ x ∈ u0.l, (Lit.int .u8 x).wf = true) → (GSl (cI .i64) (Tryd.prog.bytesOf 3) (fun W u => (Lit.int .i64 u).wf = true) W u1) → ((Lit.int .i64 u2).wf = true) → ((Lit.int .i64 u3).wf = true) → (True) → ∃ W', weirlaw4_AddrForms u0 u1 u2 u3 u4 W = some (true, W') ∧ Below W.heap.size W W' := by
  intro W a u1 i j tail hL g0 g1 _ _ _
  obtain ⟨ways, _, _, s⟩ := (tabs hL).args g1 (by decide)
  obtain ⟨r, W', h, rfl, s⟩ := AddrForms_wp s 2 1 rfl rfl 0 rfl a (byt_wf g0) i j tail
  exact ⟨W', h, s.below⟩
end Go.Proofs.YtddmmgcfanpmmaaDoor.Lx
