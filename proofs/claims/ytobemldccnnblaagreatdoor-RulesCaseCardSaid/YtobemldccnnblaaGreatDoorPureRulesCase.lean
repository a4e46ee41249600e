
/- The law RulesCase, of its program in the M-world: it answers true, and nothing that was there is turned. -/
import Derived.Test.YtobemldccnnblaaGreatDoorRulesPkSame
import Derived.Test.YtobemldccnnblaaGreatDoorRulesLaws8
set_option linter.unusedVariables false
set_option linter.unusedSimpArgs false
namespace Go.Proofs.YtobemldccnnblaaGreatDoor.Lx
open Go Go.Proofs Go.RowKit

theorem PkR.app {L : List HP} {p : Zac} {k : PkC} (r : PkR L p k) (Ls : List HP) : PkR (Ls ++ L) p k := r.pushL Ls
theorem Zny : ∀ (W : World) (u0 : Sl) (u1 : Int) (u2 : Zac) (u3 : Sl), Laid W → (GSl Zak (Tryz.prog.bytesOf 76) (fun W u => G76 W u) W u0) → ((Lit.int .i64 u1).wf = true) → (G47 W u2) → (GSl (cI .i64) (Tryz.prog.bytesOf 3) (fun W u => (Lit.int .i64 u).wf = true) W u3) → ∃ W', Zaa u0 u1 u2 u3 W = some (true, W') ∧ Below W.heap.size W W' := by
 intro W u0 u1 u2 u3 hL g0 g1 g2 g3
 obtain ⟨Hs, s, T⟩ := ZwP hL
 obtain ⟨xs, hx, b, s⟩ := s.args g0 (by decide)
 rw [show Tryz.prog.bytesOf 76 = 192 by kernel_rfl] at b
 obtain ⟨bs, -, b3, s⟩ := s.args g3 (by decide)
 rw [show Tryz.prog.bytesOf 3 = 8 by kernel_rfl] at b3
 obtain ⟨ms, L1, s, r1, hb⟩ := Zq8 s xs hx
 obtain ⟨k, L2, s, pr, pl, pb⟩ := ZwC s g2
 obtain ⟨_, W', h, rfl, L, s'⟩ := ZpD (port := u1) s ((T.push.push.pushL L1).pushL L2) (L2.length + (L1.length + 1)) (ZmA L2 (ZmA L1 (i := 1) rfl)) (L2.length + (L1.length + 0)) (ZmA L2 (ZmA L1 (i := 0) rfl)) (r1.pushL L2) hb (by rw [← r1.len]; exact b) b3 pr pl pb
 exact ⟨W', h, s'.below⟩
end Go.Proofs.YtobemldccnnblaaGreatDoor.Lx
