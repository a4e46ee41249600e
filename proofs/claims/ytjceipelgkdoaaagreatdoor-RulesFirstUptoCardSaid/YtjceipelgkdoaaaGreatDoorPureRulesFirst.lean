
/- The law RulesFirst, of its program in the M-world: it answers true, and nothing that was there is turned (where the lists are no longer than 1048576). -/
import Derived.Test.YtjceipelgkdoaaaGreatDoorRulesLaws7
set_option linter.unusedVariables false
set_option linter.unusedSimpArgs false
namespace Go.Proofs.YtjceipelgkdoaaaGreatDoor.Lx
open Go Go.Proofs Go.RowKit

theorem RTab.pushL {L : List HP} (r : RTab L) : ∀ Ls : List HP, RTab (Ls ++ L)
 | [] => r
 | A :: Ls => (r.pushL Ls).push
theorem Zkt : ∀ (W : World) (u0 : Sl) (u1 : Sl) (u2 : Int) (u3 : Zau), Laid W → (GSl Zak (Tryz.prog.bytesOf 63) (fun W u => G63 W u) W u0) → (GSl Zak (Tryz.prog.bytesOf 63) (fun W u => G63 W u) W u1) → ((Lit.int .i64 u2).wf = true) → (G47 W u3) → u0.len ≤ 1048576 → u1.len ≤ 1048576 → ∃ W', ZaL u0 u1 u2 u3 W = some (true, W') ∧ Below W.heap.size W W' := by
 intro W u0 u1 u2 u3 hL g0 g1 g2 g3 b0 b1
 obtain ⟨Hs, s, T⟩ := Zs6 hL
 obtain ⟨xs, hx, -, s⟩ := s.args g0 (by decide)
 obtain ⟨ys, hy, -, s⟩ := s.args g1 (by decide)
 obtain ⟨ms, L1, s, r1, -⟩ := ZlN s xs hx
 obtain ⟨ns, L2, s, r2, -⟩ := ZlN s ys hy
 obtain ⟨vid, A, s, vr, pb⟩ := Ztd s g3
 obtain ⟨_, W', h, rfl, L, s'⟩ := ZlQ (port := u2) s (((T.push.push.pushL L1).pushL L2).push) ((L2.length + (L1.length + 1)) + 1) (Zj0 L2 (Zj0 L1 (i := 1) rfl)) ((L2.length + (L1.length + 0)) + 1) (Zj0 L2 (Zj0 L1 (i := 0) rfl)) (r1.pushL L2).push r2.push b0 b1 vr pb
 exact ⟨W', h, s'.below⟩
end Go.Proofs.YtjceipelgkdoaaaGreatDoor.Lx
