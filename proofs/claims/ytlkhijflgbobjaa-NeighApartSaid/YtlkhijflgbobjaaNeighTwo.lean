/- Two caches of one configuration, asked the same (the outright laws' beginning). -/
import Derived.Test.YtlkhijflgbobjaaNeighOut
import Derived.Test.YtlkhijflgbobjaaNeighLens
set_option linter.unusedVariables false
set_option linter.unusedSimpArgs false
namespace Go.Proofs.Ytlkhijflgbobjaa.Lx
open Go Go.Proofs Go.RowKit
theorem NM.all_len {m : NM} (ok : m.Ok) : m.all.length ≤ 1024 := by
  have h1 := ok.n
  have h2 := ok.c.m1
  unfold NM.all
  rw [List.length_map]
  omega
section
variable {W w : World} {R Hs : List HP}
theorem two_wp {T T1 T2 : TypeId} {f : (Option Addr) × api_NeighConfig → (Option Addr) × api_NeighConfig → M Bool} {Q : Bool → World → Prop} (s : Ss W R w) (c : api_NeighConfig) (g : ∀ r2 r4 w', CfgOk r2.2 → Ss W (Cache r2.1 (firstM r2.2) :: Cache r4.1 (firstM r2.2) :: R) w' → WP (f r2 r4) w' Q) :
    WP (slot T >>= fun _ => weirlaw15_cache c >>= fun r2 => slot T1 >>= fun _ => weirlaw15_cache c >>= fun r4 => slot T2 >>= fun _ => (if r2.1 = none then pure true else pure (Option.isNone r4.1)) >>= fun y6 =>
      (if y6 = true then pure true else weirlaw15_first r2.1 >>= fun r7 => pure (!r7)) >>= fun y8 => (if y8 = true then pure true else weirlaw15_first r4.1 >>= fun r9 => pure (!r9)) >>= fun y10 => if y10 = true then pure false else f r2 r4) w Q := by
  refine WP.slot' s (fun _ w s => WP.step (cache_wp s c) ?_)
  rintro r2 w ⟨ck, e2, s⟩
  refine WP.slot' s (fun _ w s => WP.step (cache_wp s c) ?_)
  rintro r4 w ⟨_, e4, s⟩
  have e : r4.2 = r2.2 := e4.trans e2.symm
  rw [e] at s
  obtain ⟨pa, b, pl, h4, _⟩ := s.openC
  obtain ⟨pa', b', pl', h2, _⟩ := (s.use [1] rfl).openC
  refine WP.slot' s (fun _ w s => WP.step (R := fun y w' => y = false ∧ w = w') (WP.ite (fun h => by rw [h2] at h; cases h) (fun _ => WP.ret ⟨by rw [h4]; rfl, rfl⟩)) ?_)
  rintro _ _ ⟨rfl, rfl⟩
  refine WP.step (R := fun y w' => y = false ∧ Ss W (Cache r2.1 (firstM r2.2) :: Cache r4.1 ⟨r2.2, []⟩ :: R) w') (WP.ite (fun h => by cases h) (fun _ => WP.step (first_wp (s.use [1] rfl)) ?_)) ?_
  · rintro _ w ⟨rfl, s⟩
    exact WP.ret ⟨rfl, s⟩
  rintro _ w ⟨rfl, s⟩
  refine WP.step (R := fun y w' => y = false ∧ Ss W (Cache r4.1 (firstM r2.2) :: Cache r2.1 (firstM r2.2) :: R) w') (WP.ite (fun h => by cases h) (fun _ => WP.step (first_wp (s.use [1] rfl)) ?_)) ?_
  · rintro _ w ⟨rfl, s⟩
    exact WP.ret ⟨rfl, s⟩
  rintro _ w ⟨rfl, s⟩
  exact WP.ite (fun h => by cases h) (fun _ => g r2 r4 w ck (s.use [1] rfl))
end
end Go.Proofs.Ytlkhijflgbobjaa.Lx
