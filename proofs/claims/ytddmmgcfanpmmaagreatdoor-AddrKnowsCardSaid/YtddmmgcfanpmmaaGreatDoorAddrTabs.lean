/- The tables that the program lays, as places: out of the 'laid' premise of a card's law. -/
import Derived.Test.YtddmmgcfanpmmaaGreatDoorAddrClass
import Derived.Test.YtddmmgcfanpmmaaGreatDoorLxQ
set_option linter.unusedVariables false
set_option linter.unusedSimpArgs false
namespace Go.Proofs.YtddmmgcfanpmmaaGreatDoor.Lx
open Go Go.Proofs Go.RowKit
theorem byt_wf {l : List Int} (h : ∀ x ∈ l, (Lit.int .u8 x).wf = true) : Byt l := fun x hx => by
  have := h x hx
  simp [Lit.wf, IntKind.min, IntKind.max, IntKind.bits, IntKind.signed] at this
  exact this
theorem map_lit {k : IntKind} {a b : List Int} (h : a.map (fun x => (DataW.lit (.int k x) : DataW Unit)) = b.map fun x => DataW.lit (.int k x)) : a = b := by
  refine (List.map_inj_right (f := fun x => (DataW.lit (.int k x) : DataW Unit)) ?_).1 h
  intro x y e
  cases e
  rfl
theorem arr_lit {k : IntKind} {n : Nat} {a b : Vec Int n} (h : (DataW.agg (a.l.map (fun x => DataW.lit (.int k x))) : DataW Unit) = DataW.agg (b.l.map fun x => DataW.lit (.int k x))) : a = b := by
  obtain ⟨a, ha⟩ := a
  obtain ⟨b, hb⟩ := b
  have : a = b := map_lit (DataW.agg.inj h)
  subst this
  rfl
theorem datnet_inj (x y : addr_net) (h : dat60 x = dat60 y) : x = y := by
  obtain ⟨v, a, b, c⟩ := x
  obtain ⟨v', a', b', c'⟩ := y
  have h1 := DataW.agg.inj h
  simp only [List.cons.injEq, DataW.lit.injEq, Lit.int.injEq, true_and, and_true] at h1
  obtain ⟨rfl, h2, rfl, rfl⟩ := h1
  have := arr_lit (a := a) (b := a') (by simpa using h2)
  subst this
  rfl
theorem arr_net {a b : Vec addr_net 12} (h : (DataW.agg (a.l.map (fun x => dat60 x)) : DataW Unit) = DataW.agg (b.l.map fun x => dat60 x)) : a = b := by
  obtain ⟨a, ha⟩ := a
  obtain ⟨b, hb⟩ := b
  have : a = b := (List.map_inj_right (f := fun x => dat60 x) datnet_inj).1 (DataW.agg.inj h)
  subst this
  rfl
theorem tabs {W : World} (h : Laid W) : Ss W [TabC, TabN] W := by
  obtain ⟨u0, u1, u2, u3, _, ⟨d1, c1⟩, ⟨d2, c2⟩, ⟨d3, c3⟩⟩ := laid_of h
  obtain rfl : u1 = dbV := arr_lit (d1.symm.trans (by rfl))
  obtain rfl : u2 = pow10V := arr_lit (d2.symm.trans (by rfl))
  obtain rfl : u3 = netsV := arr_net (d3.symm.trans (by rfl))
  have s0 : Ss W [] W := Ss.start W
  have s := ((s0.tab (by decide) c1).tab (by decide) c2).tab (by decide) c3
  have s2 := Ss.group (l := [pts false ⟨2, 0, none⟩ (((cI .u64).arr 20).enc pow10V), pts false ⟨4, 0, none⟩ (((cI .u8).arr 64).enc dbV)]) (s.use [1, 1] rfl)
  have s3 : Ss W (TabN :: _) W := s2.first (fun h hh => by
    obtain ⟨h1, h2, _, l1, l2, a, h3, h4, _, l3, _, b, _⟩ := hh
    exact ⟨⟨a.1, fun i x e => l1 _ _ _ (a.2 i x e)⟩, ⟨b.1, fun i x e => l2 _ _ _ (l3 _ _ _ (b.2 i x e))⟩⟩)
  exact s3.use [1] rfl
end Go.Proofs.YtddmmgcfanpmmaaGreatDoor.Lx
