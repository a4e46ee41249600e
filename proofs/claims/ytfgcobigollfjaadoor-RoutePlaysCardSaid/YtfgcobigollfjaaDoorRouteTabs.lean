
import Derived.Test.YtfgcobigollfjaaDoorAddrClass
import Derived.Test.YtfgcobigollfjaaDoorLxSh
import Derived.Test.YtfgcobigollfjaaDoorLxQ
set_option linter.unusedVariables false
set_option linter.unusedSimpArgs false
namespace Go.Proofs.YtfgcobigollfjaaDoor.Lx
open Go Go.Proofs Go.RowKit
theorem Zlu {l : List Int} (h : ∀ x ∈ l, (Lit.int .u8 x).wf = true) : Byt l := fun x hx => by
 have := h x hx
 simp [Lit.wf, IntKind.min, IntKind.max, IntKind.bits, IntKind.signed] at this
 exact this
theorem ZmU {k : IntKind} {a b : List Int} (h : a.map (fun x => (DataW.lit (.int k x) : DataW Unit)) = b.map fun x => DataW.lit (.int k x)) : a = b := by
 refine (List.map_inj_right (f := fun x => (DataW.lit (.int k x) : DataW Unit)) ?_).1 h
 intro x y e
 cases e
 rfl
theorem Znb {k : IntKind} {n : Nat} {a b : Vec Int n} (h : (DataW.agg (a.l.map (fun x => DataW.lit (.int k x))) : DataW Unit) = DataW.agg (b.l.map fun x => DataW.lit (.int k x))) : a = b := by
 obtain ⟨a, ha⟩ := a
 obtain ⟨b, hb⟩ := b
 have : a = b := ZmU (DataW.agg.inj h)
 subst this
 rfl
theorem Zkj (x y : Zb3) (h : Zgk x = Zgk y) : x = y := by
 obtain ⟨v, a, b, c⟩ := x
 obtain ⟨v', a', b', c'⟩ := y
 have h1 := DataW.agg.inj h
 simp only [List.cons.injEq, DataW.lit.injEq, Lit.int.injEq, true_and, and_true] at h1
 obtain ⟨rfl, h2, rfl, rfl⟩ := h1
 have := Znb (a := a) (b := a') (by simpa using h2)
 subst this
 rfl
theorem Zna {a b : Vec Zb3 12} (h : (DataW.agg (a.l.map (fun x => Zgk x)) : DataW Unit) = DataW.agg (b.l.map fun x => Zgk x)) : a = b := by
 obtain ⟨a, ha⟩ := a
 obtain ⟨b, hb⟩ := b
 have : a = b := (List.map_inj_right (f := fun x => Zgk x) Zkj).1 (DataW.agg.inj h)
 subst this
 rfl
theorem ZnR {W : World} (h : Laid W) : Ss W [TabC] W := by
 obtain ⟨u0, d0, c0⟩ := ZmY h
 obtain rfl : u0 = ZeP := Zna (d0.symm.trans (by rfl))
 exact (Ss.start W).tab (by decide) c0
end Go.Proofs.YtfgcobigollfjaaDoor.Lx
