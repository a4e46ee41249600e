/- What the claim's reader tells of the arguments of laws. Printed by lawgen.py. -/
import Derived.Test.YtfjcjecgalijfaaDoorLxSh
import Derived.Test.YtfjcjecgalijfaaDoorLxT
import Derived.Test.YtfjcjecgalijfaaDoorRows
set_option linter.unusedVariables false
namespace Go.Proofs.YtfjcjecgalijfaaDoor.Lx
open Go Go.Proofs
set_option maxRecDepth 100000
def Laid (W : World) : Prop := laidMetH Tryd.prog [("math/bits.deBruijn32tab", Rows.laid_math_bits_deBruijn32tab), ("math/bits.deBruijn64tab", Rows.laid_math_bits_deBruijn64tab), ("internal/strconv.uint64pow10", Rows.laid_internal_strconv_uint64pow10)] W
theorem laid_of {W : World} (h : Laid W) : ∃ (u0 : (Vec Int 32)) (u1 : (Vec Int 64)) (u2 : (Vec Int 20)), ((Rows.laid_math_bits_deBruijn32tab : DataW Unit) = DataW.agg (u0.l.map fun x => DataW.lit (.int .u8 x)) ∧ ∀ j, W.cell? ⟨1, j, .none⟩ = (((cI .u8).arr 32).enc u0)[j]?) ∧ ((Rows.laid_math_bits_deBruijn64tab : DataW Unit) = DataW.agg (u1.l.map fun x => DataW.lit (.int .u8 x)) ∧ ∀ j, W.cell? ⟨2, j, .none⟩ = (((cI .u8).arr 64).enc u1)[j]?) ∧ ((Rows.laid_internal_strconv_uint64pow10 : DataW Unit) = DataW.agg (u2.l.map fun x => DataW.lit (.int .u64 x)) ∧ ∀ j, W.cell? ⟨0, j, .none⟩ = (((cI .u64).arr 20).enc u2)[j]?) := by
  unfold Laid at h
  rw [MakeChecks.laidMetH_plain _ _ _ (by kernel_rfl)] at h
  obtain ⟨ps, hL, _, _⟩ := h
  obtain ⟨g0, t0, cs0, f0, p0, q0, hg0, ht0, hv0, hd0, hL0, _⟩ := hL
  obtain rfl := Option.some.inj ((show Tryd.prog.globalNamed "math/bits.deBruijn32tab" = some 1 by kernel_rfl).symm.trans hg0)
  obtain rfl := Option.some.inj ((show (Tryd.prog.globals[1]?).map (·.type) = some 48 by kernel_rfl).symm.trans ht0)
  obtain ⟨u0, e0, d0⟩ := (show Tells Tryd.prog 48 ((cI .u8).arr 32) (fun u => DataW.agg (u.l.map fun x => DataW.lit (.int .u8 x))) from (Tells.arr Tryd.underlying48 (by kernel_rfl) (by kernel_rfl) (Tells.int Tryd.underlying5))) W _ _ _ hd0
  obtain ⟨g1, t1, cs1, f1, p1, q1, hg1, ht1, hv1, hd1, hL1, _⟩ := hL0
  obtain rfl := Option.some.inj ((show Tryd.prog.globalNamed "math/bits.deBruijn64tab" = some 2 by kernel_rfl).symm.trans hg1)
  obtain rfl := Option.some.inj ((show (Tryd.prog.globals[2]?).map (·.type) = some 49 by kernel_rfl).symm.trans ht1)
  obtain ⟨u1, e1, d1⟩ := (show Tells Tryd.prog 49 ((cI .u8).arr 64) (fun u => DataW.agg (u.l.map fun x => DataW.lit (.int .u8 x))) from (Tells.arr Tryd.underlying49 (by kernel_rfl) (by kernel_rfl) (Tells.int Tryd.underlying5))) W _ _ _ hd1
  obtain ⟨g2, t2, cs2, f2, p2, q2, hg2, ht2, hv2, hd2, hL2, _⟩ := hL1
  obtain rfl := Option.some.inj ((show Tryd.prog.globalNamed "internal/strconv.uint64pow10" = some 0 by kernel_rfl).symm.trans hg2)
  obtain rfl := Option.some.inj ((show (Tryd.prog.globals[0]?).map (·.type) = some 41 by kernel_rfl).symm.trans ht2)
  obtain ⟨u2, e2, d2⟩ := (show Tells Tryd.prog 41 ((cI .u64).arr 20) (fun u => DataW.agg (u.l.map fun x => DataW.lit (.int .u64 x))) from (Tells.arr Tryd.underlying41 (by kernel_rfl) (by kernel_rfl) (Tells.int Tryd.underlying33))) W _ _ _ hd2
  exact ⟨u0, u1, u2, ⟨d0, fun j => by rw [World.var?_cell hg0 hv0 j, ← Array.getElem?_toList, e0]⟩, ⟨d1, fun j => by rw [World.var?_cell hg1 hv1 j, ← Array.getElem?_toList, e1]⟩, ⟨d2, fun j => by rw [World.var?_cell hg2 hv2 j, ← Array.getElem?_toList, e2]⟩⟩
end Go.Proofs.YtfjcjecgalijfaaDoor.Lx
