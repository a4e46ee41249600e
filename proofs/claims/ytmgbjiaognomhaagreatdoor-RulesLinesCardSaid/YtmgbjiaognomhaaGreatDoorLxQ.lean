/- What the claim's reader tells of the arguments of laws. Printed by lawgen.py. -/
import Derived.Test.YtmgbjiaognomhaaGreatDoorLxSh
import Derived.Test.YtmgbjiaognomhaaGreatDoorLxT
import Derived.Test.YtmgbjiaognomhaaGreatDoorRows
set_option linter.unusedVariables false
namespace Go.Proofs.YtmgbjiaognomhaaGreatDoor.Lx
open Go Go.Proofs
set_option maxRecDepth 100000
def Laid (W : World) : Prop := laidMetH Tryz.prog [("math/bits.deBruijn32tab", Rows.laid_math_bits_deBruijn32tab), ("math/bits.deBruijn64tab", Rows.laid_math_bits_deBruijn64tab), ("internal/strconv.uint64pow10", Rows.laid_internal_strconv_uint64pow10), ("weir/rules.kinds", Rows.laid_weir_rules_kinds), ("weir/rules.acts", Rows.laid_weir_rules_acts), ("weir/rules.flags", Rows.laid_weir_rules_flags)] W
theorem Zs9 {W : World} (h : Laid W) : ∃ (u0 : (Vec Int 32)) (u1 : (Vec Int 64)) (u2 : (Vec Int 20)) (u3 : Sl) (u4 : Sl) (u5 : Sl), ((Rows.laid_math_bits_deBruijn32tab : DataW Unit) = DataW.agg (u0.l.map fun x => DataW.lit (.int .u8 x)) ∧ ∀ j, W.cell? ⟨5, j, .none⟩ = (((cI .u8).arr 32).enc u0)[j]?) ∧ ((Rows.laid_math_bits_deBruijn64tab : DataW Unit) = DataW.agg (u1.l.map fun x => DataW.lit (.int .u8 x)) ∧ ∀ j, W.cell? ⟨6, j, .none⟩ = (((cI .u8).arr 64).enc u1)[j]?) ∧ ((Rows.laid_internal_strconv_uint64pow10 : DataW Unit) = DataW.agg (u2.l.map fun x => DataW.lit (.int .u64 x)) ∧ ∀ j, W.cell? ⟨4, j, .none⟩ = (((cI .u64).arr 20).enc u2)[j]?) ∧ (Zre W u3 (Rows.laid_weir_rules_kinds : DataW Unit) ∧ ∀ j, W.cell? ⟨1, j, .none⟩ = (cL.enc u3)[j]?) ∧ (Zre W u4 (Rows.laid_weir_rules_acts : DataW Unit) ∧ ∀ j, W.cell? ⟨0, j, .none⟩ = (cL.enc u4)[j]?) ∧ (Zre W u5 (Rows.laid_weir_rules_flags : DataW Unit) ∧ ∀ j, W.cell? ⟨2, j, .none⟩ = (cL.enc u5)[j]?) := by
 unfold Laid at h
 rw [MakeChecks.laidMetH_plain _ _ _ (by kernel_rfl)] at h
 obtain ⟨ps, hL, _, _⟩ := h
 obtain ⟨g0, t0, cs0, f0, p0, q0, hg0, ht0, hv0, hd0, hL0, _⟩ := hL
 obtain rfl := Option.some.inj ((show Tryz.prog.globalNamed "math/bits.deBruijn32tab" = some 5 by kernel_rfl).symm.trans hg0)
 obtain rfl := Option.some.inj ((show (Tryz.prog.globals[5]?).map (·.type) = some 203 by kernel_rfl).symm.trans ht0)
 obtain ⟨u0, e0, d0⟩ := (show Zgs Tryz.prog 203 ((cI .u8).arr 32) (fun u => DataW.agg (u.l.map fun x => DataW.lit (.int .u8 x))) from (Zgs.arr Tryz.underlying203 (by kernel_rfl) (by kernel_rfl) (Zgs.int Tryz.underlying5))) W _ _ _ hd0
 obtain ⟨g1, t1, cs1, f1, p1, q1, hg1, ht1, hv1, hd1, hL1, _⟩ := hL0
 obtain rfl := Option.some.inj ((show Tryz.prog.globalNamed "math/bits.deBruijn64tab" = some 6 by kernel_rfl).symm.trans hg1)
 obtain rfl := Option.some.inj ((show (Tryz.prog.globals[6]?).map (·.type) = some 204 by kernel_rfl).symm.trans ht1)
 obtain ⟨u1, e1, d1⟩ := (show Zgs Tryz.prog 204 ((cI .u8).arr 64) (fun u => DataW.agg (u.l.map fun x => DataW.lit (.int .u8 x))) from (Zgs.arr Tryz.underlying204 (by kernel_rfl) (by kernel_rfl) (Zgs.int Tryz.underlying5))) W _ _ _ hd1
 obtain ⟨g2, t2, cs2, f2, p2, q2, hg2, ht2, hv2, hd2, hL2, _⟩ := hL1
 obtain rfl := Option.some.inj ((show Tryz.prog.globalNamed "internal/strconv.uint64pow10" = some 4 by kernel_rfl).symm.trans hg2)
 obtain rfl := Option.some.inj ((show (Tryz.prog.globals[4]?).map (·.type) = some 195 by kernel_rfl).symm.trans ht2)
 obtain ⟨u2, e2, d2⟩ := (show Zgs Tryz.prog 195 ((cI .u64).arr 20) (fun u => DataW.agg (u.l.map fun x => DataW.lit (.int .u64 x))) from (Zgs.arr Tryz.underlying195 (by kernel_rfl) (by kernel_rfl) (Zgs.int Tryz.underlying179))) W _ _ _ hd2
 obtain ⟨g3, t3, cs3, f3, p3, q3, hg3, ht3, hv3, hd3, hL3, _⟩ := hL2
 obtain rfl := Option.some.inj ((show Tryz.prog.globalNamed "weir/rules.kinds" = some 1 by kernel_rfl).symm.trans hg3)
 obtain rfl := Option.some.inj ((show (Tryz.prog.globals[1]?).map (·.type) = some 22 by kernel_rfl).symm.trans ht3)
 obtain ⟨u3, e3, d3⟩ := Zkq (P := Tryz.prog) (T := 22) (e := 9) (Tryz.underlying22) Tryz.underlying9 (by kernel_rfl) hd3
 obtain ⟨g4, t4, cs4, f4, p4, q4, hg4, ht4, hv4, hd4, hL4, _⟩ := hL3
 obtain rfl := Option.some.inj ((show Tryz.prog.globalNamed "weir/rules.acts" = some 0 by kernel_rfl).symm.trans hg4)
 obtain rfl := Option.some.inj ((show (Tryz.prog.globals[0]?).map (·.type) = some 22 by kernel_rfl).symm.trans ht4)
 obtain ⟨u4, e4, d4⟩ := Zkq (P := Tryz.prog) (T := 22) (e := 9) (Tryz.underlying22) Tryz.underlying9 (by kernel_rfl) hd4
 obtain ⟨g5, t5, cs5, f5, p5, q5, hg5, ht5, hv5, hd5, hL5, _⟩ := hL4
 obtain rfl := Option.some.inj ((show Tryz.prog.globalNamed "weir/rules.flags" = some 2 by kernel_rfl).symm.trans hg5)
 obtain rfl := Option.some.inj ((show (Tryz.prog.globals[2]?).map (·.type) = some 22 by kernel_rfl).symm.trans ht5)
 obtain ⟨u5, e5, d5⟩ := Zkq (P := Tryz.prog) (T := 22) (e := 9) (Tryz.underlying22) Tryz.underlying9 (by kernel_rfl) hd5
 exact ⟨u0, u1, u2, u3, u4, u5, ⟨d0, fun j => by rw [World.var?_cell hg0 hv0 j, ← Array.getElem?_toList, e0]⟩, ⟨d1, fun j => by rw [World.var?_cell hg1 hv1 j, ← Array.getElem?_toList, e1]⟩, ⟨d2, fun j => by rw [World.var?_cell hg2 hv2 j, ← Array.getElem?_toList, e2]⟩, ⟨d3, fun j => by rw [World.var?_cell hg3 hv3 j, ← Array.getElem?_toList, e3]⟩, ⟨d4, fun j => by rw [World.var?_cell hg4 hv4 j, ← Array.getElem?_toList, e4]⟩, ⟨d5, fun j => by rw [World.var?_cell hg5 hv5 j, ← Array.getElem?_toList, e5]⟩⟩
end Go.Proofs.YtmgbjiaognomhaaGreatDoor.Lx
