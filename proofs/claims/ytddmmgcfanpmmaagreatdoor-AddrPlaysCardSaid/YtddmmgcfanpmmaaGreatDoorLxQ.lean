/- What the claim's reader tells of the arguments of laws. Printed by lawgen.py. -/
import Derived.Test.YtddmmgcfanpmmaaGreatDoorLxSh
import Derived.Test.YtddmmgcfanpmmaaGreatDoorLxT
import Derived.Test.YtddmmgcfanpmmaaGreatDoorRows
set_option linter.unusedVariables false
namespace Go.Proofs.YtddmmgcfanpmmaaGreatDoor.Lx
open Go Go.Proofs
def G28 (W : World) (u : api_IP) : Prop := ((Lit.int .i64 u.V).wf = true) ∧ (∀ x ∈ u.A.l, (Lit.int .u8 x).wf = true)
theorem Op28 : Opens Tryz.prog 28 c_api_IP G28 := Opens.mono (Opens.iso (Opens.struct Tryz.underlying28 (by kernel_rfl) (OpensF.cons (Opens.int Tryz.underlying3) rfl (by kernel_rfl) (OpensF.one (Opens.arr Tryz.underlying26 (by kernel_rfl) (by kernel_rfl) (Opens.int Tryz.underlying5)) rfl (by kernel_rfl)))) _ _ _ _) (fun W u g => g)
def G38 (W : World) (u : api_Prefix) : Prop := (G28 W u.IP) ∧ ((Lit.int .i64 u.Len).wf = true)
theorem Op38 : Opens Tryz.prog 38 c_api_Prefix G38 := Opens.mono (Opens.iso (Opens.struct Tryz.underlying38 (by kernel_rfl) (OpensF.cons Op28 rfl (by kernel_rfl) (OpensF.one (Opens.int Tryz.underlying3) rfl (by kernel_rfl)))) _ _ _ _) (fun W u g => g)
def G42 (W : World) (u : l4_Op) : Prop := ((Lit.int .i64 u.Kind).wf = true) ∧ (u.S.size ≤ reachBytes) ∧ (G28 W u.A) ∧ (G28 W u.B) ∧ (G38 W u.P) ∧ (∀ x ∈ u.M.l, (Lit.int .u8 x).wf = true) ∧ ((Lit.int .i64 u.N).wf = true)
theorem Op42 : Opens Tryz.prog 42 c_weirlaw4_Op G42 := Opens.mono (Opens.iso (Opens.struct Tryz.underlying42 (by kernel_rfl) (OpensF.cons (Opens.int Tryz.underlying3) rfl (by kernel_rfl) (OpensF.cons (Opens.str Tryz.underlying9) rfl (by kernel_rfl) (OpensF.cons Op28 rfl (by kernel_rfl) (OpensF.cons Op28 rfl (by kernel_rfl) (OpensF.cons Op38 rfl (by kernel_rfl) (OpensF.cons (Opens.arr Tryz.underlying40 (by kernel_rfl) (by kernel_rfl) (Opens.int Tryz.underlying5)) rfl (by kernel_rfl) (OpensF.one (Opens.int Tryz.underlying3) rfl (by kernel_rfl))))))))) _ _ _ _) (fun W u g => g)
set_option maxRecDepth 100000
def dat60 (u : addr_net) : DataW Unit := .agg [DataW.lit (.int .i64 u.v), DataW.agg (u.a.l.map fun x => DataW.lit (.int .u8 x)), DataW.lit (.int .i64 u.bits), DataW.lit (.int .i64 u.class_)]
theorem Tl60 : Tells Tryz.prog 60 c_addr_net dat60 := Tells.iso (Tells.struct Tryz.underlying60 (by kernel_rfl) (TellsF.cons (Tells.int Tryz.underlying3) rfl (by kernel_rfl) (TellsF.cons (Tells.arr Tryz.underlying26 (by kernel_rfl) (by kernel_rfl) (Tells.int Tryz.underlying5)) rfl (by kernel_rfl) (TellsF.cons (Tells.int Tryz.underlying3) rfl (by kernel_rfl) (TellsF.one (Tells.int Tryz.underlying3) rfl (by kernel_rfl)))))) _ _ _ _
def Laid (W : World) : Prop := laidMetH Tryz.prog [("math/bits.deBruijn32tab", Rows.laid_math_bits_deBruijn32tab), ("math/bits.deBruijn64tab", Rows.laid_math_bits_deBruijn64tab), ("internal/strconv.uint64pow10", Rows.laid_internal_strconv_uint64pow10), ("weir/addr.nets", Rows.laid_weir_addr_nets)] W
theorem laid_of {W : World} (h : Laid W) : ∃ (u0 : (Vec Int 32)) (u1 : (Vec Int 64)) (u2 : (Vec Int 20)) (u3 : (Vec addr_net 12)), ((Rows.laid_math_bits_deBruijn32tab : DataW Unit) = DataW.agg (u0.l.map fun x => DataW.lit (.int .u8 x)) ∧ ∀ j, W.cell? ⟨3, j, .none⟩ = (((cI .u8).arr 32).enc u0)[j]?) ∧ ((Rows.laid_math_bits_deBruijn64tab : DataW Unit) = DataW.agg (u1.l.map fun x => DataW.lit (.int .u8 x)) ∧ ∀ j, W.cell? ⟨4, j, .none⟩ = (((cI .u8).arr 64).enc u1)[j]?) ∧ ((Rows.laid_internal_strconv_uint64pow10 : DataW Unit) = DataW.agg (u2.l.map fun x => DataW.lit (.int .u64 x)) ∧ ∀ j, W.cell? ⟨2, j, .none⟩ = (((cI .u64).arr 20).enc u2)[j]?) ∧ ((Rows.laid_weir_addr_nets : DataW Unit) = DataW.agg (u3.l.map fun x => dat60 x) ∧ ∀ j, W.cell? ⟨0, j, .none⟩ = ((c_addr_net.arr 12).enc u3)[j]?) := by
 unfold Laid at h
 rw [MakeChecks.laidMetH_plain _ _ _ (by kernel_rfl)] at h
 obtain ⟨ps, hL, _, _⟩ := h
 obtain ⟨g0, t0, cs0, f0, p0, q0, hg0, ht0, hv0, hd0, hL0, _⟩ := hL
 obtain rfl := Option.some.inj ((show Tryz.prog.globalNamed "math/bits.deBruijn32tab" = some 3 by kernel_rfl).symm.trans hg0)
 obtain rfl := Option.some.inj ((show (Tryz.prog.globals[3]?).map (·.type) = some 164 by kernel_rfl).symm.trans ht0)
 obtain ⟨u0, e0, d0⟩ := (show Tells Tryz.prog 164 ((cI .u8).arr 32) (fun u => DataW.agg (u.l.map fun x => DataW.lit (.int .u8 x))) from (Tells.arr Tryz.underlying164 (by kernel_rfl) (by kernel_rfl) (Tells.int Tryz.underlying5))) W _ _ _ hd0
 obtain ⟨g1, t1, cs1, f1, p1, q1, hg1, ht1, hv1, hd1, hL1, _⟩ := hL0
 obtain rfl := Option.some.inj ((show Tryz.prog.globalNamed "math/bits.deBruijn64tab" = some 4 by kernel_rfl).symm.trans hg1)
 obtain rfl := Option.some.inj ((show (Tryz.prog.globals[4]?).map (·.type) = some 165 by kernel_rfl).symm.trans ht1)
 obtain ⟨u1, e1, d1⟩ := (show Tells Tryz.prog 165 ((cI .u8).arr 64) (fun u => DataW.agg (u.l.map fun x => DataW.lit (.int .u8 x))) from (Tells.arr Tryz.underlying165 (by kernel_rfl) (by kernel_rfl) (Tells.int Tryz.underlying5))) W _ _ _ hd1
 obtain ⟨g2, t2, cs2, f2, p2, q2, hg2, ht2, hv2, hd2, hL2, _⟩ := hL1
 obtain rfl := Option.some.inj ((show Tryz.prog.globalNamed "internal/strconv.uint64pow10" = some 2 by kernel_rfl).symm.trans hg2)
 obtain rfl := Option.some.inj ((show (Tryz.prog.globals[2]?).map (·.type) = some 156 by kernel_rfl).symm.trans ht2)
 obtain ⟨u2, e2, d2⟩ := (show Tells Tryz.prog 156 ((cI .u64).arr 20) (fun u => DataW.agg (u.l.map fun x => DataW.lit (.int .u64 x))) from (Tells.arr Tryz.underlying156 (by kernel_rfl) (by kernel_rfl) (Tells.int Tryz.underlying140))) W _ _ _ hd2
 obtain ⟨g3, t3, cs3, f3, p3, q3, hg3, ht3, hv3, hd3, hL3, _⟩ := hL2
 obtain rfl := Option.some.inj ((show Tryz.prog.globalNamed "weir/addr.nets" = some 0 by kernel_rfl).symm.trans hg3)
 obtain rfl := Option.some.inj ((show (Tryz.prog.globals[0]?).map (·.type) = some 61 by kernel_rfl).symm.trans ht3)
 obtain ⟨u3, e3, d3⟩ := (show Tells Tryz.prog 61 (c_addr_net.arr 12) (fun u => DataW.agg (u.l.map fun x => dat60 x)) from (Tells.arr Tryz.underlying61 (by kernel_rfl) (by kernel_rfl) Tl60)) W _ _ _ hd3
 exact ⟨u0, u1, u2, u3, ⟨d0, fun j => by rw [World.var?_cell hg0 hv0 j, ← Array.getElem?_toList, e0]⟩, ⟨d1, fun j => by rw [World.var?_cell hg1 hv1 j, ← Array.getElem?_toList, e1]⟩, ⟨d2, fun j => by rw [World.var?_cell hg2 hv2 j, ← Array.getElem?_toList, e2]⟩, ⟨d3, fun j => by rw [World.var?_cell hg3 hv3 j, ← Array.getElem?_toList, e3]⟩⟩
end Go.Proofs.YtddmmgcfanpmmaaGreatDoor.Lx
