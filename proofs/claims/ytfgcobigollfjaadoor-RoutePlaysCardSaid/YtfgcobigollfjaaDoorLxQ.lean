/- What the claim's reader tells of the arguments of laws. Printed by lawgen.py. -/
import Derived.Test.YtfgcobigollfjaaDoorLxSh
import Derived.Test.YtfgcobigollfjaaDoorLxT
import Derived.Test.YtfgcobigollfjaaDoorRows
set_option linter.unusedVariables false
namespace Go.Proofs.YtfgcobigollfjaaDoor.Lx
open Go Go.Proofs
def G28 (W : World) (u : ZaH) : Prop := ((Lit.int .i64 u.V).wf = true) ∧ (∀ x ∈ u.A.l, (Lit.int .u8 x).wf = true)
theorem Op28 : Zcm Tryd.prog 28 ZaI G28 := Zcm.mono (Zcm.iso (Zcm.struct Tryd.underlying28 (by kernel_rfl) (Zdr.cons (Zcm.int Tryd.underlying3) rfl (by kernel_rfl) (Zdr.one (Zcm.arr Tryd.underlying26 (by kernel_rfl) (by kernel_rfl) (Zcm.int Tryd.underlying5)) rfl (by kernel_rfl)))) _ _ _ _) (fun W u g => g)
def G30 (W : World) (u : Zar) : Prop := (G28 W u.IP) ∧ ((Lit.int .i64 u.Len).wf = true)
theorem Op30 : Zcm Tryd.prog 30 ZaA G30 := Zcm.mono (Zcm.iso (Zcm.struct Tryd.underlying30 (by kernel_rfl) (Zdr.cons Op28 rfl (by kernel_rfl) (Zdr.one (Zcm.int Tryd.underlying3) rfl (by kernel_rfl)))) _ _ _ _) (fun W u g => g)
def G32 (W : World) (u : Zab) : Prop := (G30 W u.Prefix) ∧ ((Lit.int .i64 u.Port).wf = true) ∧ (G28 W u.Via)
theorem Op32 : Zcm Tryd.prog 32 Zac G32 := Zcm.mono (Zcm.iso (Zcm.struct Tryd.underlying32 (by kernel_rfl) (Zdr.cons Op30 rfl (by kernel_rfl) (Zdr.cons (Zcm.int Tryd.underlying3) rfl (by kernel_rfl) (Zdr.one Op28 rfl (by kernel_rfl))))) _ _ _ _) (fun W u g => g)
def G61 (W : World) (u : ZaO) : Prop := ((Lit.int .i64 u.Kind).wf = true) ∧ ((Lit.int .i64 u.Obj).wf = true) ∧ (G32 W u.R) ∧ (G28 W u.IP) ∧ ((Lit.int .i64 u.N).wf = true)
theorem Op61 : Zcm Tryd.prog 61 ZaF G61 := Zcm.mono (Zcm.iso (Zcm.struct Tryd.underlying61 (by kernel_rfl) (Zdr.cons (Zcm.int Tryd.underlying3) rfl (by kernel_rfl) (Zdr.cons (Zcm.int Tryd.underlying3) rfl (by kernel_rfl) (Zdr.cons Op32 rfl (by kernel_rfl) (Zdr.cons Op28 rfl (by kernel_rfl) (Zdr.one (Zcm.int Tryd.underlying3) rfl (by kernel_rfl))))))) _ _ _ _) (fun W u g => g)
set_option maxRecDepth 100000
def Zgk (u : Zb3) : DataW Unit := .agg [DataW.lit (.int .i64 u.v), DataW.agg (u.a.l.map fun x => DataW.lit (.int .u8 x)), DataW.lit (.int .i64 u.bits), DataW.lit (.int .i64 u.class_)]
theorem ZnW : Zd0 Tryd.prog 104 Zcf Zgk := Zd0.iso (Zd0.struct Tryd.underlying104 (by kernel_rfl) (Zff.cons (Zd0.int Tryd.underlying3) rfl (by kernel_rfl) (Zff.cons (Zd0.arr Tryd.underlying26 (by kernel_rfl) (by kernel_rfl) (Zd0.int Tryd.underlying5)) rfl (by kernel_rfl) (Zff.cons (Zd0.int Tryd.underlying3) rfl (by kernel_rfl) (Zff.one (Zd0.int Tryd.underlying3) rfl (by kernel_rfl)))))) _ _ _ _
def Laid (W : World) : Prop := laidMetH Tryd.prog [("weir/addr.nets", Rows.laid_weir_addr_nets)] W
theorem ZmY {W : World} (h : Laid W) : ∃ (u0 : (Vec Zb3 12)), ((Rows.laid_weir_addr_nets : DataW Unit) = DataW.agg (u0.l.map fun x => Zgk x) ∧ ∀ j, W.cell? ⟨0, j, .none⟩ = ((Zcf.arr 12).enc u0)[j]?) := by
 unfold Laid at h
 rw [MakeChecks.laidMetH_plain _ _ _ (by kernel_rfl)] at h
 obtain ⟨ps, hL, _, _⟩ := h
 obtain ⟨g0, t0, cs0, f0, p0, q0, hg0, ht0, hv0, hd0, hL0, _⟩ := hL
 obtain rfl := Option.some.inj ((show Tryd.prog.globalNamed "weir/addr.nets" = some 0 by kernel_rfl).symm.trans hg0)
 obtain rfl := Option.some.inj ((show (Tryd.prog.globals[0]?).map (·.type) = some 105 by kernel_rfl).symm.trans ht0)
 obtain ⟨u0, e0, d0⟩ := (show Zd0 Tryd.prog 105 (Zcf.arr 12) (fun u => DataW.agg (u.l.map fun x => Zgk x)) from (Zd0.arr Tryd.underlying105 (by kernel_rfl) (by kernel_rfl) ZnW)) W _ _ _ hd0
 exact ⟨u0, ⟨d0, fun j => by rw [World.var?_cell hg0 hv0 j, ← Array.getElem?_toList, e0]⟩⟩
end Go.Proofs.YtfgcobigollfjaaDoor.Lx
