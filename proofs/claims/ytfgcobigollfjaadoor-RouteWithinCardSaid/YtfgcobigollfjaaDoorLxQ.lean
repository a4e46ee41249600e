/- What the claim's reader tells of the arguments of laws. Printed by lawgen.py. -/
import Derived.Test.YtfgcobigollfjaaDoorLxSh
import Derived.Test.YtfgcobigollfjaaDoorLxT
import Derived.Test.YtfgcobigollfjaaDoorRows
set_option linter.unusedVariables false
namespace Go.Proofs.YtfgcobigollfjaaDoor.Lx
open Go Go.Proofs
def G28 (W : World) (u : api_IP) : Prop := ((Lit.int .i64 u.V).wf = true) ∧ (∀ x ∈ u.A.l, (Lit.int .u8 x).wf = true)
theorem Op28 : Opens Tryd.prog 28 c_api_IP G28 := Opens.mono (Opens.iso (Opens.struct Tryd.underlying28 (by kernel_rfl) (OpensF.cons (Opens.int Tryd.underlying3) rfl (by kernel_rfl) (OpensF.one (Opens.arr Tryd.underlying26 (by kernel_rfl) (by kernel_rfl) (Opens.int Tryd.underlying5)) rfl (by kernel_rfl)))) _ _ _ _) (fun W u g => g)
def G30 (W : World) (u : api_Prefix) : Prop := (G28 W u.IP) ∧ ((Lit.int .i64 u.Len).wf = true)
theorem Op30 : Opens Tryd.prog 30 c_api_Prefix G30 := Opens.mono (Opens.iso (Opens.struct Tryd.underlying30 (by kernel_rfl) (OpensF.cons Op28 rfl (by kernel_rfl) (OpensF.one (Opens.int Tryd.underlying3) rfl (by kernel_rfl)))) _ _ _ _) (fun W u g => g)
def G32 (W : World) (u : api_Route) : Prop := (G30 W u.Prefix) ∧ ((Lit.int .i64 u.Port).wf = true) ∧ (G28 W u.Via)
theorem Op32 : Opens Tryd.prog 32 c_api_Route G32 := Opens.mono (Opens.iso (Opens.struct Tryd.underlying32 (by kernel_rfl) (OpensF.cons Op30 rfl (by kernel_rfl) (OpensF.cons (Opens.int Tryd.underlying3) rfl (by kernel_rfl) (OpensF.one Op28 rfl (by kernel_rfl))))) _ _ _ _) (fun W u g => g)
def G65 (W : World) (u : weirlaw14_Act) : Prop := ((Lit.int .i64 u.At).wf = true) ∧ ((Lit.int .i64 u.Kind).wf = true) ∧ (G32 W u.R) ∧ ((Lit.int .i64 u.Stop).wf = true)
theorem Op65 : Opens Tryd.prog 65 c_weirlaw14_Act G65 := Opens.mono (Opens.iso (Opens.struct Tryd.underlying65 (by kernel_rfl) (OpensF.cons (Opens.int Tryd.underlying3) rfl (by kernel_rfl) (OpensF.cons (Opens.int Tryd.underlying3) rfl (by kernel_rfl) (OpensF.cons Op32 rfl (by kernel_rfl) (OpensF.one (Opens.int Tryd.underlying3) rfl (by kernel_rfl)))))) _ _ _ _) (fun W u g => g)
set_option maxRecDepth 100000
def dat104 (u : addr_net) : DataW Unit := .agg [DataW.lit (.int .i64 u.v), DataW.agg (u.a.l.map fun x => DataW.lit (.int .u8 x)), DataW.lit (.int .i64 u.bits), DataW.lit (.int .i64 u.class_)]
theorem Tl104 : Tells Tryd.prog 104 c_addr_net dat104 := Tells.iso (Tells.struct Tryd.underlying104 (by kernel_rfl) (TellsF.cons (Tells.int Tryd.underlying3) rfl (by kernel_rfl) (TellsF.cons (Tells.arr Tryd.underlying26 (by kernel_rfl) (by kernel_rfl) (Tells.int Tryd.underlying5)) rfl (by kernel_rfl) (TellsF.cons (Tells.int Tryd.underlying3) rfl (by kernel_rfl) (TellsF.one (Tells.int Tryd.underlying3) rfl (by kernel_rfl)))))) _ _ _ _
def Laid (W : World) : Prop := laidMetH Tryd.prog [("weir/addr.nets", Rows.laid_weir_addr_nets)] W
theorem laid_of {W : World} (h : Laid W) : ∃ (u0 : (Vec addr_net 12)), ((Rows.laid_weir_addr_nets : DataW Unit) = DataW.agg (u0.l.map fun x => dat104 x) ∧ ∀ j, W.cell? ⟨0, j, .none⟩ = ((c_addr_net.arr 12).enc u0)[j]?) := by
 unfold Laid at h
 rw [MakeChecks.laidMetH_plain _ _ _ (by kernel_rfl)] at h
 obtain ⟨ps, hL, _, _⟩ := h
 obtain ⟨g0, t0, cs0, f0, p0, q0, hg0, ht0, hv0, hd0, hL0, _⟩ := hL
 obtain rfl := Option.some.inj ((show Tryd.prog.globalNamed "weir/addr.nets" = some 0 by kernel_rfl).symm.trans hg0)
 obtain rfl := Option.some.inj ((show (Tryd.prog.globals[0]?).map (·.type) = some 105 by kernel_rfl).symm.trans ht0)
 obtain ⟨u0, e0, d0⟩ := (show Tells Tryd.prog 105 (c_addr_net.arr 12) (fun u => DataW.agg (u.l.map fun x => dat104 x)) from (Tells.arr Tryd.underlying105 (by kernel_rfl) (by kernel_rfl) Tl104)) W _ _ _ hd0
 exact ⟨u0, ⟨d0, fun j => by rw [World.var?_cell hg0 hv0 j, ← Array.getElem?_toList, e0]⟩⟩
end Go.Proofs.YtfgcobigollfjaaDoor.Lx
