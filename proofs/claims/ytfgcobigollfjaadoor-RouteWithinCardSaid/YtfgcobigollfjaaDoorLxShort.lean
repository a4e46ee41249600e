/- The machine 'Lx': ends that printed proofs name often, in short words. -/
import Derived.Test.YtfgcobigollfjaaDoorLxMs
set_option linter.unusedVariables false
namespace Go.Proofs.YtfgcobigollfjaaDoor.Lx
open Go
section
variable [Loops] {β : Type} {k : List Item} {m : Env} {h : Loc}
theorem SJ.r1 {c : Fx} {cd : Code} {t : Nat} {y : β} {F : β → Reach} (v : Value) (hF : F y = .ret (resVal [v])) (hf : c.fn.results = [ResultVar.tmp t].toArray) (ht : lk m t = some v := by kernel_rfl) (hk : kindOf cd = .ret := by kernel_rfl) (hro0 : c.ro = none := by rfl) : SJ c (.code cd :: k) m h (pure y) F := SJ.ret hF (Res.run (.tmp ht .nil) hf) hk hro0
theorem SJ.r2 {c : Fx} {cd : Code} {t t2 : Nat} {y : β} {F : β → Reach} (v v2 : Value) (hF : F y = .ret (resVal [v, v2])) (hf : c.fn.results = [ResultVar.tmp t, ResultVar.tmp t2].toArray) (ht : lk m t = some v := by kernel_rfl) (ht2 : lk m t2 = some v2 := by kernel_rfl) (hk : kindOf cd = .ret := by kernel_rfl) (hro0 : c.ro = none := by rfl) : SJ c (.code cd :: k) m h (pure y) F := SJ.ret hF (Res.run (.tmp ht (.tmp ht2 .nil)) hf) hk hro0
theorem SJ.r3 {c : Fx} {cd : Code} {t t2 t3 : Nat} {y : β} {F : β → Reach} (v v2 v3 : Value) (hF : F y = .ret (resVal [v, v2, v3])) (hf : c.fn.results = [ResultVar.tmp t, ResultVar.tmp t2, ResultVar.tmp t3].toArray) (ht : lk m t = some v := by kernel_rfl) (ht2 : lk m t2 = some v2 := by kernel_rfl) (ht3 : lk m t3 = some v3 := by kernel_rfl) (hk : kindOf cd = .ret := by kernel_rfl) (hro0 : c.ro = none := by rfl) : SJ c (.code cd :: k) m h (pure y) F := SJ.ret hF (Res.run (.tmp ht (.tmp ht2 (.tmp ht3 .nil))) hf) hk hro0
theorem OJ.x0 {α : Type} {c : Cx} {y : α} {ts fr : List Nat} {mo : α → Env} {p2 : List Pd} (hl : lks m ts = some (mo y) := by kernel_rfl) : OJ c [] [] m h (pure y) (fun p' m' h' x' => (∀ e ∈ p', e ∈ p2 ∨ e.i ∈ fr) ∧ h' = h ∧ ∃ y, x' = pure y ∧ lks m' ts = some (mo y)) := OJ.nil ⟨Cov.mem Cov.nil, rfl, _, rfl, hl⟩
end
end Go.Proofs.YtfgcobigollfjaaDoor.Lx
