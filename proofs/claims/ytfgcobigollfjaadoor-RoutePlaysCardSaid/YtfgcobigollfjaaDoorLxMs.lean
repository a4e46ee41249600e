/- The machine 'Lx', part Ms: texts put together; places compared; a Builder's words (a pointer seen as bytes and back, bytes handed on as a text); what cannot happen. -/
import Derived.Test.YtfgcobigollfjaaDoorLxM
import Derived.Laws.Externs
import Derived.Laws.NewFold
import Derived.Lib.UnsafeStr
import Derived.Lib.AppendStr
set_option linter.unusedVariables false
set_option linter.unusedSimpArgs false
set_option linter.unusedSectionVars false
namespace Go.Proofs.YtfgcobigollfjaaDoor.Lx
open Go
variable [ZbS]
def strI (b : ByteArray) : List Int := b.data.toList.map fun x => (x.toNat : Int)
theorem Zdb (b : ByteArray) : (strI b).length = b.size := by
 unfold strI
 rw [List.length_map, Array.length_toList]
 rfl
section
variable {β : Type} {c : Cx} {pend : List Pd} {is : List Nat} {m : Env} {h : Loc} {x : M β} {R : List Pd → Env → Loc → M β → Prop}
theorem SJ.fail {c : Fx} {k : List Item} {F : β → Reach} : SJ c k m h (Lx.fail : M β) F := fun v r v' e => by cases e
theorem OJ.fail : OJ c pend is m h (Lx.fail : M β) R := fun v r v' e => by cases e
theorem OJ.cat {i d : Nat} {T yT : TypeId} {y z : Operand} {p q : ByteArray} {f : Unit → M β} (hJ : OJ c pend is ((d, .string (p ++ q)) :: m) h (f ()) R) (hc : core c.ops m i = some (some d, .binOp .add T y z yT) := by kernel_rfl) (hy : evm m y = some (.string p) := by kernel_rfl) (hz : evm m z = some (.string q) := by kernel_rfl) (hk : kdP c.kd i = true := by kernel_rfl) (hn : noW c.kd [i] pend = true := by kernel_rfl) (hd : Nat.blt d c.n = true := by kernel_rfl) : OJ c pend (i :: is) m h (chk (((p.size + q.size : Nat) : Int) ≤ 9223372036854775807) >>= f) R := by
 refine OJ.q hc hk hn hd fun v r v' e w a s => ?_
 obtain ⟨ad, v1, h1, h2⟩ := bind_some.1 e
 obtain ⟨hq, rfl⟩ := Zdy h1
 refine ⟨_, _, fun o ho w' => ?_, h2, hJ⟩
 obtain ⟨dst, op, type, pos, after, guard⟩ := o
 simp only at ho
 subst ho
 refine ZcI (s.eval hy) (s.eval hz) (Zcy (by rintro _ _ ⟨h, _⟩; cases h) (by rintro ⟨h, _⟩; cases h) _) ?_
 show (Op.stringOp .add p q).run c.P w' = _
 unfold Op.stringOp
 have hmax : IntKind.i64.max = 9223372036854775807 := rfl
 simp only [hmax]
 rw [if_neg (by omega)]
 rfl
end
end Go.Proofs.YtfgcobigollfjaaDoor.Lx
