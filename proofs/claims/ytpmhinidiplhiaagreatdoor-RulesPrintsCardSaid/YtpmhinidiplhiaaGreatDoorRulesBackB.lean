
import Derived.Test.YtpmhinidiplhiaaGreatDoorRulesBackA
set_option linter.unusedVariables false
set_option linter.unusedSimpArgs false
namespace Go.Proofs.YtpmhinidiplhiaaGreatDoor.Lx
open Go Go.Proofs Go.RowKit
def addF (p : Int × Int) (f : Bool × Nat) : Int × Int := if f.1 = true then (p.1, p.2 + 2 ^ f.2) else (p.1 + 2 ^ f.2, p.2)
def OkF : List (Bool × Nat) → Int × Int → Prop
 | [], _ => True
 | f :: r, p => (f.2 < 8 ∧ hasB p.1 f.2 = false ∧ hasB p.2 f.2 = false) ∧ OkF r (addF p f)
theorem OkF.app : ∀ {a b : List (Bool × Nat)} {p : Int × Int}, OkF a p → OkF b (a.foldl addF p) → OkF (a ++ b) p
 | [], _, _, _, h => h
 | _ :: _, _, _, h1, h2 => ⟨h1.1, OkF.app h1.2 h2⟩
def st0 (m : Za9) : Za9 := { zRl with Act := m.Act, Class := m.Class, Kind := m.Kind, Proto := m.Proto }
end Go.Proofs.YtpmhinidiplhiaaGreatDoor.Lx
