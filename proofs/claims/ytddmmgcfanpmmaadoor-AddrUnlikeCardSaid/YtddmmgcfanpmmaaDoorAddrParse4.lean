/- A hardware address is read (package addr: ParseMac). -/
import Derived.Test.YtddmmgcfanpmmaaDoorAddrParse3
set_option linter.unusedVariables false
set_option linter.unusedSimpArgs false
namespace Go.Proofs.YtddmmgcfanpmmaaDoor.Lx
open Go Go.Proofs Go.RowKit
def macOk (l : List Int) (i : Nat) : Bool := if i % 3 = 2 then decide (l.getD i 0 = 58) else isHex (l.getD i 0)
def macF (l : List Int) : Nat → Nat → Option Flt
  | 0, _ => none
  | f + 1, i => if i = l.length then some (42, i) else if macOk l i = true then macF l f (i + 1) else some (41, i)
def macB (l : List Int) (i j : Nat) : Int := if 3 * j + 1 < i then 16 * hexV (l.getD (3 * j) 0) + hexV (l.getD (3 * j + 1) 0) else if 3 * j < i then hexV (l.getD (3 * j) 0) else 0
def macV (l : List Int) (i : Nat) : Vec Int 6 := ⟨(List.range 6).map (macB l i), by simp⟩
def macP (l : List Int) : Vec Int 6 × Int × Int :=
  if l.length > 17 then (⟨[0, 0, 0, 0, 0, 0], rfl⟩, 2, 17) else match macF l 17 0 with
    | some f => (⟨[0, 0, 0, 0, 0, 0], rfl⟩, f.1, (f.2 : Int))
    | none => (macV l 17, 0, 0)
section
variable {W w : World} {Hs : List HP}
end
end Go.Proofs.YtddmmgcfanpmmaaDoor.Lx
