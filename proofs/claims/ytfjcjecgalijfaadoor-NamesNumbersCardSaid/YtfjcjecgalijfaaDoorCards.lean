/-
  DERIVED. GIVEN WITH THE SEED: THE CARDS: each row of YtfjcjecgalijfaaDoorRows.lean that lists a variable, with what it lists TIED to the program's text (the seventh form; the later family's looks); each row that meets fmt, with fmt's text TOLD by the authors' own Lean function (tested against real Go, not proved from fmt's source: count such statements apart). THE CARD IS WHAT COUNTS. Prove the row's statement (the work); the ties are given (YtfjcjecgalijfaaDoorTie.lean); close each card by the builder's one call (the guide's Derived/Test/ToyasCard.lean, 'card_holds'). Laid BY PROGRAM, IN A SANDBOX (cutbox-door.mjs). By AI agents, Wed Nov 11 2026. No macro, syntax, notation, axiom, sorry.
-/
import Derived.Test.YtfjcjecgalijfaaDoorRows
import GoSem.ClaimSeven
namespace Go.Proofs.YtfjcjecgalijfaaDoor
namespace Rows

/-- THE TIED CARD OF 'weirlaw0.NamesNumbers'. -/
def namesNumbersCard : Claim7 := { stood := { row := namesNumbersRow, standIns := [], harness := (true, "a83584d48b7b48d45cd64d90533e3f05bfd79379070a220c7d66a88aa29e1ba4"), looks := false }, kinds := [], alts := [], laidByText := true, laidKinds := [.data, .data, .data], laidTests := true, laidLooks := .later }
def NamesNumbersCardSaid : Prop := Claim7.holds Tryd.pinned (.plain (OpenSpec.ofChange namesNumbersSpec)) namesNumbersCard

/-- THE SECOND FORM's CARD OF 'weirlaw0.NamesNumbers'. -/
def namesNumbersUptoCard : Claim7 := { stood := { row := namesNumbersUptoRow, standIns := [], harness := (true, "a83584d48b7b48d45cd64d90533e3f05bfd79379070a220c7d66a88aa29e1ba4"), looks := false }, kinds := [], alts := [], laidByText := true, laidKinds := [.data, .data, .data], laidTests := true, laidLooks := .later }
def NamesNumbersUptoCardSaid : Prop := Claim7.holds Tryd.pinned (.plain (OpenSpec.upto namesNumbersSpec)) namesNumbersUptoCard
end Rows
end Go.Proofs.YtfjcjecgalijfaaDoor
