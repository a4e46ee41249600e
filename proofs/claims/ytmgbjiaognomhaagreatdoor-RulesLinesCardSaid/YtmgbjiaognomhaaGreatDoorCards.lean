/-
  DERIVED. GIVEN WITH THE SEED: THE CARDS: each row of YtmgbjiaognomhaaGreatDoorRows.lean that lists a variable, with what it lists TIED to the program's text (the seventh form; the later family's looks); each row that meets fmt, with fmt's text TOLD by the authors' own Lean function (tested against real Go, not proved from fmt's source: count such statements apart). THE CARD IS WHAT COUNTS. Prove the row's statement (the work); the ties are given (YtmgbjiaognomhaaGreatDoorTie.lean); close each card by the builder's one call (the guide's Derived/Test/ToyasCard.lean, 'card_holds'). Laid BY PROGRAM, IN A SANDBOX (cutbox-door.mjs). By AI agents, Wed Nov 11 2026. No macro, syntax, notation, axiom, sorry.
-/
import Derived.Test.YtmgbjiaognomhaaGreatDoorRows
import GoSem.ClaimSeven
namespace Go.Proofs.YtmgbjiaognomhaaGreatDoor
namespace Rows

/-- THE TIED CARD OF 'weirlaw16.RulesLines'. -/
def rulesLinesCard : Claim7 := { stood := { row := rulesLinesRow, standIns := [], harness := (true, "b1f8741263d65171db29adc44da98b1803c6cdd0f737323ad5bf56c99dc5d83b"), looks := false }, kinds := [], alts := [], laidByText := true, laidKinds := [.data, .data, .data, .widerDeep, .widerDeep, .widerDeep], laidTests := true, laidLooks := .later }
def RulesLinesCardSaid : Prop := Claim7.holds Tryz.pinned (.plain (OpenSpec.ofChange rulesLinesSpec)) rulesLinesCard

/-- THE SECOND FORM's CARD OF 'weirlaw16.RulesLines'. -/
def rulesLinesUptoCard : Claim7 := { stood := { row := rulesLinesUptoRow, standIns := [], harness := (true, "b1f8741263d65171db29adc44da98b1803c6cdd0f737323ad5bf56c99dc5d83b"), looks := false }, kinds := [], alts := [], laidByText := true, laidKinds := [.data, .data, .data, .widerDeep, .widerDeep, .widerDeep], laidTests := true, laidLooks := .later }
def RulesLinesUptoCardSaid : Prop := Claim7.holds Tryz.pinned (.plain (OpenSpec.upto rulesLinesSpec)) rulesLinesUptoCard
end Rows
end Go.Proofs.YtmgbjiaognomhaaGreatDoor
