/-
  DERIVED. GIVEN WITH THE SEED: THE CARDS: each row of YtobemldccnnblaaGreatDoorRows.lean that lists a variable, with what it lists TIED to the program's text (the seventh form; the later family's looks); each row that meets fmt, with fmt's text TOLD by the authors' own Lean function (tested against real Go, not proved from fmt's source: count such statements apart). THE CARD IS WHAT COUNTS. Prove the row's statement (the work); the ties are given (YtobemldccnnblaaGreatDoorTie.lean); close each card by the builder's one call (the guide's Derived/Test/ToyasCard.lean, 'card_holds'). Laid BY PROGRAM, IN A SANDBOX (cutbox-door.mjs). By AI agents, Wed Nov 11 2026. No macro, syntax, notation, axiom, sorry.
-/
import Derived.Test.YtobemldccnnblaaGreatDoorRows
import GoSem.ClaimSeven
namespace Go.Proofs.YtobemldccnnblaaGreatDoor
namespace Rows

/-- THE TIED CARD OF 'weirlaw16.RulesCase'. -/
def rulesCaseCard : Claim7 := { stood := { row := rulesCaseRow, standIns := [], harness := (true, "921ab036c129a9a3f9540f4836a30aa5077ab98116eb05b4f67bd0e39582011d"), looks := false }, kinds := [], alts := [], laidByText := true, laidKinds := [.data, .data, .data, .widerDeep, .widerDeep, .widerDeep], laidTests := true, laidLooks := .later }
def RulesCaseCardSaid : Prop := Claim7.holds Tryz.pinned (.plain (OpenSpec.ofChange rulesCaseSpec)) rulesCaseCard

/-- THE SECOND FORM's CARD OF 'weirlaw16.RulesCase'. -/
def rulesCaseUptoCard : Claim7 := { stood := { row := rulesCaseUptoRow, standIns := [], harness := (true, "921ab036c129a9a3f9540f4836a30aa5077ab98116eb05b4f67bd0e39582011d"), looks := false }, kinds := [], alts := [], laidByText := true, laidKinds := [.data, .data, .data, .widerDeep, .widerDeep, .widerDeep], laidTests := true, laidLooks := .later }
def RulesCaseUptoCardSaid : Prop := Claim7.holds Tryz.pinned (.plain (OpenSpec.upto rulesCaseSpec)) rulesCaseUptoCard
end Rows
end Go.Proofs.YtobemldccnnblaaGreatDoor
