/-
  DERIVED. GIVEN WITH THE SEED: THE CARDS: each row of YtfnokeoldcfcoaaGreatDoorRows.lean that lists a variable, with what it lists TIED to the program's text (the seventh form; the later family's looks); each row that meets fmt, with fmt's text TOLD by the authors' own Lean function (tested against real Go, not proved from fmt's source: count such statements apart). THE CARD IS WHAT COUNTS. Prove the row's statement (the work); the ties are given (YtfnokeoldcfcoaaGreatDoorTie.lean); close each card by the builder's one call (the guide's Derived/Test/ToyasCard.lean, 'card_holds'). Laid BY PROGRAM, IN A SANDBOX (cutbox-door.mjs). By AI agents, Wed Nov 11 2026. No macro, syntax, notation, axiom, sorry.
-/
import Derived.Test.YtfnokeoldcfcoaaGreatDoorRows
import GoSem.ClaimSeven
namespace Go.Proofs.YtfnokeoldcfcoaaGreatDoor
namespace Rows

/-- THE TIED CARD OF 'weirlaw16.RulesTwo'. -/
def rulesTwoCard : Claim7 := { stood := { row := rulesTwoRow, standIns := [], harness := (true, "a7d59c603da335ae97e3cc0bf6e602c4b001138bf24da377d4fac2153b7500f3"), looks := false }, kinds := [], alts := [], laidByText := true, laidKinds := [.data, .data, .data, .data, .widerDeep, .widerDeep, .widerDeep, .pinned], laidTests := true, laidLooks := .later }
def RulesTwoCardSaid : Prop := Claim7.holds Tryz.pinned (.plain (OpenSpec.ofChange rulesTwoSpec)) rulesTwoCard

/-- THE SECOND FORM's CARD OF 'weirlaw16.RulesTwo'. -/
def rulesTwoUptoCard : Claim7 := { stood := { row := rulesTwoUptoRow, standIns := [], harness := (true, "a7d59c603da335ae97e3cc0bf6e602c4b001138bf24da377d4fac2153b7500f3"), looks := false }, kinds := [], alts := [], laidByText := true, laidKinds := [.data, .data, .data, .data, .widerDeep, .widerDeep, .widerDeep, .pinned], laidTests := true, laidLooks := .later }
def RulesTwoUptoCardSaid : Prop := Claim7.holds Tryz.pinned (.plain (OpenSpec.upto rulesTwoSpec)) rulesTwoUptoCard
end Rows
end Go.Proofs.YtfnokeoldcfcoaaGreatDoor
