/-
  DERIVED. GIVEN WITH THE SEED: THE CARDS: each row of YtjceipelgkdoaaaGreatDoorRows.lean that lists a variable, with what it lists TIED to the program's text (the seventh form; the later family's looks); each row that meets fmt, with fmt's text TOLD by the authors' own Lean function (tested against real Go, not proved from fmt's source: count such statements apart). THE CARD IS WHAT COUNTS. Prove the row's statement (the work); the ties are given (YtjceipelgkdoaaaGreatDoorTie.lean); close each card by the builder's one call (the guide's Derived/Test/ToyasCard.lean, 'card_holds'). Laid BY PROGRAM, IN A SANDBOX (cutbox-door.mjs). By AI agents, Wed Nov 11 2026. No macro, syntax, notation, axiom, sorry.
-/
import Derived.Test.YtjceipelgkdoaaaGreatDoorRows
import GoSem.ClaimSeven
namespace Go.Proofs.YtjceipelgkdoaaaGreatDoor
namespace Rows

/-- THE TIED CARD OF 'weirlaw16.RulesFirst'. -/
def rulesFirstCard : Claim7 := { stood := { row := rulesFirstRow, standIns := [], harness := (true, "d094a02c9639ee0520039a310b7edade84f1bd2abc082089e38004fea882d31e"), looks := false }, kinds := [], alts := [], laidByText := true, laidKinds := [.data, .data, .data, .widerDeep, .widerDeep, .widerDeep], laidTests := true, laidLooks := .later }
def RulesFirstCardSaid : Prop := Claim7.holds Tryz.pinned (.plain (OpenSpec.ofChange rulesFirstSpec)) rulesFirstCard

/-- THE TIED CARD OF 'weirlaw16.RulesAny'. -/
def rulesAnyCard : Claim7 := { stood := { row := rulesAnyRow, standIns := [], harness := (true, "d094a02c9639ee0520039a310b7edade84f1bd2abc082089e38004fea882d31e"), looks := false }, kinds := [], alts := [], laidByText := true, laidKinds := [.data, .data, .data, .widerDeep, .widerDeep, .widerDeep], laidTests := true, laidLooks := .later }
def RulesAnyCardSaid : Prop := Claim7.holds Tryz.pinned (.plain (OpenSpec.ofChange rulesAnySpec)) rulesAnyCard

/-- THE TIED CARD OF 'weirlaw16.RulesNot'. -/
def rulesNotCard : Claim7 := { stood := { row := rulesNotRow, standIns := [], harness := (true, "d094a02c9639ee0520039a310b7edade84f1bd2abc082089e38004fea882d31e"), looks := false }, kinds := [], alts := [], laidByText := true, laidKinds := [.data, .data, .data, .widerDeep, .widerDeep, .widerDeep], laidTests := true, laidLooks := .later }
def RulesNotCardSaid : Prop := Claim7.holds Tryz.pinned (.plain (OpenSpec.ofChange rulesNotSpec)) rulesNotCard

/-- THE SECOND FORM's CARD OF 'weirlaw16.RulesFirst'. -/
def rulesFirstUptoCard : Claim7 := { stood := { row := rulesFirstUptoRow, standIns := [], harness := (true, "d094a02c9639ee0520039a310b7edade84f1bd2abc082089e38004fea882d31e"), looks := false }, kinds := [], alts := [], laidByText := true, laidKinds := [.data, .data, .data, .widerDeep, .widerDeep, .widerDeep], laidTests := true, laidLooks := .later }
def RulesFirstUptoCardSaid : Prop := Claim7.holds Tryz.pinned (.plain (OpenSpec.upto rulesFirstSpec)) rulesFirstUptoCard

/-- THE SECOND FORM's CARD OF 'weirlaw16.RulesAny'. -/
def rulesAnyUptoCard : Claim7 := { stood := { row := rulesAnyUptoRow, standIns := [], harness := (true, "d094a02c9639ee0520039a310b7edade84f1bd2abc082089e38004fea882d31e"), looks := false }, kinds := [], alts := [], laidByText := true, laidKinds := [.data, .data, .data, .widerDeep, .widerDeep, .widerDeep], laidTests := true, laidLooks := .later }
def RulesAnyUptoCardSaid : Prop := Claim7.holds Tryz.pinned (.plain (OpenSpec.upto rulesAnySpec)) rulesAnyUptoCard

/-- THE SECOND FORM's CARD OF 'weirlaw16.RulesNot'. -/
def rulesNotUptoCard : Claim7 := { stood := { row := rulesNotUptoRow, standIns := [], harness := (true, "d094a02c9639ee0520039a310b7edade84f1bd2abc082089e38004fea882d31e"), looks := false }, kinds := [], alts := [], laidByText := true, laidKinds := [.data, .data, .data, .widerDeep, .widerDeep, .widerDeep], laidTests := true, laidLooks := .later }
def RulesNotUptoCardSaid : Prop := Claim7.holds Tryz.pinned (.plain (OpenSpec.upto rulesNotSpec)) rulesNotUptoCard
end Rows
end Go.Proofs.YtjceipelgkdoaaaGreatDoor
